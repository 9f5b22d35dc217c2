/- The table of types and the functions' code, with notes for the interpreter, and the facts that they are the program's: made by a program. -/
import Derived.Test.YteidaaobppjlbaaWb47a
set_option linter.unusedVariables false
namespace Go.Proofs.YteidaaobppjlbaaV
open Go.RowKit

def TT : Tbl := [(3, ⟨.int .i64, 1, 8, [(.d (.int .i64 0))]⟩),
  (4, ⟨.bool, 1, 1, [(.d (.bool false))]⟩),
  (5, ⟨.int .u8, 1, 1, [(.d (.int .u8 0))]⟩),
  (9, ⟨.str, 1, 16, [(.d (.str ⟨#[]⟩))]⟩),
  (22, ⟨.slice 26, 1, 24, [(.d .nils)]⟩),
  (26, ⟨.struct [(0, 3, 1), (1, 3, 1), (2, 3, 1), (3, 9, 1), (4, 9, 1), (5, 9, 1)], 6, 72, [(.d (.int .i64 0)), (.d (.int .i64 0)), (.d (.int .i64 0)), (.d (.str ⟨#[]⟩)), (.d (.str ⟨#[]⟩)), (.d (.str ⟨#[]⟩))]⟩),
  (27, ⟨.int .i64, 1, 8, [(.d (.int .i64 0))]⟩),
  (30, ⟨.slice 99, 1, 24, [(.d .nils)]⟩),
  (32, ⟨.slice 39, 1, 24, [(.d .nils)]⟩),
  (34, ⟨.map 9 3, 1, 8, [.nilm]⟩),
  (37, ⟨.struct [(0, 3, 1), (1, 3, 1)], 2, 16, [(.d (.int .i64 0)), (.d (.int .i64 0))]⟩),
  (39, ⟨.struct [(0, 3, 1), (1, 9, 1), (2, 9, 1), (3, 37, 2)], 5, 56, [(.d (.int .i64 0)), (.d (.str ⟨#[]⟩)), (.d (.str ⟨#[]⟩)), (.d (.int .i64 0)), (.d (.int .i64 0))]⟩),
  (45, ⟨.slice 103, 1, 24, [(.d .nils)]⟩),
  (46, ⟨.int .i8, 1, 1, [(.d (.int .i8 0))]⟩),
  (47, ⟨.arr 4 46, 4, 4, [(.d (.int .i8 0)), (.d (.int .i8 0)), (.d (.int .i8 0)), (.d (.int .i8 0))]⟩),
  (48, ⟨.slice 194, 1, 24, [(.d .nils)]⟩),
  (50, ⟨.struct [(0, 45, 1), (1, 47, 4), (5, 48, 1), (6, 5, 1)], 7, 64, [(.d .nils), (.d (.int .i8 0)), (.d (.int .i8 0)), (.d (.int .i8 0)), (.d (.int .i8 0)), (.d .nils), (.d (.int .u8 0))]⟩),
  (52, ⟨.slice 61, 1, 24, [(.d .nils)]⟩),
  (54, ⟨.slice 3, 1, 24, [(.d .nils)]⟩),
  (56, ⟨.slice 64, 1, 24, [(.d .nils)]⟩),
  (59, ⟨.slice 171, 1, 24, [(.d .nils)]⟩),
  (61, ⟨.struct [(0, 3, 1), (1, 3, 1), (2, 3, 1), (3, 3, 1), (4, 3, 1), (5, 3, 1), (6, 9, 1), (7, 9, 1), (8, 9, 1), (9, 3, 1), (10, 3, 1), (11, 4, 1), (12, 59, 1), (13, 56, 1)], 14, 168, [(.d (.int .i64 0)), (.d (.int .i64 0)), (.d (.int .i64 0)), (.d (.int .i64 0)), (.d (.int .i64 0)), (.d (.int .i64 0)), (.d (.str ⟨#[]⟩)), (.d (.str ⟨#[]⟩)), (.d (.str ⟨#[]⟩)), (.d (.int .i64 0)), (.d (.int .i64 0)), (.d (.bool false)), (.d .nils), (.d .nils)]⟩),
  (64, ⟨.struct [(0, 3, 1), (1, 3, 1)], 2, 16, [(.d (.int .i64 0)), (.d (.int .i64 0))]⟩),
  (66, ⟨.slice 9, 1, 24, [(.d .nils)]⟩),
  (72, ⟨.struct [(0, 3, 1), (1, 3, 1), (2, 3, 1)], 3, 24, [(.d (.int .i64 0)), (.d (.int .i64 0)), (.d (.int .i64 0))]⟩),
  (73, ⟨.map 3 4, 1, 8, [.nilm]⟩),
  (78, ⟨.arr 2 3, 2, 16, [(.d (.int .i64 0)), (.d (.int .i64 0))]⟩),
  (99, ⟨.struct [(0, 5, 1), (1, 5, 1), (2, 5, 1), (3, 5, 1), (4, 5, 1)], 5, 5, [(.d (.int .u8 0)), (.d (.int .u8 0)), (.d (.int .u8 0)), (.d (.int .u8 0)), (.d (.int .u8 0))]⟩),
  (101, ⟨.slice 154, 1, 24, [(.d .nils)]⟩),
  (103, ⟨.struct [(0, 5, 1), (1, 5, 1), (2, 101, 1)], 3, 32, [(.d (.int .u8 0)), (.d (.int .u8 0)), (.d .nils)]⟩),
  (104, ⟨.slice 107, 1, 24, [(.d .nils)]⟩),
  (107, ⟨.struct [(0, 3, 1), (1, 3, 1), (2, 52, 1)], 3, 40, [(.d (.int .i64 0)), (.d (.int .i64 0)), (.d .nils)]⟩),
  (110, ⟨.int .u64, 1, 8, [(.d (.int .u64 0))]⟩),
  (113, ⟨.other, 1, 8, [.nilf]⟩),
  (116, ⟨.struct [(0, 3, 1), (1, 9, 1), (2, 9, 1)], 3, 40, [(.d (.int .i64 0)), (.d (.str ⟨#[]⟩)), (.d (.str ⟨#[]⟩))]⟩),
  (154, ⟨.struct [(0, 5, 1), (1, 5, 1), (2, 5, 1), (3, 5, 1), (4, 5, 1), (5, 5, 1), (6, 5, 1), (7, 5, 1), (8, 5, 1), (9, 5, 1), (10, 4, 1)], 11, 11, [(.d (.int .u8 0)), (.d (.int .u8 0)), (.d (.int .u8 0)), (.d (.int .u8 0)), (.d (.int .u8 0)), (.d (.int .u8 0)), (.d (.int .u8 0)), (.d (.int .u8 0)), (.d (.int .u8 0)), (.d (.int .u8 0)), (.d (.bool false))]⟩),
  (169, ⟨.struct [(0, 3, 1), (1, 9, 1), (2, 3, 1)], 3, 32, [(.d (.int .i64 0)), (.d (.str ⟨#[]⟩)), (.d (.int .i64 0))]⟩),
  (171, ⟨.struct [(0, 9, 1), (1, 169, 3)], 4, 48, [(.d (.str ⟨#[]⟩)), (.d (.int .i64 0)), (.d (.str ⟨#[]⟩)), (.d (.int .i64 0))]⟩),
  (194, ⟨.struct [(0, 5, 1), (1, 5, 1), (2, 5, 1), (3, 5, 1), (4, 5, 1)], 5, 5, [(.d (.int .u8 0)), (.d (.int .u8 0)), (.d (.int .u8 0)), (.d (.int .u8 0)), (.d (.int .u8 0))]⟩)]
theorem TT_ok : TOk Try.prog TT := by unfold TOk; kernel_rfl
theorem T3 : TT.get 3 = some ⟨.int .i64, 1, 8, [(.d (.int .i64 0))]⟩ := by kernel_rfl
theorem T4 : TT.get 4 = some ⟨.bool, 1, 1, [(.d (.bool false))]⟩ := by kernel_rfl
theorem T5 : TT.get 5 = some ⟨.int .u8, 1, 1, [(.d (.int .u8 0))]⟩ := by kernel_rfl
theorem T9 : TT.get 9 = some ⟨.str, 1, 16, [(.d (.str ⟨#[]⟩))]⟩ := by kernel_rfl
theorem T22 : TT.get 22 = some ⟨.slice 26, 1, 24, [(.d .nils)]⟩ := by kernel_rfl
theorem T26 : TT.get 26 = some ⟨.struct [(0, 3, 1), (1, 3, 1), (2, 3, 1), (3, 9, 1), (4, 9, 1), (5, 9, 1)], 6, 72, [(.d (.int .i64 0)), (.d (.int .i64 0)), (.d (.int .i64 0)), (.d (.str ⟨#[]⟩)), (.d (.str ⟨#[]⟩)), (.d (.str ⟨#[]⟩))]⟩ := by kernel_rfl
theorem T27 : TT.get 27 = some ⟨.int .i64, 1, 8, [(.d (.int .i64 0))]⟩ := by kernel_rfl
theorem T30 : TT.get 30 = some ⟨.slice 99, 1, 24, [(.d .nils)]⟩ := by kernel_rfl
theorem T32 : TT.get 32 = some ⟨.slice 39, 1, 24, [(.d .nils)]⟩ := by kernel_rfl
theorem T34 : TT.get 34 = some ⟨.map 9 3, 1, 8, [.nilm]⟩ := by kernel_rfl
theorem T37 : TT.get 37 = some ⟨.struct [(0, 3, 1), (1, 3, 1)], 2, 16, [(.d (.int .i64 0)), (.d (.int .i64 0))]⟩ := by kernel_rfl
theorem T39 : TT.get 39 = some ⟨.struct [(0, 3, 1), (1, 9, 1), (2, 9, 1), (3, 37, 2)], 5, 56, [(.d (.int .i64 0)), (.d (.str ⟨#[]⟩)), (.d (.str ⟨#[]⟩)), (.d (.int .i64 0)), (.d (.int .i64 0))]⟩ := by kernel_rfl
theorem T45 : TT.get 45 = some ⟨.slice 103, 1, 24, [(.d .nils)]⟩ := by kernel_rfl
theorem T46 : TT.get 46 = some ⟨.int .i8, 1, 1, [(.d (.int .i8 0))]⟩ := by kernel_rfl
theorem T47 : TT.get 47 = some ⟨.arr 4 46, 4, 4, [(.d (.int .i8 0)), (.d (.int .i8 0)), (.d (.int .i8 0)), (.d (.int .i8 0))]⟩ := by kernel_rfl
theorem T48 : TT.get 48 = some ⟨.slice 194, 1, 24, [(.d .nils)]⟩ := by kernel_rfl
theorem T50 : TT.get 50 = some ⟨.struct [(0, 45, 1), (1, 47, 4), (5, 48, 1), (6, 5, 1)], 7, 64, [(.d .nils), (.d (.int .i8 0)), (.d (.int .i8 0)), (.d (.int .i8 0)), (.d (.int .i8 0)), (.d .nils), (.d (.int .u8 0))]⟩ := by kernel_rfl
theorem T52 : TT.get 52 = some ⟨.slice 61, 1, 24, [(.d .nils)]⟩ := by kernel_rfl
theorem T54 : TT.get 54 = some ⟨.slice 3, 1, 24, [(.d .nils)]⟩ := by kernel_rfl
theorem T56 : TT.get 56 = some ⟨.slice 64, 1, 24, [(.d .nils)]⟩ := by kernel_rfl
theorem T59 : TT.get 59 = some ⟨.slice 171, 1, 24, [(.d .nils)]⟩ := by kernel_rfl
theorem T61 : TT.get 61 = some ⟨.struct [(0, 3, 1), (1, 3, 1), (2, 3, 1), (3, 3, 1), (4, 3, 1), (5, 3, 1), (6, 9, 1), (7, 9, 1), (8, 9, 1), (9, 3, 1), (10, 3, 1), (11, 4, 1), (12, 59, 1), (13, 56, 1)], 14, 168, [(.d (.int .i64 0)), (.d (.int .i64 0)), (.d (.int .i64 0)), (.d (.int .i64 0)), (.d (.int .i64 0)), (.d (.int .i64 0)), (.d (.str ⟨#[]⟩)), (.d (.str ⟨#[]⟩)), (.d (.str ⟨#[]⟩)), (.d (.int .i64 0)), (.d (.int .i64 0)), (.d (.bool false)), (.d .nils), (.d .nils)]⟩ := by kernel_rfl
theorem T64 : TT.get 64 = some ⟨.struct [(0, 3, 1), (1, 3, 1)], 2, 16, [(.d (.int .i64 0)), (.d (.int .i64 0))]⟩ := by kernel_rfl
theorem T66 : TT.get 66 = some ⟨.slice 9, 1, 24, [(.d .nils)]⟩ := by kernel_rfl
theorem T72 : TT.get 72 = some ⟨.struct [(0, 3, 1), (1, 3, 1), (2, 3, 1)], 3, 24, [(.d (.int .i64 0)), (.d (.int .i64 0)), (.d (.int .i64 0))]⟩ := by kernel_rfl
theorem T73 : TT.get 73 = some ⟨.map 3 4, 1, 8, [.nilm]⟩ := by kernel_rfl
theorem T78 : TT.get 78 = some ⟨.arr 2 3, 2, 16, [(.d (.int .i64 0)), (.d (.int .i64 0))]⟩ := by kernel_rfl
theorem T99 : TT.get 99 = some ⟨.struct [(0, 5, 1), (1, 5, 1), (2, 5, 1), (3, 5, 1), (4, 5, 1)], 5, 5, [(.d (.int .u8 0)), (.d (.int .u8 0)), (.d (.int .u8 0)), (.d (.int .u8 0)), (.d (.int .u8 0))]⟩ := by kernel_rfl
theorem T101 : TT.get 101 = some ⟨.slice 154, 1, 24, [(.d .nils)]⟩ := by kernel_rfl
theorem T103 : TT.get 103 = some ⟨.struct [(0, 5, 1), (1, 5, 1), (2, 101, 1)], 3, 32, [(.d (.int .u8 0)), (.d (.int .u8 0)), (.d .nils)]⟩ := by kernel_rfl
theorem T104 : TT.get 104 = some ⟨.slice 107, 1, 24, [(.d .nils)]⟩ := by kernel_rfl
theorem T107 : TT.get 107 = some ⟨.struct [(0, 3, 1), (1, 3, 1), (2, 52, 1)], 3, 40, [(.d (.int .i64 0)), (.d (.int .i64 0)), (.d .nils)]⟩ := by kernel_rfl
theorem T110 : TT.get 110 = some ⟨.int .u64, 1, 8, [(.d (.int .u64 0))]⟩ := by kernel_rfl
theorem T113 : TT.get 113 = some ⟨.other, 1, 8, [.nilf]⟩ := by kernel_rfl
theorem T116 : TT.get 116 = some ⟨.struct [(0, 3, 1), (1, 9, 1), (2, 9, 1)], 3, 40, [(.d (.int .i64 0)), (.d (.str ⟨#[]⟩)), (.d (.str ⟨#[]⟩))]⟩ := by kernel_rfl
theorem T154 : TT.get 154 = some ⟨.struct [(0, 5, 1), (1, 5, 1), (2, 5, 1), (3, 5, 1), (4, 5, 1), (5, 5, 1), (6, 5, 1), (7, 5, 1), (8, 5, 1), (9, 5, 1), (10, 4, 1)], 11, 11, [(.d (.int .u8 0)), (.d (.int .u8 0)), (.d (.int .u8 0)), (.d (.int .u8 0)), (.d (.int .u8 0)), (.d (.int .u8 0)), (.d (.int .u8 0)), (.d (.int .u8 0)), (.d (.int .u8 0)), (.d (.int .u8 0)), (.d (.bool false))]⟩ := by kernel_rfl
theorem T169 : TT.get 169 = some ⟨.struct [(0, 3, 1), (1, 9, 1), (2, 3, 1)], 3, 32, [(.d (.int .i64 0)), (.d (.str ⟨#[]⟩)), (.d (.int .i64 0))]⟩ := by kernel_rfl
theorem T171 : TT.get 171 = some ⟨.struct [(0, 9, 1), (1, 169, 3)], 4, 48, [(.d (.str ⟨#[]⟩)), (.d (.int .i64 0)), (.d (.str ⟨#[]⟩)), (.d (.int .i64 0))]⟩ := by kernel_rfl
theorem T194 : TT.get 194 = some ⟨.struct [(0, 5, 1), (1, 5, 1), (2, 5, 1), (3, 5, 1), (4, 5, 1)], 5, 5, [(.d (.int .u8 0)), (.d (.int .u8 0)), (.d (.int .u8 0)), (.d (.int .u8 0)), (.d (.int .u8 0))]⟩ := by kernel_rfl
def c50_2 (z : Nat) : SC := .post (.seq (.post (.seq (.post (.reg [⟨(some 31), (Op.move (Operand.tmp 6)), none, ann0⟩,
  ⟨(some 32), (Op.binOp BinOp.gtr 3 (Operand.tmp 31) (Operand.const (Value.int IntKind.i64 0)) 3), none, ann0⟩,
  ⟨(some 33), (Op.move (Operand.tmp 32)), none, ann0⟩,
  ⟨(some 34), (Op.move (Operand.tmp 3)), (some (33, true)), ann0⟩,
  ⟨(some 35), (Op.move (Operand.tmp 6)), (some (33, true)), ann0⟩,
  ⟨(some 36), (Op.binOp BinOp.sub 3 (Operand.tmp 35) (Operand.const (Value.int IntKind.i64 1)) 3), (some (33, true)), ann0⟩,
  ⟨(some 37), (Op.indexAddr 104 (Operand.tmp 34) (Operand.tmp 36)), (some (33, true)), ann0⟩,
  ⟨(some 38), (Op.fieldAddr 107 (Operand.tmp 37) 0), (some (33, true)), ann0⟩,
  ⟨(some 39), (Op.load 3 (Operand.tmp 38)), (some (33, true)), ann0⟩,
  ⟨(some 40), (Op.fieldAddr 107 (Operand.tmp 5) 0), (some (33, true)), ann0⟩,
  ⟨(some 41), (Op.load 3 (Operand.tmp 40)), (some (33, true)), ann0⟩,
  ⟨(some 42), (Op.binOp BinOp.gtr 3 (Operand.tmp 39) (Operand.tmp 41) 3), (some (33, true)), ann0⟩,
  ⟨(some 43), (Op.pick (Operand.tmp 33) (Operand.tmp 42) (Operand.const (Value.bool false))), none, ann0⟩] (some [0, 1, 3, 7, 7, 23, 63, 127, 255, 7, 519, 2047, 4095])) (.tidy [1, 3, 4, 5, 6, 43] z (z + 2)))
 (.cond (Operand.tmp 43) .skip
 (.exit 2))) (.tidy [1, 3, 4, 5, 6] z (z + 2)))
 (.block 3 (.reg [⟨(some 44), (Op.move (Operand.tmp 6)), none, ann0⟩,
  ⟨(some 45), (Op.binOp BinOp.sub 3 (Operand.tmp 44) (Operand.const (Value.int IntKind.i64 1)) 3), none, ann0⟩,
  ⟨(some 6), (Op.assign (Operand.tmp 45)), none, ann0⟩] none))) (.tidy [1, 3, 4, 5, 6] z (z + 2))
def s50_2 (z : Nat) : SC := c50_2 z
theorem e50_2 {C : Pg} {z : Nat} {st : St} {ks : List Fr} {K : Ex → St → Prop} : wpk C (s50_2 z) st ks K ↔ wpk C (c50_2 z) st ks K := Iff.rfl
def c50_1 (z : Nat) : SC := .post (.seq (.post (.seq (.reg [⟨(some 7), (Op.move (Operand.tmp 4)), none, ann0⟩,
  ⟨(some 8), (Op.fieldAddr 50 (Operand.tmp 1) 0), none, ann0⟩,
  ⟨(some 9), (Op.load 45 (Operand.tmp 8)), none, ann0⟩,
  ⟨(some 10), (Op.call { callee := (Callee.builtin Builtin.len), args := #[(Operand.tmp 9)], argTypes := #[45] }), none, ann0⟩,
  ⟨(some 11), (Op.binOp BinOp.lss 3 (Operand.tmp 7) (Operand.tmp 10) 3), none, ann0⟩] none)
 (.cond (Operand.tmp 11) .skip
 (.exit 0))) (.tidy [1, 3, 4] z (z + 1)))
 (.seq (.post (.block 1 (.seq (.post (.seq (.post (.reg [⟨(some 14), (Op.fieldAddr 50 (Operand.tmp 1) 0), none, ann0⟩,
  ⟨(some 15), (Op.load 45 (Operand.tmp 14)), none, ann0⟩,
  ⟨(some 16), (Op.move (Operand.tmp 4)), none, ann0⟩,
  ⟨(some 17), (Op.indexAddr 45 (Operand.tmp 15) (Operand.tmp 16)), none, ann0⟩,
  ⟨(some 18), (Op.fieldAddr 103 (Operand.tmp 17) 2), none, ann0⟩,
  ⟨(some 19), (Op.load 101 (Operand.tmp 18)), none, ann0⟩,
  ⟨(some 20), (Op.call { callee := (Callee.builtin Builtin.len), args := #[(Operand.tmp 19)], argTypes := #[101] }), none, ann0⟩,
  ⟨(some 21), (Op.binOp BinOp.eql 3 (Operand.tmp 20) (Operand.const (Value.int IntKind.i64 0)) 3), none, ann0⟩] none) (.tidy [1, 3, 4, 21] z (z + 1)))
 (.cond (Operand.tmp 21) (.exit 1)
 .skip)) (.tidy [1, 3, 4] z (z + 1)))
 (.seq (.post (.reg [⟨(some 22), (Op.load 50 (Operand.tmp 1)), none, ann0⟩,
  ⟨(some 23), (Op.move (Operand.tmp 4)), none, ann0⟩,
  ⟨(some 24), (Op.call { callee := (Callee.value (Operand.func 70)), args := #[(Operand.tmp 22), (Operand.tmp 23)], argTypes := #[50, 3] }), none, ann0⟩,
  ⟨(some 25), (Op.load 50 (Operand.tmp 1)), none, ann0⟩,
  ⟨(some 26), (Op.move (Operand.tmp 4)), none, ann0⟩,
  ⟨(some 27), (Op.call { callee := (Callee.value (Operand.func 71)), args := #[(Operand.tmp 25), (Operand.tmp 26), (Operand.const (Value.bool false))], argTypes := #[50, 3, 4] }), none, ann0⟩,
  ⟨(some 28), (Op.build 107 #[(0, (Operand.tmp 24)), (1, (Operand.const (Value.int IntKind.i64 1))), (2, (Operand.tmp 27))]), none, ann0⟩,
  ⟨(some 5), (Op.alloc 107), none, ⟨1, false, false⟩⟩,
  ⟨none, (Op.store 107 (Operand.tmp 5) (Operand.tmp 28)), none, ann0⟩] (some [0, 0, 3, 0, 0, 31, 63, 0, 255])) (.tidy [1, 3, 4, 5] z (z + 2)))
 (.seq (.reg [⟨(some 29), (Op.move (Operand.tmp 3)), none, ann0⟩,
  ⟨(some 30), (Op.call { callee := (Callee.builtin Builtin.len), args := #[(Operand.tmp 29)], argTypes := #[104] }), none, ann0⟩,
  ⟨(some 6), (Op.assign (Operand.tmp 30)), none, ann0⟩] none)
 (.seq (.post (.block 2 (.pre (.tidy [1, 3, 4, 5, 6] z (z + 2)) (.loop (s50_2 z)))) (.tidy [1, 3, 4, 5, 6] z (z + 2)))
 (.post (.reg [⟨(some 46), (Op.buildSlice 104 0 #[]), none, ⟨1, false, false⟩⟩,
  ⟨(some 47), (Op.move (Operand.tmp 3)), none, ann0⟩,
  ⟨(some 48), (Op.move (Operand.tmp 6)), none, ann0⟩,
  ⟨(some 49), (Op.slice 104 (Operand.tmp 47) none (some (Operand.tmp 48)) none), none, ann0⟩,
  ⟨(some 50), (Op.call { callee := (Callee.builtin Builtin.append), args := #[(Operand.tmp 46), (Operand.tmp 49)], argTypes := #[104, 104] }), none, ann0⟩,
  ⟨(some 51), (Op.load 107 (Operand.tmp 5)), none, ann0⟩,
  ⟨(some 52), (Op.buildSlice 104 1 #[(0, (Operand.tmp 51))]), none, ⟨1, true, false⟩⟩,
  ⟨(some 53), (Op.call { callee := (Callee.builtin Builtin.append), args := #[(Operand.tmp 50), (Operand.tmp 52)], argTypes := #[104, 104] }), none, ann0⟩,
  ⟨(some 54), (Op.move (Operand.tmp 3)), none, ann0⟩,
  ⟨(some 55), (Op.move (Operand.tmp 6)), none, ann0⟩,
  ⟨(some 56), (Op.slice 104 (Operand.tmp 54) (some (Operand.tmp 55)) none none), none, ann0⟩,
  ⟨(some 57), (Op.call { callee := (Callee.builtin Builtin.append), args := #[(Operand.tmp 53), (Operand.tmp 56)], argTypes := #[104, 104] }), none, ann0⟩,
  ⟨(some 3), (Op.assign (Operand.tmp 57)), none, ann0⟩] (some [0, 0, 0, 6, 15, 0, 32, 127, 0, 0, 768, 2047, 4095])) (.frz 3))))))) (.tidy [1, 3, 4] z (z + 4)))
 (.reg [⟨(some 12), (Op.move (Operand.tmp 4)), none, ann0⟩,
  ⟨(some 13), (Op.binOp BinOp.add 3 (Operand.tmp 12) (Operand.const (Value.int IntKind.i64 1)) 3), none, ann0⟩,
  ⟨(some 4), (Op.assign (Operand.tmp 13)), none, ann0⟩] none))) (.tidy [1, 3, 4] z (z + 1))
def s50_1 (z : Nat) : SC := c50_1 z
theorem e50_1 {C : Pg} {z : Nat} {st : St} {ks : List Fr} {K : Ex → St → Prop} : wpk C (s50_1 z) st ks K ↔ wpk C (c50_1 z) st ks K := Iff.rfl
def s50 (z : Nat) : SFn := ⟨1, 59, [(ResultVar.tmp 2)],
 (.post (.seq (.reg [⟨(some 1), (Op.box 50 (Operand.tmp 0)), none, ⟨1, false, false⟩⟩,
  ⟨(some 2), (Op.assign (Operand.const (Value.slice none 0 0))), none, ann0⟩] none)
 (.seq (.reg [⟨(some 3), (Op.assign (Operand.const (Value.slice none 0 0))), none, ann0⟩] none)
 (.seq (.post (.seq (.reg [⟨(some 4), (Op.assign (Operand.const (Value.int IntKind.i64 0))), none, ann0⟩] none)
 (.post (.block 0 (.pre (.tidy [1, 3, 4] z (z + 1)) (.loop (s50_1 z)))) (.tidy [3] z (z + 1)))) (.tidy [3] z (z + 1)))
 (.seq (.reg [⟨(some 58), (Op.move (Operand.tmp 3)), none, ann0⟩,
  ⟨(some 2), (Op.assign (Operand.tmp 58)), none, ann0⟩] none)
 .ret)))) (.frz 2))⟩
theorem F50 (z : Nat) : FOk Try.prog 50 (s50 z) := by unfold FOk; kernel_rfl
def c24_1 (z : Nat) : SC := .post (.seq (.seq (.post (.reg [⟨(some 8), (Op.move (Operand.tmp 5)), none, ann0⟩,
  ⟨(some 9), (Op.move (Operand.tmp 4)), none, ann0⟩,
  ⟨(some 10), (Op.call { callee := (Callee.builtin Builtin.len), args := #[(Operand.tmp 9)], argTypes := #[104] }), none, ann0⟩,
  ⟨(some 11), (Op.binOp BinOp.lss 3 (Operand.tmp 8) (Operand.tmp 10) 3), none, ann0⟩] none) (.tidy [3, 4, 5, 11] z (z + 2)))
 (.cond (Operand.tmp 11) .skip
 (.exit 0)))
 (.seq (.post (.block 1 (.reg [⟨(some 14), (Op.move (Operand.tmp 3)), none, ann0⟩,
  ⟨(some 15), (Op.move (Operand.tmp 4)), none, ann0⟩,
  ⟨(some 16), (Op.move (Operand.tmp 5)), none, ann0⟩,
  ⟨(some 17), (Op.indexAddr 104 (Operand.tmp 15) (Operand.tmp 16)), none, ann0⟩,
  ⟨(some 18), (Op.fieldAddr 107 (Operand.tmp 17) 2), none, ann0⟩,
  ⟨(some 19), (Op.load 52 (Operand.tmp 18)), none, ann0⟩,
  ⟨(some 20), (Op.call { callee := (Callee.builtin Builtin.append), args := #[(Operand.tmp 14), (Operand.tmp 19)], argTypes := #[52, 52] }), none, ann0⟩,
  ⟨(some 3), (Op.assign (Operand.tmp 20)), none, ann0⟩] none)) (.tidy [3, 4, 5] z (z + 2)))
 (.reg [⟨(some 12), (Op.move (Operand.tmp 5)), none, ann0⟩,
  ⟨(some 13), (Op.binOp BinOp.add 3 (Operand.tmp 12) (Operand.const (Value.int IntKind.i64 1)) 3), none, ann0⟩,
  ⟨(some 5), (Op.assign (Operand.tmp 13)), none, ann0⟩] none))) (.tidy [3, 4, 5] z (z + 2))
def s24_1 (z : Nat) : SC := c24_1 z
theorem e24_1 {C : Pg} {z : Nat} {st : St} {ks : List Fr} {K : Ex → St → Prop} : wpk C (s24_1 z) st ks K ↔ wpk C (c24_1 z) st ks K := Iff.rfl
def s24 (z : Nat) : SFn := ⟨1, 22, [(ResultVar.tmp 2)],
 (.post (.seq (.reg [⟨(some 1), (Op.box 50 (Operand.tmp 0)), none, ⟨1, false, false⟩⟩,
  ⟨(some 2), (Op.assign (Operand.const (Value.slice none 0 0))), none, ann0⟩] none)
 (.seq (.post (.reg [⟨(some 3), (Op.assign (Operand.const (Value.slice none 0 0))), none, ann0⟩] none) (.mkv 3 61 14))
 (.seq (.reg [⟨(some 6), (Op.load 50 (Operand.tmp 1)), none, ann0⟩,
  ⟨(some 7), (Op.call { callee := (Callee.value (Operand.func 50)), args := #[(Operand.tmp 6)], argTypes := #[50] }), none, ann0⟩,
  ⟨(some 4), (Op.assign (Operand.tmp 7)), none, ann0⟩] none)
 (.seq (.post (.seq (.reg [⟨(some 5), (Op.assign (Operand.const (Value.int IntKind.i64 0))), none, ann0⟩] none)
 (.post (.block 0 (.pre (.tidy [3, 4, 5] z (z + 2)) (.loop (s24_1 z)))) (.tidy [3] z (z + 2)))) (.tidy [3] z (z + 2)))
 (.seq (.reg [⟨(some 21), (Op.move (Operand.tmp 3)), none, ann0⟩,
  ⟨(some 2), (Op.assign (Operand.tmp 21)), none, ann0⟩] none)
 .ret))))) (.frz 2))⟩
theorem F24 (z : Nat) : FOk Try.prog 24 (s24 z) := by unfold FOk; kernel_rfl
def s51 (z : Nat) : SFn := ⟨1, 5, [(ResultVar.tmp 2)],
 (.seq (.reg [⟨(some 2), (Op.assign (Operand.const (Value.int IntKind.i64 0))), none, ann0⟩] none)
 (.seq (.reg [⟨(some 3), (Op.move (Operand.tmp 0)), none, ann0⟩,
  ⟨(some 4), (Op.binOp BinOp.shr 3 (Operand.tmp 3) (Operand.const (Value.int IntKind.u64 20)) 110), none, ann0⟩,
  ⟨(some 2), (Op.assign (Operand.tmp 4)), none, ann0⟩] none)
 .ret))⟩
theorem F51 (z : Nat) : FOk Try.prog 51 (s51 z) := by unfold FOk; kernel_rfl
def c25_1 (z : Nat) : SC := .post (.seq (.reg [⟨(some 13), (Op.binOp BinOp.lss 3 (Operand.tmp 12) (Operand.tmp 11) 3), none, ann0⟩] none)
 (.seq (.cond (Operand.tmp 13) .skip
 (.exit 0))
 (.seq (.post (.block 1 (.seq (.reg [⟨(some 14), (Op.indexAddr 52 (Operand.tmp 10) (Operand.tmp 12)), none, ann0⟩,
  ⟨(some 15), (Op.load 61 (Operand.tmp 14)), none, ann0⟩,
  ⟨(some 7), (Op.alloc 61), none, ⟨1, false, false⟩⟩,
  ⟨none, (Op.store 61 (Operand.tmp 7) (Operand.tmp 15)), none, ann0⟩] none)
 (.seq (.post (.reg [⟨(some 17), (Op.move (Operand.tmp 0)), none, ann0⟩,
  ⟨(some 18), (Op.fieldAddr 61 (Operand.tmp 7) 6), none, ann0⟩,
  ⟨(some 19), (Op.load 9 (Operand.tmp 18)), none, ann0⟩,
  ⟨(some 20), (Op.fieldAddr 61 (Operand.tmp 7) 0), none, ann0⟩,
  ⟨(some 21), (Op.load 3 (Operand.tmp 20)), none, ann0⟩,
  ⟨(some 22), (Op.call { callee := (Callee.value (Operand.func 51)), args := #[(Operand.tmp 21)], argTypes := #[3] }), none, ann0⟩,
  ⟨(some 23), (Op.call { callee := (Callee.value (Operand.func 29)), args := #[(Operand.tmp 17), (Operand.tmp 19), (Operand.tmp 22)], argTypes := #[22, 9, 3] }), none, ann0⟩,
  ⟨(some 16), (Op.move (Operand.tmp 23)), none, ann0⟩,
  ⟨(some 24), (Op.extract (Operand.tmp 16) 0), none, ann0⟩,
  ⟨(some 25), (Op.extract (Operand.tmp 16) 1), none, ann0⟩,
  ⟨(some 8), (Op.alloc 26), none, ⟨1, false, false⟩⟩,
  ⟨none, (Op.store 26 (Operand.tmp 8) (Operand.tmp 24)), none, ann0⟩,
  ⟨(some 9), (Op.assign (Operand.tmp 25)), none, ann0⟩] (some [0, 0, 2, 0, 8, 24, 63, 127, 255, 255, 0, 1535, 4095])) (.tidy [0, 5, 8, 10, 11, 12] z (z + 3)))
 (.reg [⟨(some 26), (Op.move (Operand.tmp 5)), none, ann0⟩,
  ⟨(some 27), (Op.fieldAddr 26 (Operand.tmp 8) 0), none, ann0⟩,
  ⟨(some 28), (Op.load 3 (Operand.tmp 27)), none, ann0⟩,
  ⟨(some 29), (Op.buildSlice 54 1 #[(0, (Operand.tmp 28))]), none, ⟨1, true, false⟩⟩,
  ⟨(some 30), (Op.call { callee := (Callee.builtin Builtin.append), args := #[(Operand.tmp 26), (Operand.tmp 29)], argTypes := #[54, 54] }), none, ann0⟩,
  ⟨(some 5), (Op.assign (Operand.tmp 30)), none, ann0⟩] none)))) (.tidy [0, 5, 10, 11, 12] z (z + 4)))
 (.reg [⟨(some 31), (Op.binOp BinOp.add 3 (Operand.tmp 12) (Operand.const (Value.int IntKind.i64 1)) 3), none, ann0⟩,
  ⟨(some 12), (Op.move (Operand.tmp 31)), none, ann0⟩] none)))) (.tidy [0, 5, 10, 11, 12] z (z + 1))
def s25_1 (z : Nat) : SC := c25_1 z
theorem e25_1 {C : Pg} {z : Nat} {st : St} {ks : List Fr} {K : Ex → St → Prop} : wpk C (s25_1 z) st ks K ↔ wpk C (c25_1 z) st ks K := Iff.rfl
def s25 (z : Nat) : SFn := ⟨2, 33, [(ResultVar.tmp 4)],
 (.post (.seq (.reg [⟨(some 4), (Op.assign (Operand.const (Value.slice none 0 0))), none, ann0⟩] none)
 (.seq (.post (.reg [⟨(some 5), (Op.assign (Operand.const (Value.slice none 0 0))), none, ann0⟩] none) (.mkv 5 3 1))
 (.seq (.post (.seq (.reg [⟨(some 10), (Op.move (Operand.tmp 1)), none, ann0⟩,
  ⟨(some 11), (Op.call { callee := (Callee.builtin Builtin.len), args := #[(Operand.tmp 10)], argTypes := #[52] }), none, ann0⟩,
  ⟨(some 12), (Op.move (Operand.const (Value.int IntKind.i64 0))), none, ann0⟩] none)
 (.post (.block 0 (.pre (.tidy [0, 5, 10, 11, 12] z (z + 1)) (.loop (s25_1 z)))) (.tidy [5] z (z + 1)))) (.tidy [5] z (z + 1)))
 (.seq (.reg [⟨(some 32), (Op.move (Operand.tmp 5)), none, ann0⟩,
  ⟨(some 4), (Op.assign (Operand.tmp 32)), none, ann0⟩] none)
 .ret)))) (.frz 4))⟩
theorem F25 (z : Nat) : FOk Try.prog 25 (s25 z) := by unfold FOk; kernel_rfl
def s52 (z : Nat) : SFn := ⟨1, 8, [(ResultVar.cell 2 64)],
 (.seq (.reg [⟨(some 1), (Op.box 61 (Operand.tmp 0)), none, ⟨1, false, false⟩⟩,
  ⟨(some 2), (Op.alloc 64), none, ⟨1, false, false⟩⟩] none)
 (.seq (.reg [⟨(some 3), (Op.fieldAddr 61 (Operand.tmp 1) 0), none, ann0⟩,
  ⟨(some 4), (Op.load 3 (Operand.tmp 3)), none, ann0⟩,
  ⟨(some 5), (Op.fieldAddr 61 (Operand.tmp 1) 1), none, ann0⟩,
  ⟨(some 6), (Op.load 3 (Operand.tmp 5)), none, ann0⟩,
  ⟨(some 7), (Op.build 64 #[(0, (Operand.tmp 4)), (1, (Operand.tmp 6))]), none, ann0⟩,
  ⟨none, (Op.store 64 (Operand.tmp 2) (Operand.tmp 7)), none, ann0⟩] none)
 .ret))⟩
theorem F52 (z : Nat) : FOk Try.prog 52 (s52 z) := by unfold FOk; kernel_rfl
def c26_1 (z : Nat) : SC := .post (.seq (.reg [⟨(some 13), (Op.binOp BinOp.lss 3 (Operand.tmp 12) (Operand.tmp 11) 3), none, ann0⟩] none)
 (.seq (.cond (Operand.tmp 13) .skip
 (.exit 0))
 (.seq (.post (.block 1 (.seq (.reg [⟨(some 14), (Op.indexAddr 52 (Operand.tmp 10) (Operand.tmp 12)), none, ann0⟩,
  ⟨(some 15), (Op.load 61 (Operand.tmp 14)), none, ann0⟩,
  ⟨(some 7), (Op.alloc 61), none, ⟨1, false, false⟩⟩,
  ⟨none, (Op.store 61 (Operand.tmp 7) (Operand.tmp 15)), none, ann0⟩] none)
 (.seq (.post (.reg [⟨(some 17), (Op.move (Operand.tmp 0)), none, ann0⟩,
  ⟨(some 18), (Op.fieldAddr 61 (Operand.tmp 7) 6), none, ann0⟩,
  ⟨(some 19), (Op.load 9 (Operand.tmp 18)), none, ann0⟩,
  ⟨(some 20), (Op.fieldAddr 61 (Operand.tmp 7) 0), none, ann0⟩,
  ⟨(some 21), (Op.load 3 (Operand.tmp 20)), none, ann0⟩,
  ⟨(some 22), (Op.call { callee := (Callee.value (Operand.func 51)), args := #[(Operand.tmp 21)], argTypes := #[3] }), none, ann0⟩,
  ⟨(some 23), (Op.call { callee := (Callee.value (Operand.func 29)), args := #[(Operand.tmp 17), (Operand.tmp 19), (Operand.tmp 22)], argTypes := #[22, 9, 3] }), none, ann0⟩,
  ⟨(some 16), (Op.move (Operand.tmp 23)), none, ann0⟩,
  ⟨(some 24), (Op.extract (Operand.tmp 16) 0), none, ann0⟩,
  ⟨(some 25), (Op.extract (Operand.tmp 16) 1), none, ann0⟩,
  ⟨(some 8), (Op.alloc 26), none, ⟨1, false, false⟩⟩,
  ⟨none, (Op.store 26 (Operand.tmp 8) (Operand.tmp 24)), none, ann0⟩,
  ⟨(some 9), (Op.assign (Operand.tmp 25)), none, ann0⟩] (some [0, 0, 2, 0, 8, 24, 63, 127, 255, 255, 0, 1535, 4095])) (.tidy [0, 5, 7, 8, 9, 10, 11, 12] z (z + 3)))
 (.seq (.post (.reg [⟨(some 26), (Op.move (Operand.tmp 9)), none, ann0⟩,
  ⟨(some 27), (Op.move (Operand.tmp 26)), none, ann0⟩,
  ⟨(some 28), (Op.fieldAddr 26 (Operand.tmp 8) 5), (some (27, true)), ann0⟩,
  ⟨(some 29), (Op.load 9 (Operand.tmp 28)), (some (27, true)), ann0⟩,
  ⟨(some 30), (Op.fieldAddr 61 (Operand.tmp 7) 7), (some (27, true)), ann0⟩,
  ⟨(some 31), (Op.load 9 (Operand.tmp 30)), (some (27, true)), ann0⟩,
  ⟨(some 32), (Op.binOp BinOp.neq 9 (Operand.tmp 29) (Operand.tmp 31) 9), (some (27, true)), ann0⟩,
  ⟨(some 33), (Op.pick (Operand.tmp 27) (Operand.tmp 32) (Operand.const (Value.bool false))), none, ann0⟩] none) (.tidy [0, 5, 7, 10, 11, 12, 33] z (z + 3)))
 (.cond (Operand.tmp 33) (.reg [⟨(some 34), (Op.move (Operand.tmp 5)), none, ann0⟩,
  ⟨(some 35), (Op.load 61 (Operand.tmp 7)), none, ann0⟩,
  ⟨(some 36), (Op.call { callee := (Callee.value (Operand.func 52)), args := #[(Operand.tmp 35)], argTypes := #[61] }), none, ann0⟩,
  ⟨(some 37), (Op.buildSlice 56 1 #[(0, (Operand.tmp 36))]), none, ⟨1, true, false⟩⟩,
  ⟨(some 38), (Op.call { callee := (Callee.builtin Builtin.append), args := #[(Operand.tmp 34), (Operand.tmp 37)], argTypes := #[56, 56] }), none, ann0⟩,
  ⟨(some 5), (Op.assign (Operand.tmp 38)), none, ann0⟩] none)
 .skip))))) (.tidy [0, 5, 10, 11, 12] z (z + 4)))
 (.reg [⟨(some 39), (Op.binOp BinOp.add 3 (Operand.tmp 12) (Operand.const (Value.int IntKind.i64 1)) 3), none, ann0⟩,
  ⟨(some 12), (Op.move (Operand.tmp 39)), none, ann0⟩] none)))) (.tidy [0, 5, 10, 11, 12] z (z + 1))
def s26_1 (z : Nat) : SC := c26_1 z
theorem e26_1 {C : Pg} {z : Nat} {st : St} {ks : List Fr} {K : Ex → St → Prop} : wpk C (s26_1 z) st ks K ↔ wpk C (c26_1 z) st ks K := Iff.rfl
def s26 (z : Nat) : SFn := ⟨2, 41, [(ResultVar.tmp 4)],
 (.post (.seq (.reg [⟨(some 4), (Op.assign (Operand.const (Value.slice none 0 0))), none, ann0⟩] none)
 (.seq (.post (.reg [⟨(some 5), (Op.assign (Operand.const (Value.slice none 0 0))), none, ann0⟩] none) (.mkv 5 64 2))
 (.seq (.post (.seq (.reg [⟨(some 10), (Op.move (Operand.tmp 1)), none, ann0⟩,
  ⟨(some 11), (Op.call { callee := (Callee.builtin Builtin.len), args := #[(Operand.tmp 10)], argTypes := #[52] }), none, ann0⟩,
  ⟨(some 12), (Op.move (Operand.const (Value.int IntKind.i64 0))), none, ann0⟩] none)
 (.post (.block 0 (.pre (.tidy [0, 5, 10, 11, 12] z (z + 1)) (.loop (s26_1 z)))) (.tidy [5] z (z + 1)))) (.tidy [5] z (z + 1)))
 (.seq (.reg [⟨(some 40), (Op.move (Operand.tmp 5)), none, ann0⟩,
  ⟨(some 4), (Op.assign (Operand.tmp 40)), none, ann0⟩] none)
 .ret)))) (.frz 4))⟩
theorem F26 (z : Nat) : FOk Try.prog 26 (s26 z) := by unfold FOk; kernel_rfl
def s28 (z : Nat) : SFn := ⟨1, 6, [(ResultVar.tmp 2)],
 (.seq (.reg [⟨(some 1), (Op.box 61 (Operand.tmp 0)), none, ⟨1, false, false⟩⟩,
  ⟨(some 2), (Op.assign (Operand.const (Value.int IntKind.i64 0))), none, ann0⟩] none)
 (.seq (.reg [⟨(some 3), (Op.fieldAddr 61 (Operand.tmp 1) 0), none, ann0⟩,
  ⟨(some 4), (Op.load 3 (Operand.tmp 3)), none, ann0⟩,
  ⟨(some 5), (Op.binOp BinOp.shr 3 (Operand.tmp 4) (Operand.const (Value.int IntKind.u64 20)) 110), none, ann0⟩,
  ⟨(some 2), (Op.assign (Operand.tmp 5)), none, ann0⟩] none)
 .ret))⟩
theorem F28 (z : Nat) : FOk Try.prog 28 (s28 z) := by unfold FOk; kernel_rfl
def c6_1 (z : Nat) : SC := .post (.seq (.post (.seq (.reg [⟨(some 36), (Op.move (Operand.tmp 10)), none, ann0⟩,
  ⟨(some 37), (Op.move (Operand.tmp 6)), none, ann0⟩,
  ⟨(some 38), (Op.call { callee := (Callee.builtin Builtin.len), args := #[(Operand.tmp 37)], argTypes := #[52] }), none, ann0⟩,
  ⟨(some 39), (Op.binOp BinOp.lss 3 (Operand.tmp 36) (Operand.tmp 38) 3), none, ann0⟩] none)
 (.cond (Operand.tmp 39) .skip
 (.exit 0))) (.tidy [5, 6, 7, 8, 9, 10] z (z + 1)))
 (.seq (.post (.block 1 (.seq (.post (.reg [⟨(some 42), (Op.move (Operand.tmp 5)), none, ann0⟩,
  ⟨(some 43), (Op.move (Operand.tmp 6)), none, ann0⟩,
  ⟨(some 44), (Op.move (Operand.tmp 10)), none, ann0⟩,
  ⟨(some 45), (Op.indexAddr 52 (Operand.tmp 43) (Operand.tmp 44)), none, ann0⟩,
  ⟨(some 46), (Op.fieldAddr 61 (Operand.tmp 45) 6), none, ann0⟩,
  ⟨(some 47), (Op.load 9 (Operand.tmp 46)), none, ann0⟩,
  ⟨(some 48), (Op.move (Operand.tmp 6)), none, ann0⟩,
  ⟨(some 49), (Op.move (Operand.tmp 10)), none, ann0⟩,
  ⟨(some 50), (Op.indexAddr 52 (Operand.tmp 48) (Operand.tmp 49)), none, ann0⟩,
  ⟨(some 51), (Op.load 61 (Operand.tmp 50)), none, ann0⟩,
  ⟨(some 52), (Op.call { callee := (Callee.value (Operand.func 28)), args := #[(Operand.tmp 51)], argTypes := #[61] }), none, ann0⟩,
  ⟨(some 53), (Op.call { callee := (Callee.value (Operand.func 27)), args := #[(Operand.tmp 42), (Operand.tmp 47), (Operand.tmp 52)], argTypes := #[22, 9, 3] }), none, ann0⟩,
  ⟨(some 11), (Op.assign (Operand.tmp 53)), none, ann0⟩] (some [0, 0, 0, 6, 14, 30, 0, 0, 192, 448, 960, 2047, 4095])) (.tidy [5, 6, 7, 8, 9, 10, 11] z (z + 1)))
 (.seq (.reg [⟨(some 12), (Op.assign (Operand.const (Value.int IntKind.i64 0))), none, ann0⟩] none)
 (.seq (.post (.seq (.reg [⟨(some 54), (Op.move (Operand.tmp 11)), none, ann0⟩,
  ⟨(some 55), (Op.binOp BinOp.geq 3 (Operand.tmp 54) (Operand.const (Value.int IntKind.i64 0)) 3), none, ann0⟩] none)
 (.cond (Operand.tmp 55) (.reg [⟨(some 56), (Op.move (Operand.tmp 5)), none, ann0⟩,
  ⟨(some 57), (Op.move (Operand.tmp 11)), none, ann0⟩,
  ⟨(some 58), (Op.indexAddr 22 (Operand.tmp 56) (Operand.tmp 57)), none, ann0⟩,
  ⟨(some 59), (Op.fieldAddr 26 (Operand.tmp 58) 0), none, ann0⟩,
  ⟨(some 60), (Op.load 3 (Operand.tmp 59)), none, ann0⟩,
  ⟨(some 12), (Op.assign (Operand.tmp 60)), none, ann0⟩] none)
 .skip)) (.tidy [5, 6, 7, 8, 9, 10, 11, 12] z (z + 1)))
 (.seq (.post (.seq (.reg [⟨(some 61), (Op.move (Operand.tmp 7)), none, ann0⟩,
  ⟨(some 62), (Op.move (Operand.tmp 10)), none, ann0⟩,
  ⟨(some 63), (Op.indexAddr 54 (Operand.tmp 61) (Operand.tmp 62)), none, ann0⟩,
  ⟨(some 64), (Op.load 3 (Operand.tmp 63)), none, ann0⟩,
  ⟨(some 65), (Op.move (Operand.tmp 12)), none, ann0⟩,
  ⟨(some 66), (Op.binOp BinOp.neq 3 (Operand.tmp 64) (Operand.tmp 65) 3), none, ann0⟩] none)
 (.cond (Operand.tmp 66) (.seq (.reg [⟨(some 4), (Op.assign (Operand.const (Value.bool false))), none, ann0⟩] none)
 .ret)
 .skip)) (.tidy [5, 6, 7, 8, 9, 10, 11] z (z + 1)))
 (.seq (.post (.seq (.post (.reg [⟨(some 67), (Op.move (Operand.tmp 11)), none, ann0⟩,
  ⟨(some 68), (Op.binOp BinOp.lss 3 (Operand.tmp 67) (Operand.const (Value.int IntKind.i64 0)) 3), none, ann0⟩,
  ⟨(some 69), (Op.move (Operand.tmp 68)), none, ann0⟩,
  ⟨(some 70), (Op.move (Operand.tmp 5)), (some (69, false)), ann0⟩,
  ⟨(some 71), (Op.move (Operand.tmp 11)), (some (69, false)), ann0⟩,
  ⟨(some 72), (Op.indexAddr 22 (Operand.tmp 70) (Operand.tmp 71)), (some (69, false)), ann0⟩,
  ⟨(some 73), (Op.fieldAddr 26 (Operand.tmp 72) 5), (some (69, false)), ann0⟩,
  ⟨(some 74), (Op.load 9 (Operand.tmp 73)), (some (69, false)), ann0⟩,
  ⟨(some 75), (Op.move (Operand.tmp 6)), (some (69, false)), ann0⟩,
  ⟨(some 76), (Op.move (Operand.tmp 10)), (some (69, false)), ann0⟩,
  ⟨(some 77), (Op.indexAddr 52 (Operand.tmp 75) (Operand.tmp 76)), (some (69, false)), ann0⟩,
  ⟨(some 78), (Op.fieldAddr 61 (Operand.tmp 77) 7), (some (69, false)), ann0⟩,
  ⟨(some 79), (Op.load 9 (Operand.tmp 78)), (some (69, false)), ann0⟩,
  ⟨(some 80), (Op.binOp BinOp.eql 9 (Operand.tmp 74) (Operand.tmp 79) 9), (some (69, false)), ann0⟩,
  ⟨(some 81), (Op.pick (Operand.tmp 69) (Operand.const (Value.bool true)) (Operand.tmp 80)), none, ann0⟩] (some [0, 1, 3, 7, 7, 31, 63, 127, 7, 7, 775, 1799, 3847, 8191, 16383])) (.tidy [5, 6, 7, 8, 9, 10, 81] z (z + 1)))
 (.cond (Operand.tmp 81) (.exit 1)
 .skip)) (.tidy [5, 6, 7, 8, 9, 10] z (z + 1)))
 (.seq (.post (.seq (.post (.reg [⟨(some 82), (Op.move (Operand.tmp 9)), none, ann0⟩,
  ⟨(some 83), (Op.move (Operand.tmp 8)), none, ann0⟩,
  ⟨(some 84), (Op.call { callee := (Callee.builtin Builtin.len), args := #[(Operand.tmp 83)], argTypes := #[56] }), none, ann0⟩,
  ⟨(some 85), (Op.binOp BinOp.geq 3 (Operand.tmp 82) (Operand.tmp 84) 3), none, ann0⟩,
  ⟨(some 86), (Op.move (Operand.tmp 85)), none, ann0⟩,
  ⟨(some 87), (Op.move (Operand.tmp 8)), (some (86, false)), ann0⟩,
  ⟨(some 88), (Op.move (Operand.tmp 9)), (some (86, false)), ann0⟩,
  ⟨(some 89), (Op.indexAddr 56 (Operand.tmp 87) (Operand.tmp 88)), (some (86, false)), ann0⟩,
  ⟨(some 90), (Op.load 64 (Operand.tmp 89)), (some (86, false)), ann0⟩,
  ⟨(some 91), (Op.move (Operand.tmp 6)), (some (86, false)), ann0⟩,
  ⟨(some 92), (Op.move (Operand.tmp 10)), (some (86, false)), ann0⟩,
  ⟨(some 93), (Op.indexAddr 52 (Operand.tmp 91) (Operand.tmp 92)), (some (86, false)), ann0⟩,
  ⟨(some 94), (Op.fieldAddr 61 (Operand.tmp 93) 0), (some (86, false)), ann0⟩,
  ⟨(some 95), (Op.load 3 (Operand.tmp 94)), (some (86, false)), ann0⟩,
  ⟨(some 96), (Op.move (Operand.tmp 6)), (some (86, false)), ann0⟩,
  ⟨(some 97), (Op.move (Operand.tmp 10)), (some (86, false)), ann0⟩,
  ⟨(some 98), (Op.indexAddr 52 (Operand.tmp 96) (Operand.tmp 97)), (some (86, false)), ann0⟩,
  ⟨(some 99), (Op.fieldAddr 61 (Operand.tmp 98) 1), (some (86, false)), ann0⟩,
  ⟨(some 100), (Op.load 3 (Operand.tmp 99)), (some (86, false)), ann0⟩,
  ⟨(some 101), (Op.build 64 #[(0, (Operand.tmp 95)), (1, (Operand.tmp 100))]), (some (86, false)), ann0⟩,
  ⟨(some 102), (Op.binOp BinOp.neq 64 (Operand.tmp 90) (Operand.tmp 101) 64), (some (86, false)), ann0⟩,
  ⟨(some 103), (Op.pick (Operand.tmp 86) (Operand.const (Value.bool true)) (Operand.tmp 102)), none, ann0⟩] (some [0, 0, 2, 7, 15, 31, 31, 127, 255, 31, 31, 1567, 3615, 7711, 31, 31, 49183, 114719, 245791, 523807, 1048575, 2097151])) (.tidy [5, 6, 7, 8, 9, 10, 103] z (z + 1)))
 (.cond (Operand.tmp 103) (.seq (.reg [⟨(some 4), (Op.assign (Operand.const (Value.bool false))), none, ann0⟩] none)
 .ret)
 .skip)) (.tidy [5, 6, 7, 8, 9, 10] z (z + 1)))
 (.reg [⟨(some 104), (Op.move (Operand.tmp 9)), none, ann0⟩,
  ⟨(some 105), (Op.binOp BinOp.add 3 (Operand.tmp 104) (Operand.const (Value.int IntKind.i64 1)) 3), none, ann0⟩,
  ⟨(some 9), (Op.assign (Operand.tmp 105)), none, ann0⟩] none)))))))) (.tidy [5, 6, 7, 8, 9, 10] z (z + 1)))
 (.reg [⟨(some 40), (Op.move (Operand.tmp 10)), none, ann0⟩,
  ⟨(some 41), (Op.binOp BinOp.add 3 (Operand.tmp 40) (Operand.const (Value.int IntKind.i64 1)) 3), none, ann0⟩,
  ⟨(some 10), (Op.assign (Operand.tmp 41)), none, ann0⟩] none))) (.tidy [5, 6, 7, 8, 9, 10] z (z + 1))
def s6_1 (z : Nat) : SC := c6_1 z
theorem e6_1 {C : Pg} {z : Nat} {st : St} {ks : List Fr} {K : Ex → St → Prop} : wpk C (s6_1 z) st ks K ↔ wpk C (c6_1 z) st ks K := Iff.rfl
def s6 (z : Nat) : SFn := ⟨2, 110, [(ResultVar.tmp 4)],
 (.seq (.reg [⟨(some 3), (Op.box 50 (Operand.tmp 1)), none, ⟨1, false, false⟩⟩,
  ⟨(some 4), (Op.assign (Operand.const (Value.bool false))), none, ann0⟩] none)
 (.seq (.post (.seq (.post (.reg [⟨(some 13), (Op.call { callee := (Callee.value (Operand.func 14)), args := #[], argTypes := #[] }), none, ann0⟩,
  ⟨(some 14), (Op.unOp UnOp.not 4 (Operand.tmp 13)), none, ann0⟩,
  ⟨(some 15), (Op.move (Operand.tmp 14)), none, ann0⟩,
  ⟨(some 16), (Op.load 50 (Operand.tmp 3)), (some (15, false)), ann0⟩,
  ⟨(some 17), (Op.call { callee := (Callee.value (Operand.func 23)), args := #[(Operand.tmp 16)], argTypes := #[50] }), (some (15, false)), ann0⟩,
  ⟨(some 18), (Op.unOp UnOp.not 4 (Operand.tmp 17)), (some (15, false)), ann0⟩,
  ⟨(some 19), (Op.pick (Operand.tmp 15) (Operand.const (Value.bool true)) (Operand.tmp 18)), none, ann0⟩] none) (.tidy [0, 3, 19] z (z + 1)))
 (.cond (Operand.tmp 19) (.seq (.reg [⟨(some 20), (Op.call { callee := (Callee.value (Operand.func 14)), args := #[], argTypes := #[] }), none, ann0⟩,
  ⟨(some 4), (Op.assign (Operand.tmp 20)), none, ann0⟩] none)
 .ret)
 .skip)) (.tidy [0, 3] z (z + 1)))
 (.seq (.reg [⟨(some 21), (Op.move (Operand.tmp 0)), none, ann0⟩,
  ⟨(some 22), (Op.call { callee := (Callee.value (Operand.func 19)), args := #[(Operand.tmp 21)], argTypes := #[30] }), none, ann0⟩,
  ⟨(some 23), (Op.load 50 (Operand.tmp 3)), none, ann0⟩,
  ⟨(some 24), (Op.call { callee := (Callee.value (Operand.func 24)), args := #[(Operand.tmp 23)], argTypes := #[50] }), none, ann0⟩,
  ⟨(some 5), (Op.assign (Operand.tmp 22)), none, ann0⟩,
  ⟨(some 6), (Op.assign (Operand.tmp 24)), none, ann0⟩] (some [0, 1, 0, 7, 15, 31]))
 (.seq (.post (.reg [⟨(some 25), (Op.move (Operand.tmp 5)), none, ann0⟩,
  ⟨(some 26), (Op.move (Operand.tmp 6)), none, ann0⟩,
  ⟨(some 27), (Op.call { callee := (Callee.value (Operand.func 25)), args := #[(Operand.tmp 25), (Operand.tmp 26)], argTypes := #[22, 52] }), none, ann0⟩,
  ⟨(some 28), (Op.move (Operand.tmp 5)), none, ann0⟩,
  ⟨(some 29), (Op.move (Operand.tmp 6)), none, ann0⟩,
  ⟨(some 30), (Op.call { callee := (Callee.value (Operand.func 26)), args := #[(Operand.tmp 28), (Operand.tmp 29)], argTypes := #[22, 52] }), none, ann0⟩,
  ⟨(some 7), (Op.assign (Operand.tmp 27)), none, ann0⟩,
  ⟨(some 8), (Op.assign (Operand.tmp 30)), none, ann0⟩] none) (.tidy [5, 6, 7, 8] z (z + 1)))
 (.seq (.post (.seq (.reg [⟨(some 31), (Op.move (Operand.tmp 7)), none, ann0⟩,
  ⟨(some 32), (Op.call { callee := (Callee.builtin Builtin.len), args := #[(Operand.tmp 31)], argTypes := #[54] }), none, ann0⟩,
  ⟨(some 33), (Op.move (Operand.tmp 6)), none, ann0⟩,
  ⟨(some 34), (Op.call { callee := (Callee.builtin Builtin.len), args := #[(Operand.tmp 33)], argTypes := #[52] }), none, ann0⟩,
  ⟨(some 35), (Op.binOp BinOp.neq 3 (Operand.tmp 32) (Operand.tmp 34) 3), none, ann0⟩] none)
 (.cond (Operand.tmp 35) (.seq (.reg [⟨(some 4), (Op.assign (Operand.const (Value.bool false))), none, ann0⟩] none)
 .ret)
 .skip)) (.tidy [5, 6, 7, 8] z (z + 1)))
 (.seq (.reg [⟨(some 9), (Op.assign (Operand.const (Value.int IntKind.i64 0))), none, ann0⟩] none)
 (.seq (.post (.seq (.reg [⟨(some 10), (Op.assign (Operand.const (Value.int IntKind.i64 0))), none, ann0⟩] none)
 (.post (.block 0 (.pre (.tidy [5, 6, 7, 8, 9, 10] z (z + 1)) (.loop (s6_1 z)))) (.tidy [8, 9] z (z + 1)))) (.tidy [8, 9] z (z + 1)))
 (.seq (.reg [⟨(some 106), (Op.move (Operand.tmp 9)), none, ann0⟩,
  ⟨(some 107), (Op.move (Operand.tmp 8)), none, ann0⟩,
  ⟨(some 108), (Op.call { callee := (Callee.builtin Builtin.len), args := #[(Operand.tmp 107)], argTypes := #[56] }), none, ann0⟩,
  ⟨(some 109), (Op.binOp BinOp.eql 3 (Operand.tmp 106) (Operand.tmp 108) 3), none, ann0⟩,
  ⟨(some 4), (Op.assign (Operand.tmp 109)), none, ann0⟩] none)
 .ret))))))))⟩
theorem F6 (z : Nat) : FOk Try.prog 6 (s6 z) := by unfold FOk; kernel_rfl
def c32_1 (z : Nat) : SC := .post (.seq (.reg [⟨(some 36), (Op.binOp BinOp.lss 3 (Operand.tmp 35) (Operand.tmp 34) 3), none, ann0⟩] none)
 (.seq (.cond (Operand.tmp 36) .skip
 (.exit 0))
 (.seq (.post (.block 1 (.seq (.reg [⟨(some 37), (Op.indexAddr 52 (Operand.tmp 33) (Operand.tmp 35)), none, ann0⟩,
  ⟨(some 38), (Op.load 61 (Operand.tmp 37)), none, ann0⟩,
  ⟨(some 14), (Op.alloc 61), none, ⟨1, false, false⟩⟩,
  ⟨none, (Op.store 61 (Operand.tmp 14) (Operand.tmp 38)), none, ann0⟩] none)
 (.seq (.post (.seq (.post (.reg [⟨(some 39), (Op.fieldAddr 61 (Operand.tmp 14) 6), none, ann0⟩,
  ⟨(some 40), (Op.load 9 (Operand.tmp 39)), none, ann0⟩,
  ⟨(some 41), (Op.move (Operand.tmp 10)), none, ann0⟩,
  ⟨(some 42), (Op.binOp BinOp.neq 9 (Operand.tmp 40) (Operand.tmp 41) 9), none, ann0⟩,
  ⟨(some 43), (Op.move (Operand.tmp 42)), none, ann0⟩,
  ⟨(some 44), (Op.load 37 (Operand.tmp 8)), (some (43, false)), ann0⟩,
  ⟨(some 45), (Op.fieldAddr 61 (Operand.tmp 14) 0), (some (43, false)), ann0⟩,
  ⟨(some 46), (Op.load 3 (Operand.tmp 45)), (some (43, false)), ann0⟩,
  ⟨(some 47), (Op.call { callee := (Callee.value (Operand.func 51)), args := #[(Operand.tmp 46)], argTypes := #[3] }), (some (43, false)), ann0⟩,
  ⟨(some 48), (Op.call { callee := (Callee.value (Operand.func 53)), args := #[(Operand.tmp 44), (Operand.tmp 47)], argTypes := #[37, 3] }), (some (43, false)), ann0⟩,
  ⟨(some 49), (Op.unOp UnOp.not 4 (Operand.tmp 48)), (some (43, false)), ann0⟩,
  ⟨(some 50), (Op.pick (Operand.tmp 43) (Operand.const (Value.bool true)) (Operand.tmp 49)), none, ann0⟩] (some [0, 1, 0, 7, 15, 31, 31, 95, 223, 511, 1023, 2047])) (.tidy [6, 8, 10, 11, 12, 14, 33, 34, 35, 50] z (z + 5)))
 (.cond (Operand.tmp 50) (.exit 1)
 .skip)) (.tidy [6, 8, 10, 11, 12, 14, 33, 34, 35] z (z + 5)))
 (.seq (.reg [⟨(some 51), (Op.fieldAddr 72 (Operand.tmp 11) 0), none, ann0⟩,
  ⟨(some 52), (Op.load 3 (Operand.tmp 51)), none, ann0⟩,
  ⟨(some 53), (Op.binOp BinOp.add 3 (Operand.tmp 52) (Operand.const (Value.int IntKind.i64 1)) 3), none, ann0⟩,
  ⟨(some 54), (Op.fieldAddr 72 (Operand.tmp 11) 0), none, ann0⟩,
  ⟨none, (Op.store 3 (Operand.tmp 54) (Operand.tmp 53)), none, ann0⟩] none)
 (.seq (.post (.seq (.reg [⟨(some 55), (Op.fieldAddr 61 (Operand.tmp 14) 11), none, ann0⟩,
  ⟨(some 56), (Op.load 4 (Operand.tmp 55)), none, ann0⟩] none)
 (.cond (Operand.tmp 56) (.reg [⟨(some 57), (Op.fieldAddr 72 (Operand.tmp 11) 1), none, ann0⟩,
  ⟨(some 58), (Op.load 3 (Operand.tmp 57)), none, ann0⟩,
  ⟨(some 59), (Op.binOp BinOp.add 3 (Operand.tmp 58) (Operand.const (Value.int IntKind.i64 1)) 3), none, ann0⟩,
  ⟨(some 60), (Op.fieldAddr 72 (Operand.tmp 11) 1), none, ann0⟩,
  ⟨none, (Op.store 3 (Operand.tmp 60) (Operand.tmp 59)), none, ann0⟩] none)
 .skip)) (.tidy [6, 8, 10, 11, 12, 14, 33, 34, 35] z (z + 5)))
 (.reg [⟨(some 61), (Op.move (Operand.tmp 12)), none, ann0⟩,
  ⟨(some 62), (Op.fieldAddr 61 (Operand.tmp 14) 0), none, ann0⟩,
  ⟨(some 63), (Op.load 3 (Operand.tmp 62)), none, ann0⟩,
  ⟨none, (Op.mapUpdate 73 (Operand.tmp 61) (Operand.tmp 63) (Operand.const (Value.bool true))), none, ann0⟩] none)))))) (.tidy [6, 8, 10, 11, 12, 33, 34, 35] z (z + 5)))
 (.reg [⟨(some 64), (Op.binOp BinOp.add 3 (Operand.tmp 35) (Operand.const (Value.int IntKind.i64 1)) 3), none, ann0⟩,
  ⟨(some 35), (Op.move (Operand.tmp 64)), none, ann0⟩] none)))) (.tidy [6, 8, 10, 11, 12, 33, 34, 35] z (z + 4))
def s32_1 (z : Nat) : SC := c32_1 z
theorem e32_1 {C : Pg} {z : Nat} {st : St} {ks : List Fr} {K : Ex → St → Prop} : wpk C (s32_1 z) st ks K ↔ wpk C (c32_1 z) st ks K := Iff.rfl
def s32 (z : Nat) : SFn := ⟨3, 69, [(ResultVar.cell 6 72), (ResultVar.tmp 7)],
 (.seq (.reg [⟨(some 6), (Op.alloc 72), none, ⟨1, false, false⟩⟩,
  ⟨(some 7), (Op.assign (Operand.const (Value.int IntKind.i64 0))), none, ann0⟩] none)
 (.seq (.post (.reg [⟨(some 16), (Op.move (Operand.tmp 0)), none, ann0⟩,
  ⟨(some 17), (Op.move (Operand.tmp 2)), none, ann0⟩,
  ⟨(some 18), (Op.call { callee := (Callee.value (Operand.func 21)), args := #[(Operand.tmp 16), (Operand.tmp 17)], argTypes := #[22, 3] }), none, ann0⟩,
  ⟨(some 15), (Op.move (Operand.tmp 18)), none, ann0⟩,
  ⟨(some 19), (Op.extract (Operand.tmp 15) 0), none, ann0⟩,
  ⟨(some 20), (Op.extract (Operand.tmp 15) 1), none, ann0⟩,
  ⟨(some 8), (Op.alloc 37), none, ⟨1, false, false⟩⟩,
  ⟨none, (Op.store 37 (Operand.tmp 8) (Operand.tmp 19)), none, ann0⟩,
  ⟨(some 9), (Op.assign (Operand.tmp 20)), none, ann0⟩] none) (.tidy [0, 1, 2, 6, 8, 9] z (z + 2)))
 (.seq (.post (.seq (.reg [⟨(some 21), (Op.move (Operand.tmp 9)), none, ann0⟩,
  ⟨(some 22), (Op.binOp BinOp.neq 27 (Operand.tmp 21) (Operand.const (Value.int IntKind.i64 0)) 27), none, ann0⟩] none)
 (.cond (Operand.tmp 22) (.seq (.reg [⟨(some 23), (Op.build 72 #[]), none, ann0⟩,
  ⟨(some 24), (Op.move (Operand.tmp 9)), none, ann0⟩,
  ⟨none, (Op.store 72 (Operand.tmp 6) (Operand.tmp 23)), none, ann0⟩,
  ⟨(some 7), (Op.assign (Operand.tmp 24)), none, ann0⟩] none)
 .ret)
 .skip)) (.tidy [0, 1, 2, 6, 8] z (z + 2)))
 (.seq (.post (.reg [⟨(some 25), (Op.move (Operand.tmp 0)), none, ann0⟩,
  ⟨(some 26), (Op.move (Operand.tmp 0)), none, ann0⟩,
  ⟨(some 27), (Op.move (Operand.tmp 2)), none, ann0⟩,
  ⟨(some 28), (Op.call { callee := (Callee.value (Operand.func 49)), args := #[(Operand.tmp 26), (Operand.tmp 27)], argTypes := #[22, 3] }), none, ann0⟩,
  ⟨(some 29), (Op.indexAddr 22 (Operand.tmp 25) (Operand.tmp 28)), none, ann0⟩,
  ⟨(some 30), (Op.fieldAddr 26 (Operand.tmp 29) 3), none, ann0⟩,
  ⟨(some 31), (Op.load 9 (Operand.tmp 30)), none, ann0⟩,
  ⟨(some 10), (Op.assign (Operand.tmp 31)), none, ann0⟩] none) (.tidy [1, 6, 8, 10] z (z + 2)))
 (.seq (.reg [⟨(some 11), (Op.alloc 72), none, ⟨1, false, false⟩⟩] none)
 (.seq (.reg [⟨(some 32), (Op.makeMap 73 none), none, ⟨1, false, false⟩⟩,
  ⟨(some 12), (Op.assign (Operand.tmp 32)), none, ann0⟩] none)
 (.seq (.post (.seq (.reg [⟨(some 33), (Op.move (Operand.tmp 1)), none, ann0⟩,
  ⟨(some 34), (Op.call { callee := (Callee.builtin Builtin.len), args := #[(Operand.tmp 33)], argTypes := #[52] }), none, ann0⟩,
  ⟨(some 35), (Op.move (Operand.const (Value.int IntKind.i64 0))), none, ann0⟩] none)
 (.post (.block 0 (.pre (.tidy [6, 8, 10, 11, 12, 33, 34, 35] z (z + 4)) (.loop (s32_1 z)))) (.tidy [6, 11, 12] z (z + 4)))) (.tidy [6, 11, 12] z (z + 4)))
 (.seq (.reg [⟨(some 65), (Op.move (Operand.tmp 12)), none, ann0⟩,
  ⟨(some 66), (Op.call { callee := (Callee.builtin Builtin.len), args := #[(Operand.tmp 65)], argTypes := #[73] }), none, ann0⟩,
  ⟨(some 67), (Op.fieldAddr 72 (Operand.tmp 11) 2), none, ann0⟩,
  ⟨none, (Op.store 3 (Operand.tmp 67) (Operand.tmp 66)), none, ann0⟩] none)
 (.seq (.reg [⟨(some 68), (Op.load 72 (Operand.tmp 11)), none, ann0⟩,
  ⟨none, (Op.store 72 (Operand.tmp 6) (Operand.tmp 68)), none, ann0⟩,
  ⟨(some 7), (Op.assign (Operand.const (Value.int IntKind.i64 0))), none, ann0⟩] none)
 .ret)))))))))⟩
theorem F32 (z : Nat) : FOk Try.prog 32 (s32 z) := by unfold FOk; kernel_rfl
def c8_2 (z : Nat) : SC := .post (.seq (.post (.seq (.reg [⟨(some 41), (Op.move (Operand.tmp 14)), none, ann0⟩,
  ⟨(some 42), (Op.move (Operand.tmp 8)), none, ann0⟩,
  ⟨(some 43), (Op.call { callee := (Callee.builtin Builtin.len), args := #[(Operand.tmp 42)], argTypes := #[52] }), none, ann0⟩,
  ⟨(some 44), (Op.binOp BinOp.lss 3 (Operand.tmp 41) (Operand.tmp 43) 3), none, ann0⟩] none)
 (.cond (Operand.tmp 44) .skip
 (.exit 2))) (.tidy [2, 7, 8, 9, 10, 11, 12, 13, 14] z (z + 4)))
 (.seq (.post (.block 3 (.seq (.post (.seq (.post (.reg [⟨(some 47), (Op.move (Operand.tmp 8)), none, ann0⟩,
  ⟨(some 48), (Op.move (Operand.tmp 14)), none, ann0⟩,
  ⟨(some 49), (Op.indexAddr 52 (Operand.tmp 47) (Operand.tmp 48)), none, ann0⟩,
  ⟨(some 50), (Op.fieldAddr 61 (Operand.tmp 49) 6), none, ann0⟩,
  ⟨(some 51), (Op.load 9 (Operand.tmp 50)), none, ann0⟩,
  ⟨(some 52), (Op.move (Operand.tmp 7)), none, ann0⟩,
  ⟨(some 53), (Op.move (Operand.tmp 10)), none, ann0⟩,
  ⟨(some 54), (Op.indexAddr 22 (Operand.tmp 52) (Operand.tmp 53)), none, ann0⟩,
  ⟨(some 55), (Op.fieldAddr 26 (Operand.tmp 54) 3), none, ann0⟩,
  ⟨(some 56), (Op.load 9 (Operand.tmp 55)), none, ann0⟩,
  ⟨(some 57), (Op.binOp BinOp.neq 9 (Operand.tmp 51) (Operand.tmp 56) 9), none, ann0⟩,
  ⟨(some 58), (Op.move (Operand.tmp 57)), none, ann0⟩,
  ⟨(some 59), (Op.load 37 (Operand.tmp 11)), (some (58, false)), ann0⟩,
  ⟨(some 60), (Op.move (Operand.tmp 8)), (some (58, false)), ann0⟩,
  ⟨(some 61), (Op.move (Operand.tmp 14)), (some (58, false)), ann0⟩,
  ⟨(some 62), (Op.indexAddr 52 (Operand.tmp 60) (Operand.tmp 61)), (some (58, false)), ann0⟩,
  ⟨(some 63), (Op.load 61 (Operand.tmp 62)), (some (58, false)), ann0⟩,
  ⟨(some 64), (Op.call { callee := (Callee.value (Operand.func 28)), args := #[(Operand.tmp 63)], argTypes := #[61] }), (some (58, false)), ann0⟩,
  ⟨(some 65), (Op.call { callee := (Callee.value (Operand.func 31)), args := #[(Operand.tmp 59), (Operand.tmp 64)], argTypes := #[37, 3] }), (some (58, false)), ann0⟩,
  ⟨(some 66), (Op.unOp UnOp.not 4 (Operand.tmp 65)), (some (58, false)), ann0⟩,
  ⟨(some 67), (Op.pick (Operand.tmp 58) (Operand.const (Value.bool true)) (Operand.tmp 66)), none, ann0⟩] (some [0, 0, 3, 7, 15, 0, 0, 96, 224, 480, 1023, 2047, 4095, 4095, 4095, 28671, 61439, 126975, 262143, 524287, 1048575])) (.tidy [2, 7, 8, 9, 10, 11, 12, 13, 14, 67] z (z + 4)))
 (.cond (Operand.tmp 67) (.exit 3)
 .skip)) (.tidy [2, 7, 8, 9, 10, 11, 12, 13, 14] z (z + 4)))
 (.seq (.reg [⟨(some 68), (Op.fieldAddr 72 (Operand.tmp 12) 0), none, ann0⟩,
  ⟨(some 69), (Op.load 3 (Operand.tmp 68)), none, ann0⟩,
  ⟨(some 70), (Op.binOp BinOp.add 3 (Operand.tmp 69) (Operand.const (Value.int IntKind.i64 1)) 3), none, ann0⟩,
  ⟨(some 71), (Op.fieldAddr 72 (Operand.tmp 12) 0), none, ann0⟩,
  ⟨none, (Op.store 3 (Operand.tmp 71) (Operand.tmp 70)), none, ann0⟩] none)
 (.seq (.post (.seq (.post (.reg [⟨(some 72), (Op.move (Operand.tmp 8)), none, ann0⟩,
  ⟨(some 73), (Op.move (Operand.tmp 14)), none, ann0⟩,
  ⟨(some 74), (Op.indexAddr 52 (Operand.tmp 72) (Operand.tmp 73)), none, ann0⟩,
  ⟨(some 75), (Op.fieldAddr 61 (Operand.tmp 74) 11), none, ann0⟩,
  ⟨(some 76), (Op.load 4 (Operand.tmp 75)), none, ann0⟩] none) (.tidy [2, 7, 8, 9, 10, 11, 12, 13, 14, 76] z (z + 4)))
 (.cond (Operand.tmp 76) (.reg [⟨(some 77), (Op.fieldAddr 72 (Operand.tmp 12) 1), none, ann0⟩,
  ⟨(some 78), (Op.load 3 (Operand.tmp 77)), none, ann0⟩,
  ⟨(some 79), (Op.binOp BinOp.add 3 (Operand.tmp 78) (Operand.const (Value.int IntKind.i64 1)) 3), none, ann0⟩,
  ⟨(some 80), (Op.fieldAddr 72 (Operand.tmp 12) 1), none, ann0⟩,
  ⟨none, (Op.store 3 (Operand.tmp 80) (Operand.tmp 79)), none, ann0⟩] none)
 .skip)) (.tidy [2, 7, 8, 9, 10, 11, 12, 13, 14] z (z + 4)))
 (.reg [⟨(some 81), (Op.move (Operand.tmp 13)), none, ann0⟩,
  ⟨(some 82), (Op.move (Operand.tmp 8)), none, ann0⟩,
  ⟨(some 83), (Op.move (Operand.tmp 14)), none, ann0⟩,
  ⟨(some 84), (Op.indexAddr 52 (Operand.tmp 82) (Operand.tmp 83)), none, ann0⟩,
  ⟨(some 85), (Op.fieldAddr 61 (Operand.tmp 84) 0), none, ann0⟩,
  ⟨(some 86), (Op.load 3 (Operand.tmp 85)), none, ann0⟩,
  ⟨none, (Op.mapUpdate 73 (Operand.tmp 81) (Operand.tmp 86) (Operand.const (Value.bool true))), none, ann0⟩] none))))) (.tidy [2, 7, 8, 9, 10, 11, 12, 13, 14] z (z + 4)))
 (.reg [⟨(some 45), (Op.move (Operand.tmp 14)), none, ann0⟩,
  ⟨(some 46), (Op.binOp BinOp.add 3 (Operand.tmp 45) (Operand.const (Value.int IntKind.i64 1)) 3), none, ann0⟩,
  ⟨(some 14), (Op.assign (Operand.tmp 46)), none, ann0⟩] none))) (.tidy [2, 7, 8, 9, 10, 11, 12, 13, 14] z (z + 4))
def s8_2 (z : Nat) : SC := c8_2 z
theorem e8_2 {C : Pg} {z : Nat} {st : St} {ks : List Fr} {K : Ex → St → Prop} : wpk C (s8_2 z) st ks K ↔ wpk C (c8_2 z) st ks K := Iff.rfl
def c8_1 (z : Nat) : SC := .post (.seq (.seq (.post (.reg [⟨(some 31), (Op.move (Operand.tmp 10)), none, ann0⟩,
  ⟨(some 32), (Op.move (Operand.tmp 7)), none, ann0⟩,
  ⟨(some 33), (Op.call { callee := (Callee.builtin Builtin.len), args := #[(Operand.tmp 32)], argTypes := #[22] }), none, ann0⟩,
  ⟨(some 34), (Op.binOp BinOp.lss 3 (Operand.tmp 31) (Operand.tmp 33) 3), none, ann0⟩] none) (.tidy [2, 7, 8, 9, 10, 34] z (z + 1)))
 (.cond (Operand.tmp 34) .skip
 (.exit 0)))
 (.seq (.post (.block 1 (.seq (.post (.reg [⟨(some 37), (Op.move (Operand.tmp 7)), none, ann0⟩,
  ⟨(some 38), (Op.move (Operand.tmp 10)), none, ann0⟩,
  ⟨(some 39), (Op.call { callee := (Callee.value (Operand.func 22)), args := #[(Operand.tmp 37), (Operand.tmp 38)], argTypes := #[22, 3] }), none, ann0⟩,
  ⟨(some 11), (Op.alloc 37), none, ⟨1, false, false⟩⟩,
  ⟨none, (Op.store 37 (Operand.tmp 11) (Operand.tmp 39)), none, ann0⟩] none) (.tidy [2, 7, 8, 9, 10, 11] z (z + 2)))
 (.seq (.reg [⟨(some 12), (Op.alloc 72), none, ⟨1, false, false⟩⟩] none)
 (.seq (.reg [⟨(some 40), (Op.makeMap 73 none), none, ⟨1, false, false⟩⟩,
  ⟨(some 13), (Op.assign (Operand.tmp 40)), none, ann0⟩] none)
 (.seq (.post (.seq (.reg [⟨(some 14), (Op.assign (Operand.const (Value.int IntKind.i64 0))), none, ann0⟩] none)
 (.post (.block 2 (.pre (.tidy [2, 7, 8, 9, 10, 11, 12, 13, 14] z (z + 4)) (.loop (s8_2 z)))) (.tidy [2, 7, 8, 9, 10, 12, 13] z (z + 4)))) (.tidy [2, 7, 8, 9, 10, 12, 13] z (z + 4)))
 (.seq (.reg [⟨(some 87), (Op.move (Operand.tmp 13)), none, ann0⟩,
  ⟨(some 88), (Op.call { callee := (Callee.builtin Builtin.len), args := #[(Operand.tmp 87)], argTypes := #[73] }), none, ann0⟩,
  ⟨(some 89), (Op.fieldAddr 72 (Operand.tmp 12) 2), none, ann0⟩,
  ⟨none, (Op.store 3 (Operand.tmp 89) (Operand.tmp 88)), none, ann0⟩] none)
 (.seq (.post (.seq (.post (.reg [⟨(some 91), (Op.move (Operand.tmp 7)), none, ann0⟩,
  ⟨(some 92), (Op.move (Operand.tmp 8)), none, ann0⟩,
  ⟨(some 93), (Op.move (Operand.tmp 7)), none, ann0⟩,
  ⟨(some 94), (Op.move (Operand.tmp 10)), none, ann0⟩,
  ⟨(some 95), (Op.indexAddr 22 (Operand.tmp 93) (Operand.tmp 94)), none, ann0⟩,
  ⟨(some 96), (Op.fieldAddr 26 (Operand.tmp 95) 0), none, ann0⟩,
  ⟨(some 97), (Op.load 3 (Operand.tmp 96)), none, ann0⟩,
  ⟨(some 98), (Op.call { callee := (Callee.value (Operand.func 32)), args := #[(Operand.tmp 91), (Operand.tmp 92), (Operand.tmp 97)], argTypes := #[22, 52, 3] }), none, ann0⟩,
  ⟨(some 90), (Op.move (Operand.tmp 98)), none, ann0⟩,
  ⟨(some 99), (Op.extract (Operand.tmp 90) 0), none, ann0⟩,
  ⟨(some 100), (Op.extract (Operand.tmp 90) 1), none, ann0⟩,
  ⟨(some 15), (Op.alloc 72), none, ⟨1, false, false⟩⟩,
  ⟨none, (Op.store 72 (Operand.tmp 15) (Operand.tmp 99)), none, ann0⟩,
  ⟨(some 16), (Op.assign (Operand.tmp 100)), none, ann0⟩] none) (.tidy [2, 7, 8, 9, 10, 12, 15, 16] z (z + 5)))
 (.seq (.post (.reg [⟨(some 101), (Op.move (Operand.tmp 16)), none, ann0⟩,
  ⟨(some 102), (Op.binOp BinOp.neq 27 (Operand.tmp 101) (Operand.const (Value.int IntKind.i64 0)) 27), none, ann0⟩,
  ⟨(some 103), (Op.move (Operand.tmp 102)), none, ann0⟩,
  ⟨(some 104), (Op.load 72 (Operand.tmp 15)), (some (103, false)), ann0⟩,
  ⟨(some 105), (Op.load 72 (Operand.tmp 12)), (some (103, false)), ann0⟩,
  ⟨(some 106), (Op.binOp BinOp.neq 72 (Operand.tmp 104) (Operand.tmp 105) 72), (some (103, false)), ann0⟩,
  ⟨(some 107), (Op.pick (Operand.tmp 103) (Operand.const (Value.bool true)) (Operand.tmp 106)), none, ann0⟩] none) (.tidy [2, 7, 8, 9, 10, 107] z (z + 5)))
 (.cond (Operand.tmp 107) (.seq (.reg [⟨(some 6), (Op.assign (Operand.const (Value.bool false))), none, ann0⟩] none)
 .ret)
 .skip))) (.tidy [2, 7, 8, 9, 10] z (z + 5)))
 (.reg [⟨(some 108), (Op.move (Operand.tmp 9)), none, ann0⟩,
  ⟨(some 109), (Op.move (Operand.tmp 108)), none, ann0⟩,
  ⟨(some 110), (Op.move (Operand.tmp 7)), (some (109, false)), ann0⟩,
  ⟨(some 111), (Op.move (Operand.tmp 10)), (some (109, false)), ann0⟩,
  ⟨(some 112), (Op.indexAddr 22 (Operand.tmp 110) (Operand.tmp 111)), (some (109, false)), ann0⟩,
  ⟨(some 113), (Op.fieldAddr 26 (Operand.tmp 112) 0), (some (109, false)), ann0⟩,
  ⟨(some 114), (Op.load 3 (Operand.tmp 113)), (some (109, false)), ann0⟩,
  ⟨(some 115), (Op.move (Operand.tmp 2)), (some (109, false)), ann0⟩,
  ⟨(some 116), (Op.binOp BinOp.eql 3 (Operand.tmp 114) (Operand.tmp 115) 3), (some (109, false)), ann0⟩,
  ⟨(some 117), (Op.pick (Operand.tmp 109) (Operand.const (Value.bool true)) (Operand.tmp 116)), none, ann0⟩,
  ⟨(some 9), (Op.assign (Operand.tmp 117)), none, ann0⟩] none)))))))) (.tidy [2, 7, 8, 9, 10] z (z + 5)))
 (.reg [⟨(some 35), (Op.move (Operand.tmp 10)), none, ann0⟩,
  ⟨(some 36), (Op.binOp BinOp.add 3 (Operand.tmp 35) (Operand.const (Value.int IntKind.i64 1)) 3), none, ann0⟩,
  ⟨(some 10), (Op.assign (Operand.tmp 36)), none, ann0⟩] none))) (.tidy [2, 7, 8, 9, 10] z (z + 1))
def s8_1 (z : Nat) : SC := c8_1 z
theorem e8_1 {C : Pg} {z : Nat} {st : St} {ks : List Fr} {K : Ex → St → Prop} : wpk C (s8_1 z) st ks K ↔ wpk C (c8_1 z) st ks K := Iff.rfl
def s8 (z : Nat) : SFn := ⟨3, 135, [(ResultVar.tmp 6)],
 (.seq (.reg [⟨(some 4), (Op.box 50 (Operand.tmp 1)), none, ⟨1, false, false⟩⟩,
  ⟨(some 6), (Op.assign (Operand.const (Value.bool false))), none, ann0⟩] none)
 (.seq (.post (.seq (.post (.reg [⟨(some 19), (Op.call { callee := (Callee.value (Operand.func 14)), args := #[], argTypes := #[] }), none, ann0⟩,
  ⟨(some 20), (Op.unOp UnOp.not 4 (Operand.tmp 19)), none, ann0⟩,
  ⟨(some 21), (Op.move (Operand.tmp 20)), none, ann0⟩,
  ⟨(some 22), (Op.load 50 (Operand.tmp 4)), (some (21, false)), ann0⟩,
  ⟨(some 23), (Op.call { callee := (Callee.value (Operand.func 23)), args := #[(Operand.tmp 22)], argTypes := #[50] }), (some (21, false)), ann0⟩,
  ⟨(some 24), (Op.unOp UnOp.not 4 (Operand.tmp 23)), (some (21, false)), ann0⟩,
  ⟨(some 25), (Op.pick (Operand.tmp 21) (Operand.const (Value.bool true)) (Operand.tmp 24)), none, ann0⟩] none) (.tidy [0, 2, 4, 25] z (z + 1)))
 (.cond (Operand.tmp 25) (.seq (.reg [⟨(some 26), (Op.call { callee := (Callee.value (Operand.func 14)), args := #[], argTypes := #[] }), none, ann0⟩,
  ⟨(some 6), (Op.assign (Operand.tmp 26)), none, ann0⟩] none)
 .ret)
 .skip)) (.tidy [0, 2, 4] z (z + 1)))
 (.seq (.reg [⟨(some 27), (Op.move (Operand.tmp 0)), none, ann0⟩,
  ⟨(some 28), (Op.call { callee := (Callee.value (Operand.func 19)), args := #[(Operand.tmp 27)], argTypes := #[30] }), none, ann0⟩,
  ⟨(some 29), (Op.load 50 (Operand.tmp 4)), none, ann0⟩,
  ⟨(some 30), (Op.call { callee := (Callee.value (Operand.func 24)), args := #[(Operand.tmp 29)], argTypes := #[50] }), none, ann0⟩,
  ⟨(some 7), (Op.assign (Operand.tmp 28)), none, ann0⟩,
  ⟨(some 8), (Op.assign (Operand.tmp 30)), none, ann0⟩] (some [0, 1, 0, 7, 15, 31]))
 (.seq (.reg [⟨(some 9), (Op.assign (Operand.const (Value.bool false))), none, ann0⟩] none)
 (.seq (.post (.seq (.reg [⟨(some 10), (Op.assign (Operand.const (Value.int IntKind.i64 0))), none, ann0⟩] none)
 (.post (.block 0 (.pre (.tidy [2, 7, 8, 9, 10] z (z + 1)) (.loop (s8_1 z)))) (.tidy [2, 7, 8, 9] z (z + 1)))) (.tidy [2, 7, 8, 9] z (z + 1)))
 (.seq (.post (.reg [⟨(some 119), (Op.move (Operand.tmp 7)), none, ann0⟩,
  ⟨(some 120), (Op.move (Operand.tmp 8)), none, ann0⟩,
  ⟨(some 121), (Op.move (Operand.tmp 2)), none, ann0⟩,
  ⟨(some 122), (Op.call { callee := (Callee.value (Operand.func 32)), args := #[(Operand.tmp 119), (Operand.tmp 120), (Operand.tmp 121)], argTypes := #[22, 52, 3] }), none, ann0⟩,
  ⟨(some 118), (Op.move (Operand.tmp 122)), none, ann0⟩,
  ⟨(some 123), (Op.extract (Operand.tmp 118) 0), none, ann0⟩,
  ⟨(some 124), (Op.extract (Operand.tmp 118) 1), none, ann0⟩,
  ⟨(some 17), (Op.alloc 72), none, ⟨1, false, false⟩⟩,
  ⟨none, (Op.store 72 (Operand.tmp 17) (Operand.tmp 123)), none, ann0⟩,
  ⟨(some 18), (Op.assign (Operand.tmp 124)), none, ann0⟩] none) (.tidy [9, 17, 18] z (z + 2)))
 (.seq (.reg [⟨(some 125), (Op.move (Operand.tmp 9)), none, ann0⟩,
  ⟨(some 126), (Op.move (Operand.tmp 125)), none, ann0⟩,
  ⟨(some 127), (Op.move (Operand.tmp 18)), (some (126, false)), ann0⟩,
  ⟨(some 128), (Op.binOp BinOp.eql 27 (Operand.tmp 127) (Operand.const (Value.int IntKind.i64 10)) 27), (some (126, false)), ann0⟩,
  ⟨(some 129), (Op.move (Operand.tmp 128)), (some (126, false)), ann0⟩,
  ⟨(some 130), (Op.load 72 (Operand.tmp 17)), (some (129, true)), ann0⟩,
  ⟨(some 131), (Op.build 72 #[]), (some (129, true)), ann0⟩,
  ⟨(some 132), (Op.binOp BinOp.eql 72 (Operand.tmp 130) (Operand.tmp 131) 72), (some (129, true)), ann0⟩,
  ⟨(some 133), (Op.pick (Operand.tmp 129) (Operand.tmp 132) (Operand.const (Value.bool false))), (some (126, false)), ann0⟩,
  ⟨(some 134), (Op.pick (Operand.tmp 126) (Operand.const (Value.bool true)) (Operand.tmp 133)), none, ann0⟩,
  ⟨(some 6), (Op.assign (Operand.tmp 134)), none, ann0⟩] none)
 .ret)))))))⟩
theorem F8 (z : Nat) : FOk Try.prog 8 (s8 z) := by unfold FOk; kernel_rfl
def c33_1 (z : Nat) : SC := .post (.seq (.post (.seq (.reg [⟨(some 11), (Op.move (Operand.tmp 5)), none, ann0⟩,
  ⟨(some 12), (Op.move (Operand.tmp 0)), none, ann0⟩,
  ⟨(some 13), (Op.call { callee := (Callee.builtin Builtin.len), args := #[(Operand.tmp 12)], argTypes := #[22] }), none, ann0⟩,
  ⟨(some 14), (Op.binOp BinOp.lss 3 (Operand.tmp 11) (Operand.tmp 13) 3), none, ann0⟩] none)
 (.cond (Operand.tmp 14) .skip
 (.exit 0))) (.tidy [0, 1, 5] z (z + 0)))
 (.seq (.post (.block 1 (.seq (.post (.reg [⟨(some 17), (Op.move (Operand.tmp 0)), none, ann0⟩,
  ⟨(some 18), (Op.move (Operand.tmp 5)), none, ann0⟩,
  ⟨(some 19), (Op.indexAddr 22 (Operand.tmp 17) (Operand.tmp 18)), none, ann0⟩,
  ⟨(some 20), (Op.load 26 (Operand.tmp 19)), none, ann0⟩,
  ⟨(some 21), (Op.move (Operand.tmp 1)), none, ann0⟩,
  ⟨(some 22), (Op.move (Operand.tmp 5)), none, ann0⟩,
  ⟨(some 23), (Op.indexAddr 22 (Operand.tmp 21) (Operand.tmp 22)), none, ann0⟩,
  ⟨(some 24), (Op.load 26 (Operand.tmp 23)), none, ann0⟩,
  ⟨(some 25), (Op.binOp BinOp.neq 26 (Operand.tmp 20) (Operand.tmp 24) 26), none, ann0⟩] (some [0, 0, 3, 7, 0, 0, 48, 112, 255])) (.tidy [0, 1, 5, 25] z (z + 0)))
 (.cond (Operand.tmp 25) (.seq (.reg [⟨(some 4), (Op.assign (Operand.const (Value.bool false))), none, ann0⟩] none)
 .ret)
 .skip))) (.tidy [0, 1, 5] z (z + 0)))
 (.reg [⟨(some 15), (Op.move (Operand.tmp 5)), none, ann0⟩,
  ⟨(some 16), (Op.binOp BinOp.add 3 (Operand.tmp 15) (Operand.const (Value.int IntKind.i64 1)) 3), none, ann0⟩,
  ⟨(some 5), (Op.assign (Operand.tmp 16)), none, ann0⟩] none))) (.tidy [0, 1, 5] z (z + 0))
def s33_1 (z : Nat) : SC := c33_1 z
theorem e33_1 {C : Pg} {z : Nat} {st : St} {ks : List Fr} {K : Ex → St → Prop} : wpk C (s33_1 z) st ks K ↔ wpk C (c33_1 z) st ks K := Iff.rfl
def s33 (z : Nat) : SFn := ⟨2, 26, [(ResultVar.tmp 4)],
 (.seq (.reg [⟨(some 4), (Op.assign (Operand.const (Value.bool false))), none, ann0⟩] none)
 (.seq (.post (.seq (.reg [⟨(some 6), (Op.move (Operand.tmp 0)), none, ann0⟩,
  ⟨(some 7), (Op.call { callee := (Callee.builtin Builtin.len), args := #[(Operand.tmp 6)], argTypes := #[22] }), none, ann0⟩,
  ⟨(some 8), (Op.move (Operand.tmp 1)), none, ann0⟩,
  ⟨(some 9), (Op.call { callee := (Callee.builtin Builtin.len), args := #[(Operand.tmp 8)], argTypes := #[22] }), none, ann0⟩,
  ⟨(some 10), (Op.binOp BinOp.neq 3 (Operand.tmp 7) (Operand.tmp 9) 3), none, ann0⟩] none)
 (.cond (Operand.tmp 10) (.seq (.reg [⟨(some 4), (Op.assign (Operand.const (Value.bool false))), none, ann0⟩] none)
 .ret)
 .skip)) (.tidy [0, 1] z (z + 0)))
 (.seq (.post (.seq (.reg [⟨(some 5), (Op.assign (Operand.const (Value.int IntKind.i64 0))), none, ann0⟩] none)
 (.post (.block 0 (.pre (.tidy [0, 1, 5] z (z + 0)) (.loop (s33_1 z)))) (.tidy [] z (z + 0)))) (.tidy [] z (z + 0)))
 (.seq (.reg [⟨(some 4), (Op.assign (Operand.const (Value.bool true))), none, ann0⟩] none)
 .ret))))⟩
theorem F33 (z : Nat) : FOk Try.prog 33 (s33 z) := by unfold FOk; kernel_rfl
def c73_1 (z : Nat) : SC := .post (.seq (.post (.seq (.reg [⟨(some 16), (Op.move (Operand.tmp 6)), none, ann0⟩,
  ⟨(some 17), (Op.move (Operand.tmp 0)), none, ann0⟩,
  ⟨(some 18), (Op.call { callee := (Callee.builtin Builtin.len), args := #[(Operand.tmp 17)], argTypes := #[22] }), none, ann0⟩,
  ⟨(some 19), (Op.binOp BinOp.lss 3 (Operand.tmp 16) (Operand.tmp 18) 3), none, ann0⟩] none)
 (.cond (Operand.tmp 19) .skip
 (.exit 0))) (.tidy [0, 1, 5, 6] z (z + 0)))
 (.seq (.post (.block 1 (.seq (.reg [⟨(some 22), (Op.move (Operand.tmp 0)), none, ann0⟩,
  ⟨(some 23), (Op.move (Operand.tmp 6)), none, ann0⟩,
  ⟨(some 24), (Op.indexAddr 22 (Operand.tmp 22) (Operand.tmp 23)), none, ann0⟩,
  ⟨(some 25), (Op.load 26 (Operand.tmp 24)), none, ann0⟩,
  ⟨(some 7), (Op.alloc 26), none, ⟨1, false, false⟩⟩,
  ⟨none, (Op.store 26 (Operand.tmp 7) (Operand.tmp 25)), none, ann0⟩] none)
 (.seq (.post (.reg [⟨(some 26), (Op.move (Operand.tmp 1)), none, ann0⟩,
  ⟨(some 27), (Op.load 26 (Operand.tmp 7)), none, ann0⟩,
  ⟨(some 28), (Op.call { callee := (Callee.value (Operand.tmp 26)), args := #[(Operand.tmp 27)], argTypes := #[26] }), none, ann0⟩,
  ⟨(some 29), (Op.unOp UnOp.not 4 (Operand.tmp 28)), none, ann0⟩] none) (.tidy [0, 1, 5, 6, 7, 29] z (z + 1)))
 (.cond (Operand.tmp 29) (.seq (.reg [⟨(some 30), (Op.move (Operand.tmp 0)), none, ann0⟩,
  ⟨(some 31), (Op.move (Operand.tmp 5)), none, ann0⟩,
  ⟨(some 32), (Op.load 26 (Operand.tmp 7)), none, ann0⟩,
  ⟨(some 33), (Op.indexAddr 22 (Operand.tmp 30) (Operand.tmp 31)), none, ann0⟩,
  ⟨none, (Op.store 26 (Operand.tmp 33) (Operand.tmp 32)), none, ann0⟩] none)
 (.reg [⟨(some 34), (Op.move (Operand.tmp 5)), none, ann0⟩,
  ⟨(some 35), (Op.binOp BinOp.add 3 (Operand.tmp 34) (Operand.const (Value.int IntKind.i64 1)) 3), none, ann0⟩,
  ⟨(some 5), (Op.assign (Operand.tmp 35)), none, ann0⟩] none))
 .skip)))) (.tidy [0, 1, 5, 6] z (z + 1)))
 (.reg [⟨(some 20), (Op.move (Operand.tmp 6)), none, ann0⟩,
  ⟨(some 21), (Op.binOp BinOp.add 3 (Operand.tmp 20) (Operand.const (Value.int IntKind.i64 1)) 3), none, ann0⟩,
  ⟨(some 6), (Op.assign (Operand.tmp 21)), none, ann0⟩] none))) (.tidy [0, 1, 5, 6] z (z + 0))
def s73_1 (z : Nat) : SC := c73_1 z
theorem e73_1 {C : Pg} {z : Nat} {st : St} {ks : List Fr} {K : Ex → St → Prop} : wpk C (s73_1 z) st ks K ↔ wpk C (c73_1 z) st ks K := Iff.rfl
def s73 (z : Nat) : SFn := ⟨2, 42, [(ResultVar.tmp 4)],
 (.post (.seq (.reg [⟨(some 4), (Op.assign (Operand.const (Value.slice none 0 0))), none, ann0⟩] none)
 (.seq (.reg [⟨(some 8), (Op.move (Operand.tmp 0)), none, ann0⟩,
  ⟨(some 9), (Op.move (Operand.tmp 1)), none, ann0⟩,
  ⟨(some 10), (Op.call { callee := (Callee.value (Operand.func 68)), args := #[(Operand.tmp 8), (Operand.tmp 9)], argTypes := #[22, 113] }), none, ann0⟩,
  ⟨(some 5), (Op.assign (Operand.tmp 10)), none, ann0⟩] none)
 (.seq (.post (.seq (.reg [⟨(some 11), (Op.move (Operand.tmp 5)), none, ann0⟩,
  ⟨(some 12), (Op.binOp BinOp.eql 3 (Operand.tmp 11) (Operand.const (Value.int IntKind.i64 (-1))) 3), none, ann0⟩] none)
 (.cond (Operand.tmp 12) (.seq (.reg [⟨(some 13), (Op.move (Operand.tmp 0)), none, ann0⟩,
  ⟨(some 4), (Op.assign (Operand.tmp 13)), none, ann0⟩] none)
 .ret)
 .skip)) (.tidy [0, 1, 5] z (z + 0)))
 (.seq (.post (.seq (.reg [⟨(some 14), (Op.move (Operand.tmp 5)), none, ann0⟩,
  ⟨(some 15), (Op.binOp BinOp.add 3 (Operand.tmp 14) (Operand.const (Value.int IntKind.i64 1)) 3), none, ann0⟩,
  ⟨(some 6), (Op.assign (Operand.tmp 15)), none, ann0⟩] none)
 (.post (.block 0 (.pre (.tidy [0, 1, 5, 6] z (z + 0)) (.loop (s73_1 z)))) (.tidy [0, 5] z (z + 0)))) (.tidy [0, 5] z (z + 0)))
 (.seq (.reg [⟨(some 36), (Op.move (Operand.tmp 0)), none, ann0⟩,
  ⟨(some 37), (Op.move (Operand.tmp 5)), none, ann0⟩,
  ⟨(some 38), (Op.slice 22 (Operand.tmp 36) (some (Operand.tmp 37)) none none), none, ann0⟩,
  ⟨none, (Op.call { callee := (Callee.builtin Builtin.clear), args := #[(Operand.tmp 38)], argTypes := #[22] }), none, ann0⟩] none)
 (.seq (.reg [⟨(some 39), (Op.move (Operand.tmp 0)), none, ann0⟩,
  ⟨(some 40), (Op.move (Operand.tmp 5)), none, ann0⟩,
  ⟨(some 41), (Op.slice 22 (Operand.tmp 39) none (some (Operand.tmp 40)) none), none, ann0⟩,
  ⟨(some 4), (Op.assign (Operand.tmp 41)), none, ann0⟩] none)
 .ret)))))) (.frz 4))⟩
theorem F73 (z : Nat) : FOk Try.prog 73 (s73 z) := by unfold FOk; kernel_rfl
def s74 (z : Nat) : SFn := ⟨1, 8, [(ResultVar.tmp 2)],
 (.seq (.reg [⟨(some 2), (Op.assign (Operand.const (Value.slice none 0 0))), none, ann0⟩] none)
 (.seq (.seq (.reg [⟨(some 3), (Op.move (Operand.tmp 0)), none, ann0⟩,
  ⟨(some 4), (Op.binOp BinOp.eql 22 (Operand.tmp 3) (Operand.const (Value.slice none 0 0)) 22), none, ann0⟩] none)
 (.cond (Operand.tmp 4) (.seq (.reg [⟨(some 2), (Op.assign (Operand.const (Value.slice none 0 0))), none, ann0⟩] none)
 .ret)
 .skip))
 (.seq (.reg [⟨(some 5), (Op.buildSlice 22 0 #[]), none, ⟨1, false, false⟩⟩,
  ⟨(some 6), (Op.move (Operand.tmp 0)), none, ann0⟩,
  ⟨(some 7), (Op.call { callee := (Callee.builtin Builtin.append), args := #[(Operand.tmp 5), (Operand.tmp 6)], argTypes := #[22, 22] }), none, ann0⟩,
  ⟨(some 2), (Op.assign (Operand.tmp 7)), none, ann0⟩] none)
 .ret)))⟩
theorem F74 (z : Nat) : FOk Try.prog 74 (s74 z) := by unfold FOk; kernel_rfl
def s55 (z : Nat) : SFn := ⟨2, 9, [(ResultVar.tmp 4)],
 (.post (.seq (.reg [⟨(some 3), (Op.box 113 (Operand.tmp 1)), none, ⟨1, false, false⟩⟩,
  ⟨(some 4), (Op.assign (Operand.const (Value.slice none 0 0))), none, ann0⟩] none)
 (.seq (.reg [⟨(some 5), (Op.move (Operand.tmp 0)), none, ann0⟩,
  ⟨(some 6), (Op.call { callee := (Callee.value (Operand.func 74)), args := #[(Operand.tmp 5)], argTypes := #[22] }), none, ⟨1, false, false⟩⟩,
  ⟨(some 7), (Op.makeFunc (Fn.func 75) #[] #[(Operand.tmp 3)]), none, ann0⟩,
  ⟨(some 8), (Op.call { callee := (Callee.value (Operand.func 73)), args := #[(Operand.tmp 6), (Operand.tmp 7)], argTypes := #[22, 113] }), none, ann0⟩,
  ⟨(some 4), (Op.assign (Operand.tmp 8)), none, ann0⟩] none)
 .ret)) (.frz 4))⟩
theorem F55 (z : Nat) : FOk Try.prog 55 (s55 z) := by unfold FOk; kernel_rfl
def s75 (z : Nat) : SFn := ⟨2, 8, [(ResultVar.tmp 3)],
 (.seq (.reg [⟨(some 2), (Op.box 26 (Operand.tmp 0)), none, ⟨1, false, false⟩⟩,
  ⟨(some 3), (Op.assign (Operand.const (Value.bool false))), none, ann0⟩] none)
 (.seq (.reg [⟨(some 4), (Op.load 113 (Operand.tmp 1)), none, ann0⟩,
  ⟨(some 5), (Op.load 26 (Operand.tmp 2)), none, ann0⟩,
  ⟨(some 6), (Op.call { callee := (Callee.value (Operand.tmp 4)), args := #[(Operand.tmp 5)], argTypes := #[26] }), none, ann0⟩,
  ⟨(some 7), (Op.unOp UnOp.not 4 (Operand.tmp 6)), none, ann0⟩,
  ⟨(some 3), (Op.assign (Operand.tmp 7)), none, ann0⟩] none)
 .ret))⟩
theorem F75 (z : Nat) : FOk Try.prog 75 (s75 z) := by unfold FOk; kernel_rfl
def s34 (z : Nat) : SFn := ⟨2, 8, [(ResultVar.tmp 4)],
 (.post (.seq (.reg [⟨(some 3), (Op.box 37 (Operand.tmp 1)), none, ⟨1, false, false⟩⟩,
  ⟨(some 4), (Op.assign (Operand.const (Value.slice none 0 0))), none, ann0⟩] none)
 (.seq (.reg [⟨(some 5), (Op.move (Operand.tmp 0)), none, ann0⟩,
  ⟨(some 6), (Op.makeFunc (Fn.func 56) #[] #[(Operand.tmp 3)]), none, ann0⟩,
  ⟨(some 7), (Op.call { callee := (Callee.value (Operand.func 55)), args := #[(Operand.tmp 5), (Operand.tmp 6)], argTypes := #[22, 113] }), none, ann0⟩,
  ⟨(some 4), (Op.assign (Operand.tmp 7)), none, ann0⟩] none)
 .ret)) (.frz 4))⟩
theorem F34 (z : Nat) : FOk Try.prog 34 (s34 z) := by unfold FOk; kernel_rfl
def s56 (z : Nat) : SFn := ⟨2, 8, [(ResultVar.tmp 3)],
 (.seq (.reg [⟨(some 2), (Op.box 26 (Operand.tmp 0)), none, ⟨1, false, false⟩⟩,
  ⟨(some 3), (Op.assign (Operand.const (Value.bool false))), none, ann0⟩] none)
 (.seq (.reg [⟨(some 4), (Op.load 37 (Operand.tmp 1)), none, ann0⟩,
  ⟨(some 5), (Op.fieldAddr 26 (Operand.tmp 2) 2), none, ann0⟩,
  ⟨(some 6), (Op.load 3 (Operand.tmp 5)), none, ann0⟩,
  ⟨(some 7), (Op.call { callee := (Callee.value (Operand.func 53)), args := #[(Operand.tmp 4), (Operand.tmp 6)], argTypes := #[37, 3] }), none, ann0⟩,
  ⟨(some 3), (Op.assign (Operand.tmp 7)), none, ann0⟩] none)
 .ret))⟩
theorem F56 (z : Nat) : FOk Try.prog 56 (s56 z) := by unfold FOk; kernel_rfl
def s35 (z : Nat) : SFn := ⟨3, 21, [(ResultVar.tmp 6)],
 (.post (.seq (.reg [⟨(some 4), (Op.box 3 (Operand.tmp 1)), none, ⟨1, false, false⟩⟩,
  ⟨(some 6), (Op.assign (Operand.const (Value.slice none 0 0))), none, ann0⟩] none)
 (.seq (.reg [⟨(some 8), (Op.move (Operand.tmp 0)), none, ann0⟩,
  ⟨(some 9), (Op.makeFunc (Fn.func 57) #[] #[(Operand.tmp 4)]), none, ann0⟩,
  ⟨(some 10), (Op.call { callee := (Callee.value (Operand.func 55)), args := #[(Operand.tmp 8), (Operand.tmp 9)], argTypes := #[22, 113] }), none, ann0⟩,
  ⟨(some 7), (Op.assign (Operand.tmp 10)), none, ann0⟩] none)
 (.seq (.reg [⟨(some 11), (Op.move (Operand.tmp 7)), none, ann0⟩,
  ⟨(some 12), (Op.move (Operand.tmp 7)), none, ann0⟩,
  ⟨(some 13), (Op.call { callee := (Callee.builtin Builtin.len), args := #[(Operand.tmp 12)], argTypes := #[22] }), none, ann0⟩,
  ⟨(some 14), (Op.move (Operand.tmp 2)), none, ann0⟩,
  ⟨(some 15), (Op.move (Operand.tmp 7)), none, ann0⟩,
  ⟨(some 16), (Op.call { callee := (Callee.builtin Builtin.len), args := #[(Operand.tmp 15)], argTypes := #[22] }), none, ann0⟩,
  ⟨(some 17), (Op.call { callee := (Callee.builtin Builtin.min), args := #[(Operand.tmp 14), (Operand.tmp 16)], argTypes := #[3, 3] }), none, ann0⟩,
  ⟨(some 18), (Op.call { callee := (Callee.builtin Builtin.max), args := #[(Operand.const (Value.int IntKind.i64 0)), (Operand.tmp 17)], argTypes := #[3, 3] }), none, ann0⟩,
  ⟨(some 19), (Op.binOp BinOp.sub 3 (Operand.tmp 13) (Operand.tmp 18) 3), none, ann0⟩,
  ⟨(some 20), (Op.slice 22 (Operand.tmp 11) (some (Operand.tmp 19)) none none), none, ann0⟩,
  ⟨(some 6), (Op.assign (Operand.tmp 20)), none, ann0⟩] none)
 .ret))) (.frz 6))⟩
theorem F35 (z : Nat) : FOk Try.prog 35 (s35 z) := by unfold FOk; kernel_rfl
def s57 (z : Nat) : SFn := ⟨2, 8, [(ResultVar.tmp 3)],
 (.seq (.reg [⟨(some 2), (Op.box 26 (Operand.tmp 0)), none, ⟨1, false, false⟩⟩,
  ⟨(some 3), (Op.assign (Operand.const (Value.bool false))), none, ann0⟩] none)
 (.seq (.reg [⟨(some 4), (Op.fieldAddr 26 (Operand.tmp 2) 2), none, ann0⟩,
  ⟨(some 5), (Op.load 3 (Operand.tmp 4)), none, ann0⟩,
  ⟨(some 6), (Op.load 3 (Operand.tmp 1)), none, ann0⟩,
  ⟨(some 7), (Op.binOp BinOp.leq 3 (Operand.tmp 5) (Operand.tmp 6) 3), none, ann0⟩,
  ⟨(some 3), (Op.assign (Operand.tmp 7)), none, ann0⟩] none)
 .ret))⟩
theorem F57 (z : Nat) : FOk Try.prog 57 (s57 z) := by unfold FOk; kernel_rfl
def c9_1 (z : Nat) : SC := .post (.seq (.seq (.post (.reg [⟨(some 13), (Op.move (Operand.tmp 10)), none, ann0⟩,
  ⟨(some 14), (Op.move (Operand.tmp 7)), none, ann0⟩,
  ⟨(some 15), (Op.call { callee := (Callee.builtin Builtin.len), args := #[(Operand.tmp 14)], argTypes := #[22] }), none, ann0⟩,
  ⟨(some 16), (Op.binOp BinOp.lss 3 (Operand.tmp 13) (Operand.tmp 15) 3), none, ann0⟩] none) (.tidy [4, 5, 7, 8, 9, 10, 16] z (z + 4)))
 (.cond (Operand.tmp 16) .skip
 (.exit 0)))
 (.seq (.post (.block 1 (.seq (.post (.seq (.post (.reg [⟨(some 19), (Op.load 37 (Operand.tmp 4)), none, ann0⟩,
  ⟨(some 20), (Op.move (Operand.tmp 7)), none, ann0⟩,
  ⟨(some 21), (Op.move (Operand.tmp 10)), none, ann0⟩,
  ⟨(some 22), (Op.indexAddr 22 (Operand.tmp 20) (Operand.tmp 21)), none, ann0⟩,
  ⟨(some 23), (Op.fieldAddr 26 (Operand.tmp 22) 2), none, ann0⟩,
  ⟨(some 24), (Op.load 3 (Operand.tmp 23)), none, ann0⟩,
  ⟨(some 25), (Op.call { callee := (Callee.value (Operand.func 31)), args := #[(Operand.tmp 19), (Operand.tmp 24)], argTypes := #[37, 3] }), none, ann0⟩] (some [0, 0, 0, 6, 14, 30, 63])) (.tidy [4, 5, 7, 8, 9, 10, 25] z (z + 4)))
 (.cond (Operand.tmp 25) (.reg [⟨(some 26), (Op.move (Operand.tmp 8)), none, ann0⟩,
  ⟨(some 27), (Op.move (Operand.tmp 7)), none, ann0⟩,
  ⟨(some 28), (Op.move (Operand.tmp 10)), none, ann0⟩,
  ⟨(some 29), (Op.indexAddr 22 (Operand.tmp 27) (Operand.tmp 28)), none, ann0⟩,
  ⟨(some 30), (Op.load 26 (Operand.tmp 29)), none, ann0⟩,
  ⟨(some 31), (Op.buildSlice 22 1 #[(0, (Operand.tmp 30))]), none, ⟨1, true, false⟩⟩,
  ⟨(some 32), (Op.call { callee := (Callee.builtin Builtin.append), args := #[(Operand.tmp 26), (Operand.tmp 31)], argTypes := #[22, 22] }), none, ann0⟩,
  ⟨(some 8), (Op.assign (Operand.tmp 32)), none, ann0⟩] none)
 .skip)) (.tidy [4, 5, 7, 8, 9, 10] z (z + 5)))
 (.seq (.post (.reg [⟨(some 33), (Op.move (Operand.tmp 7)), none, ann0⟩,
  ⟨(some 34), (Op.move (Operand.tmp 10)), none, ann0⟩,
  ⟨(some 35), (Op.indexAddr 22 (Operand.tmp 33) (Operand.tmp 34)), none, ann0⟩,
  ⟨(some 36), (Op.fieldAddr 26 (Operand.tmp 35) 2), none, ann0⟩,
  ⟨(some 37), (Op.load 3 (Operand.tmp 36)), none, ann0⟩,
  ⟨(some 38), (Op.indexAddr 78 (Operand.tmp 5) (Operand.const (Value.int IntKind.i64 0))), none, ann0⟩,
  ⟨(some 39), (Op.load 3 (Operand.tmp 38)), none, ann0⟩,
  ⟨(some 40), (Op.binOp BinOp.leq 3 (Operand.tmp 37) (Operand.tmp 39) 3), none, ann0⟩] (some [0, 0, 3, 7, 15, 0, 32, 127])) (.tidy [4, 5, 7, 8, 9, 10, 40] z (z + 5)))
 (.cond (Operand.tmp 40) (.reg [⟨(some 41), (Op.move (Operand.tmp 9)), none, ann0⟩,
  ⟨(some 42), (Op.move (Operand.tmp 7)), none, ann0⟩,
  ⟨(some 43), (Op.move (Operand.tmp 10)), none, ann0⟩,
  ⟨(some 44), (Op.indexAddr 22 (Operand.tmp 42) (Operand.tmp 43)), none, ann0⟩,
  ⟨(some 45), (Op.load 26 (Operand.tmp 44)), none, ann0⟩,
  ⟨(some 46), (Op.buildSlice 22 1 #[(0, (Operand.tmp 45))]), none, ⟨1, true, false⟩⟩,
  ⟨(some 47), (Op.call { callee := (Callee.builtin Builtin.append), args := #[(Operand.tmp 41), (Operand.tmp 46)], argTypes := #[22, 22] }), none, ann0⟩,
  ⟨(some 9), (Op.assign (Operand.tmp 47)), none, ann0⟩] none)
 .skip)))) (.tidy [4, 5, 7, 8, 9, 10] z (z + 6)))
 (.reg [⟨(some 17), (Op.move (Operand.tmp 10)), none, ann0⟩,
  ⟨(some 18), (Op.binOp BinOp.add 3 (Operand.tmp 17) (Operand.const (Value.int IntKind.i64 1)) 3), none, ann0⟩,
  ⟨(some 10), (Op.assign (Operand.tmp 18)), none, ann0⟩] none))) (.tidy [4, 5, 7, 8, 9, 10] z (z + 4))
def s9_1 (z : Nat) : SC := c9_1 z
theorem e9_1 {C : Pg} {z : Nat} {st : St} {ks : List Fr} {K : Ex → St → Prop} : wpk C (s9_1 z) st ks K ↔ wpk C (c9_1 z) st ks K := Iff.rfl
def s9 (z : Nat) : SFn := ⟨3, 77, [(ResultVar.tmp 6)],
 (.seq (.reg [⟨(some 4), (Op.box 37 (Operand.tmp 1)), none, ⟨1, false, false⟩⟩,
  ⟨(some 5), (Op.box 78 (Operand.tmp 2)), none, ⟨1, false, false⟩⟩,
  ⟨(some 6), (Op.assign (Operand.const (Value.bool false))), none, ann0⟩] none)
 (.seq (.reg [⟨(some 11), (Op.move (Operand.tmp 0)), none, ann0⟩,
  ⟨(some 12), (Op.call { callee := (Callee.value (Operand.func 19)), args := #[(Operand.tmp 11)], argTypes := #[30] }), none, ann0⟩,
  ⟨(some 7), (Op.assign (Operand.tmp 12)), none, ann0⟩] none)
 (.seq (.post (.post (.reg [⟨(some 8), (Op.assign (Operand.const (Value.slice none 0 0))), none, ann0⟩,
  ⟨(some 9), (Op.assign (Operand.const (Value.slice none 0 0))), none, ann0⟩] none) (.mkv 8 26 6)) (.mkv 9 26 6))
 (.seq (.post (.seq (.reg [⟨(some 10), (Op.assign (Operand.const (Value.int IntKind.i64 0))), none, ann0⟩] none)
 (.post (.block 0 (.pre (.tidy [4, 5, 7, 8, 9, 10] z (z + 4)) (.loop (s9_1 z)))) (.tidy [4, 5, 7, 8, 9] z (z + 4)))) (.tidy [4, 5, 7, 8, 9] z (z + 4)))
 (.seq (.post (.reg [⟨(some 48), (Op.move (Operand.tmp 9)), none, ann0⟩,
  ⟨(some 49), (Op.move (Operand.tmp 9)), none, ann0⟩,
  ⟨(some 50), (Op.call { callee := (Callee.builtin Builtin.len), args := #[(Operand.tmp 49)], argTypes := #[22] }), none, ann0⟩,
  ⟨(some 51), (Op.indexAddr 78 (Operand.tmp 5) (Operand.const (Value.int IntKind.i64 1))), none, ann0⟩,
  ⟨(some 52), (Op.load 3 (Operand.tmp 51)), none, ann0⟩,
  ⟨(some 53), (Op.move (Operand.tmp 9)), none, ann0⟩,
  ⟨(some 54), (Op.call { callee := (Callee.builtin Builtin.len), args := #[(Operand.tmp 53)], argTypes := #[22] }), none, ann0⟩,
  ⟨(some 55), (Op.call { callee := (Callee.builtin Builtin.min), args := #[(Operand.tmp 52), (Operand.tmp 54)], argTypes := #[3, 3] }), none, ann0⟩,
  ⟨(some 56), (Op.call { callee := (Callee.builtin Builtin.max), args := #[(Operand.const (Value.int IntKind.i64 0)), (Operand.tmp 55)], argTypes := #[3, 3] }), none, ann0⟩,
  ⟨(some 57), (Op.binOp BinOp.sub 3 (Operand.tmp 50) (Operand.tmp 56) 3), none, ann0⟩,
  ⟨(some 58), (Op.slice 22 (Operand.tmp 48) (some (Operand.tmp 57)) none none), none, ann0⟩,
  ⟨(some 9), (Op.assign (Operand.tmp 58)), none, ann0⟩] none) (.tidy [4, 5, 7, 8, 9] z (z + 4)))
 (.seq (.reg [⟨(some 59), (Op.call { callee := (Callee.value (Operand.func 14)), args := #[], argTypes := #[] }), none, ann0⟩,
  ⟨(some 60), (Op.move (Operand.tmp 59)), none, ann0⟩,
  ⟨(some 61), (Op.move (Operand.tmp 7)), (some (60, true)), ann0⟩,
  ⟨(some 62), (Op.load 37 (Operand.tmp 4)), (some (60, true)), ann0⟩,
  ⟨(some 63), (Op.call { callee := (Callee.value (Operand.func 34)), args := #[(Operand.tmp 61), (Operand.tmp 62)], argTypes := #[22, 37] }), (some (60, true)), ann0⟩,
  ⟨(some 64), (Op.move (Operand.tmp 8)), (some (60, true)), ann0⟩,
  ⟨(some 65), (Op.call { callee := (Callee.value (Operand.func 33)), args := #[(Operand.tmp 63), (Operand.tmp 64)], argTypes := #[22, 22] }), (some (60, true)), ann0⟩,
  ⟨(some 66), (Op.pick (Operand.tmp 60) (Operand.tmp 65) (Operand.const (Value.bool false))), none, ann0⟩,
  ⟨(some 67), (Op.move (Operand.tmp 66)), none, ann0⟩,
  ⟨(some 68), (Op.move (Operand.tmp 7)), (some (67, true)), ann0⟩,
  ⟨(some 69), (Op.indexAddr 78 (Operand.tmp 5) (Operand.const (Value.int IntKind.i64 0))), (some (67, true)), ann0⟩,
  ⟨(some 70), (Op.load 3 (Operand.tmp 69)), (some (67, true)), ann0⟩,
  ⟨(some 71), (Op.indexAddr 78 (Operand.tmp 5) (Operand.const (Value.int IntKind.i64 1))), (some (67, true)), ann0⟩,
  ⟨(some 72), (Op.load 3 (Operand.tmp 71)), (some (67, true)), ann0⟩,
  ⟨(some 73), (Op.call { callee := (Callee.value (Operand.func 35)), args := #[(Operand.tmp 68), (Operand.tmp 70), (Operand.tmp 72)], argTypes := #[22, 3, 3] }), (some (67, true)), ann0⟩,
  ⟨(some 74), (Op.move (Operand.tmp 9)), (some (67, true)), ann0⟩,
  ⟨(some 75), (Op.call { callee := (Callee.value (Operand.func 33)), args := #[(Operand.tmp 73), (Operand.tmp 74)], argTypes := #[22, 22] }), (some (67, true)), ann0⟩,
  ⟨(some 76), (Op.pick (Operand.tmp 67) (Operand.tmp 75) (Operand.const (Value.bool false))), none, ann0⟩,
  ⟨(some 6), (Op.assign (Operand.tmp 76)), none, ann0⟩] none)
 .ret))))))⟩
theorem F9 (z : Nat) : FOk Try.prog 9 (s9 z) := by unfold FOk; kernel_rfl
def c10_1 (z : Nat) : SC := .post (.seq (.post (.seq (.reg [⟨(some 31), (Op.move (Operand.tmp 9)), none, ann0⟩,
  ⟨(some 32), (Op.move (Operand.tmp 6)), none, ann0⟩,
  ⟨(some 33), (Op.call { callee := (Callee.builtin Builtin.len), args := #[(Operand.tmp 32)], argTypes := #[52] }), none, ann0⟩,
  ⟨(some 34), (Op.binOp BinOp.lss 3 (Operand.tmp 31) (Operand.tmp 33) 3), none, ann0⟩] none)
 (.cond (Operand.tmp 34) .skip
 (.exit 0))) (.tidy [5, 6, 7, 8, 9] z (z + 2)))
 (.seq (.post (.block 1 (.seq (.post (.reg [⟨(some 37), (Op.move (Operand.tmp 7)), none, ann0⟩,
  ⟨(some 38), (Op.move (Operand.tmp 6)), none, ann0⟩,
  ⟨(some 39), (Op.move (Operand.tmp 9)), none, ann0⟩,
  ⟨(some 40), (Op.indexAddr 52 (Operand.tmp 38) (Operand.tmp 39)), none, ann0⟩,
  ⟨(some 41), (Op.fieldAddr 61 (Operand.tmp 40) 6), none, ann0⟩,
  ⟨(some 42), (Op.load 9 (Operand.tmp 41)), none, ann0⟩,
  ⟨(some 43), (Op.lookup 34 (Operand.tmp 37) (Operand.tmp 42) false), none, ann0⟩,
  ⟨(some 44), (Op.binOp BinOp.add 3 (Operand.tmp 43) (Operand.const (Value.int IntKind.i64 1)) 3), none, ann0⟩,
  ⟨none, (Op.mapUpdate 34 (Operand.tmp 37) (Operand.tmp 42) (Operand.tmp 44)), none, ann0⟩] none) (.tidy [5, 6, 7, 8, 9] z (z + 2)))
 (.seq (.post (.reg [⟨(some 45), (Op.move (Operand.tmp 9)), none, ann0⟩,
  ⟨(some 46), (Op.move (Operand.tmp 8)), none, ann0⟩,
  ⟨(some 47), (Op.call { callee := (Callee.builtin Builtin.len), args := #[(Operand.tmp 46)], argTypes := #[54] }), none, ann0⟩,
  ⟨(some 48), (Op.binOp BinOp.lss 3 (Operand.tmp 45) (Operand.tmp 47) 3), none, ann0⟩,
  ⟨(some 49), (Op.move (Operand.tmp 48)), none, ann0⟩,
  ⟨(some 50), (Op.move (Operand.tmp 8)), (some (49, true)), ann0⟩,
  ⟨(some 51), (Op.move (Operand.tmp 9)), (some (49, true)), ann0⟩,
  ⟨(some 52), (Op.indexAddr 54 (Operand.tmp 50) (Operand.tmp 51)), (some (49, true)), ann0⟩,
  ⟨(some 53), (Op.load 3 (Operand.tmp 52)), (some (49, true)), ann0⟩,
  ⟨(some 54), (Op.binOp BinOp.eql 3 (Operand.tmp 53) (Operand.const (Value.int IntKind.i64 0)) 3), (some (49, true)), ann0⟩,
  ⟨(some 55), (Op.pick (Operand.tmp 49) (Operand.tmp 54) (Operand.const (Value.bool false))), none, ann0⟩] none) (.tidy [5, 6, 7, 8, 9, 55] z (z + 2)))
 (.cond (Operand.tmp 55) (.reg [⟨(some 56), (Op.move (Operand.tmp 7)), none, ann0⟩,
  ⟨(some 57), (Op.move (Operand.tmp 6)), none, ann0⟩,
  ⟨(some 58), (Op.move (Operand.tmp 9)), none, ann0⟩,
  ⟨(some 59), (Op.indexAddr 52 (Operand.tmp 57) (Operand.tmp 58)), none, ann0⟩,
  ⟨(some 60), (Op.fieldAddr 61 (Operand.tmp 59) 6), none, ann0⟩,
  ⟨(some 61), (Op.load 9 (Operand.tmp 60)), none, ann0⟩,
  ⟨(some 62), (Op.lookup 34 (Operand.tmp 56) (Operand.tmp 61) false), none, ann0⟩,
  ⟨(some 63), (Op.binOp BinOp.sub 3 (Operand.tmp 62) (Operand.const (Value.int IntKind.i64 1)) 3), none, ann0⟩,
  ⟨none, (Op.mapUpdate 34 (Operand.tmp 56) (Operand.tmp 61) (Operand.tmp 63)), none, ann0⟩] none)
 .skip)))) (.tidy [5, 6, 7, 8, 9] z (z + 2)))
 (.reg [⟨(some 35), (Op.move (Operand.tmp 9)), none, ann0⟩,
  ⟨(some 36), (Op.binOp BinOp.add 3 (Operand.tmp 35) (Operand.const (Value.int IntKind.i64 1)) 3), none, ann0⟩,
  ⟨(some 9), (Op.assign (Operand.tmp 36)), none, ann0⟩] none))) (.tidy [5, 6, 7, 8, 9] z (z + 2))
def s10_1 (z : Nat) : SC := c10_1 z
theorem e10_1 {C : Pg} {z : Nat} {st : St} {ks : List Fr} {K : Ex → St → Prop} : wpk C (s10_1 z) st ks K ↔ wpk C (c10_1 z) st ks K := Iff.rfl
def c10_2 (z : Nat) : SC := .post (.seq (.post (.seq (.reg [⟨(some 64), (Op.move (Operand.tmp 10)), none, ann0⟩,
  ⟨(some 65), (Op.move (Operand.tmp 5)), none, ann0⟩,
  ⟨(some 66), (Op.call { callee := (Callee.builtin Builtin.len), args := #[(Operand.tmp 65)], argTypes := #[22] }), none, ann0⟩,
  ⟨(some 67), (Op.binOp BinOp.lss 3 (Operand.tmp 64) (Operand.tmp 66) 3), none, ann0⟩] none)
 (.cond (Operand.tmp 67) .skip
 (.exit 2))) (.tidy [5, 6, 7, 8, 10] z (z + 2)))
 (.seq (.post (.block 3 (.seq (.reg [⟨(some 70), (Op.move (Operand.tmp 5)), none, ann0⟩,
  ⟨(some 71), (Op.move (Operand.tmp 10)), none, ann0⟩,
  ⟨(some 72), (Op.indexAddr 22 (Operand.tmp 70) (Operand.tmp 71)), none, ann0⟩,
  ⟨(some 73), (Op.fieldAddr 26 (Operand.tmp 72) 1), none, ann0⟩,
  ⟨(some 74), (Op.load 3 (Operand.tmp 73)), none, ann0⟩,
  ⟨(some 75), (Op.binOp BinOp.eql 3 (Operand.tmp 74) (Operand.const (Value.int IntKind.i64 1)) 3), none, ann0⟩] none)
 (.cond (Operand.tmp 75) (.seq (.post (.reg [⟨(some 77), (Op.move (Operand.tmp 5)), none, ann0⟩,
  ⟨(some 78), (Op.move (Operand.tmp 6)), none, ann0⟩,
  ⟨(some 79), (Op.move (Operand.tmp 5)), none, ann0⟩,
  ⟨(some 80), (Op.move (Operand.tmp 10)), none, ann0⟩,
  ⟨(some 81), (Op.indexAddr 22 (Operand.tmp 79) (Operand.tmp 80)), none, ann0⟩,
  ⟨(some 82), (Op.fieldAddr 26 (Operand.tmp 81) 0), none, ann0⟩,
  ⟨(some 83), (Op.load 3 (Operand.tmp 82)), none, ann0⟩,
  ⟨(some 84), (Op.call { callee := (Callee.value (Operand.func 32)), args := #[(Operand.tmp 77), (Operand.tmp 78), (Operand.tmp 83)], argTypes := #[22, 52, 3] }), none, ann0⟩,
  ⟨(some 76), (Op.move (Operand.tmp 84)), none, ann0⟩,
  ⟨(some 85), (Op.extract (Operand.tmp 76) 0), none, ann0⟩,
  ⟨(some 86), (Op.extract (Operand.tmp 76) 1), none, ann0⟩,
  ⟨(some 11), (Op.alloc 72), none, ⟨1, false, false⟩⟩,
  ⟨none, (Op.store 72 (Operand.tmp 11) (Operand.tmp 85)), none, ann0⟩,
  ⟨(some 12), (Op.assign (Operand.tmp 86)), none, ann0⟩] none) (.tidy [5, 6, 7, 8, 10, 11, 12] z (z + 3)))
 (.seq (.seq (.reg [⟨(some 87), (Op.move (Operand.tmp 12)), none, ann0⟩,
  ⟨(some 88), (Op.binOp BinOp.neq 27 (Operand.tmp 87) (Operand.const (Value.int IntKind.i64 0)) 27), none, ann0⟩] none)
 (.cond (Operand.tmp 88) (.seq (.reg [⟨(some 4), (Op.assign (Operand.const (Value.bool false))), none, ann0⟩] none)
 .ret)
 .skip))
 (.reg [⟨(some 89), (Op.move (Operand.tmp 7)), none, ann0⟩,
  ⟨(some 90), (Op.move (Operand.tmp 5)), none, ann0⟩,
  ⟨(some 91), (Op.move (Operand.tmp 10)), none, ann0⟩,
  ⟨(some 92), (Op.indexAddr 22 (Operand.tmp 90) (Operand.tmp 91)), none, ann0⟩,
  ⟨(some 93), (Op.fieldAddr 26 (Operand.tmp 92) 3), none, ann0⟩,
  ⟨(some 94), (Op.load 9 (Operand.tmp 93)), none, ann0⟩,
  ⟨(some 95), (Op.lookup 34 (Operand.tmp 89) (Operand.tmp 94) false), none, ann0⟩,
  ⟨(some 96), (Op.fieldAddr 72 (Operand.tmp 11) 0), none, ann0⟩,
  ⟨(some 97), (Op.load 3 (Operand.tmp 96)), none, ann0⟩,
  ⟨(some 98), (Op.binOp BinOp.sub 3 (Operand.tmp 95) (Operand.tmp 97) 3), none, ann0⟩,
  ⟨none, (Op.mapUpdate 34 (Operand.tmp 89) (Operand.tmp 94) (Operand.tmp 98)), none, ann0⟩] (some [0, 0, 0, 6, 14, 30, 63, 0, 128, 511, 1023]))))
 .skip))) (.tidy [5, 6, 7, 8, 10] z (z + 3)))
 (.reg [⟨(some 68), (Op.move (Operand.tmp 10)), none, ann0⟩,
  ⟨(some 69), (Op.binOp BinOp.add 3 (Operand.tmp 68) (Operand.const (Value.int IntKind.i64 1)) 3), none, ann0⟩,
  ⟨(some 10), (Op.assign (Operand.tmp 69)), none, ann0⟩] none))) (.tidy [5, 6, 7, 8, 10] z (z + 2))
def s10_2 (z : Nat) : SC := c10_2 z
theorem e10_2 {C : Pg} {z : Nat} {st : St} {ks : List Fr} {K : Ex → St → Prop} : wpk C (s10_2 z) st ks K ↔ wpk C (c10_2 z) st ks K := Iff.rfl
def c10_3 (z : Nat) : SC := .post (.seq (.reg [⟨(some 101), (Op.next (Operand.tmp 100) false), none, ann0⟩,
  ⟨(some 102), (Op.extract (Operand.tmp 101) 0), none, ann0⟩] none)
 (.seq (.cond (Operand.tmp 102) .skip
 (.exit 4))
 (.block 5 (.seq (.reg [⟨(some 103), (Op.entry (Operand.tmp 100)), none, ann0⟩,
  ⟨(some 104), (Op.extract (Operand.tmp 103) 1), none, ann0⟩,
  ⟨(some 14), (Op.assign (Operand.tmp 104)), none, ann0⟩] none)
 (.seq (.reg [⟨(some 105), (Op.move (Operand.tmp 14)), none, ann0⟩,
  ⟨(some 106), (Op.binOp BinOp.neq 3 (Operand.tmp 105) (Operand.const (Value.int IntKind.i64 0)) 3), none, ann0⟩] none)
 (.cond (Operand.tmp 106) (.seq (.reg [⟨(some 4), (Op.assign (Operand.const (Value.bool false))), none, ann0⟩] none)
 .ret)
 .skip)))))) (.tidy [6, 8, 100] z (z + 3))
def s10_3 (z : Nat) : SC := c10_3 z
theorem e10_3 {C : Pg} {z : Nat} {st : St} {ks : List Fr} {K : Ex → St → Prop} : wpk C (s10_3 z) st ks K ↔ wpk C (c10_3 z) st ks K := Iff.rfl
def s10 (z : Nat) : SFn := ⟨2, 112, [(ResultVar.tmp 4)],
 (.seq (.reg [⟨(some 3), (Op.box 50 (Operand.tmp 1)), none, ⟨1, false, false⟩⟩,
  ⟨(some 4), (Op.assign (Operand.const (Value.bool false))), none, ann0⟩] none)
 (.seq (.post (.seq (.post (.reg [⟨(some 15), (Op.call { callee := (Callee.value (Operand.func 14)), args := #[], argTypes := #[] }), none, ann0⟩,
  ⟨(some 16), (Op.unOp UnOp.not 4 (Operand.tmp 15)), none, ann0⟩,
  ⟨(some 17), (Op.move (Operand.tmp 16)), none, ann0⟩,
  ⟨(some 18), (Op.load 50 (Operand.tmp 3)), (some (17, false)), ann0⟩,
  ⟨(some 19), (Op.call { callee := (Callee.value (Operand.func 23)), args := #[(Operand.tmp 18)], argTypes := #[50] }), (some (17, false)), ann0⟩,
  ⟨(some 20), (Op.unOp UnOp.not 4 (Operand.tmp 19)), (some (17, false)), ann0⟩,
  ⟨(some 21), (Op.pick (Operand.tmp 17) (Operand.const (Value.bool true)) (Operand.tmp 20)), none, ann0⟩] none) (.tidy [0, 3, 21] z (z + 1)))
 (.cond (Operand.tmp 21) (.seq (.reg [⟨(some 22), (Op.call { callee := (Callee.value (Operand.func 14)), args := #[], argTypes := #[] }), none, ann0⟩,
  ⟨(some 4), (Op.assign (Operand.tmp 22)), none, ann0⟩] none)
 .ret)
 .skip)) (.tidy [0, 3] z (z + 1)))
 (.seq (.reg [⟨(some 23), (Op.move (Operand.tmp 0)), none, ann0⟩,
  ⟨(some 24), (Op.call { callee := (Callee.value (Operand.func 19)), args := #[(Operand.tmp 23)], argTypes := #[30] }), none, ann0⟩,
  ⟨(some 25), (Op.load 50 (Operand.tmp 3)), none, ann0⟩,
  ⟨(some 26), (Op.call { callee := (Callee.value (Operand.func 24)), args := #[(Operand.tmp 25)], argTypes := #[50] }), none, ann0⟩,
  ⟨(some 5), (Op.assign (Operand.tmp 24)), none, ann0⟩,
  ⟨(some 6), (Op.assign (Operand.tmp 26)), none, ann0⟩] (some [0, 1, 0, 7, 15, 31]))
 (.seq (.reg [⟨(some 27), (Op.makeMap 34 none), none, ⟨1, false, false⟩⟩,
  ⟨(some 7), (Op.assign (Operand.tmp 27)), none, ann0⟩] none)
 (.seq (.post (.reg [⟨(some 28), (Op.move (Operand.tmp 5)), none, ann0⟩,
  ⟨(some 29), (Op.move (Operand.tmp 6)), none, ann0⟩,
  ⟨(some 30), (Op.call { callee := (Callee.value (Operand.func 25)), args := #[(Operand.tmp 28), (Operand.tmp 29)], argTypes := #[22, 52] }), none, ann0⟩,
  ⟨(some 8), (Op.assign (Operand.tmp 30)), none, ann0⟩] none) (.tidy [5, 6, 7, 8] z (z + 2)))
 (.seq (.post (.seq (.reg [⟨(some 9), (Op.assign (Operand.const (Value.int IntKind.i64 0))), none, ann0⟩] none)
 (.post (.block 0 (.pre (.tidy [5, 6, 7, 8, 9] z (z + 2)) (.loop (s10_1 z)))) (.tidy [5, 6, 7, 8] z (z + 2)))) (.tidy [5, 6, 7, 8] z (z + 2)))
 (.seq (.post (.seq (.reg [⟨(some 10), (Op.assign (Operand.const (Value.int IntKind.i64 0))), none, ann0⟩] none)
 (.post (.block 2 (.pre (.tidy [5, 6, 7, 8, 10] z (z + 2)) (.loop (s10_2 z)))) (.tidy [6, 7, 8] z (z + 2)))) (.tidy [6, 7, 8] z (z + 2)))
 (.seq (.post (.seq (.reg [⟨(some 99), (Op.move (Operand.tmp 7)), none, ann0⟩,
  ⟨(some 100), (Op.range 34 (Operand.tmp 99)), none, ⟨1, false, false⟩⟩] none)
 (.post (.block 4 (.pre (.tidy [6, 8, 100] z (z + 3)) (.loop (s10_3 z)))) (.tidy [6, 8] z (z + 3)))) (.tidy [6, 8] z (z + 3)))
 (.seq (.reg [⟨(some 107), (Op.move (Operand.tmp 8)), none, ann0⟩,
  ⟨(some 108), (Op.call { callee := (Callee.builtin Builtin.len), args := #[(Operand.tmp 107)], argTypes := #[54] }), none, ann0⟩,
  ⟨(some 109), (Op.move (Operand.tmp 6)), none, ann0⟩,
  ⟨(some 110), (Op.call { callee := (Callee.builtin Builtin.len), args := #[(Operand.tmp 109)], argTypes := #[52] }), none, ann0⟩,
  ⟨(some 111), (Op.binOp BinOp.eql 3 (Operand.tmp 108) (Operand.tmp 110) 3), none, ann0⟩,
  ⟨(some 4), (Op.assign (Operand.tmp 111)), none, ann0⟩] none)
 .ret)))))))))⟩
theorem F10 (z : Nat) : FOk Try.prog 10 (s10 z) := by unfold FOk; kernel_rfl
def AL (z : Nat) : List (Nat × SFn) := [(65, s65 z), (66, s66 z), (41, s41 z), (42, s42 z), (40, s40 z), (15, s15 z), (67, s67 z), (46, s46 z), (45, s45 z), (58, s58 z), (48, s48 z), (53, s53 z), (17, s17 z), (20, s20 z), (29, s29 z), (14, s14 z), (43, s43 z), (44, s44 z), (16, s16 z), (18, s18 z), (3, s3 z), (39, s39 z), (47, s47 z), (19, s19 z), (4, s4 z), (68, s68 z), (69, s69 z), (49, s49 z), (21, s21 z), (22, s22 z), (5, s5 z), (31, s31 z), (27, s27 z), (7, s7 z), (72, s72 z), (54, s54 z), (30, s30 z), (23, s23 z), (70, s70 z), (97, s97 z), (82, s82 z), (98, s98 z), (83, s83 z), (84, s84 z), (71, s71 z), (50, s50 z), (24, s24 z), (51, s51 z), (25, s25 z), (52, s52 z), (26, s26 z), (28, s28 z), (6, s6 z), (32, s32 z), (8, s8 z), (33, s33 z), (73, s73 z), (74, s74 z), (55, s55 z), (75, s75 z), (34, s34 z), (56, s56 z), (35, s35 z), (57, s57 z), (9, s9 z), (10, s10 z)]
def AA (f : FuncId) (_ : List AV) (obs : List AObj) : Option SFn := getF f (AL obs.length)
theorem AL_ok (z : Nat) : AllF Try.prog (AL z) := by
  simp only [AL, AllF]
  exact ⟨F65 z, F66 z, F41 z, F42 z, F40 z, F15 z, F67 z, F46 z, F45 z, F58 z, F48 z, F53 z, F17 z, F20 z, F29 z, F14 z, F43 z, F44 z, F16 z, F18 z, F3 z, F39 z, F47 z, F19 z, F4 z, F68 z, F69 z, F49 z, F21 z, F22 z, F5 z, F31 z, F27 z, F7 z, F72 z, F54 z, F30 z, F23 z, F70 z, F97 z, F82 z, F98 z, F83 z, F84 z, F71 z, F50 z, F24 z, F51 z, F25 z, F52 z, F26 z, F28 z, F6 z, F32 z, F8 z, F33 z, F73 z, F74 z, F55 z, F75 z, F34 z, F56 z, F35 z, F57 z, F9 z, F10 z, trivial⟩
theorem AA_ok (f : FuncId) (xs : List AV) (obs : List AObj) (s : SFn) (h : AA f xs obs = some s) : (Try.prog.funcs[f]?).bind slimFn = some s.erase := getF_ok (AL_ok _) h
theorem A65 (xs : List AV) (obs : List AObj) : AA 65 xs obs = some (s65 obs.length) := rfl
theorem A66 (xs : List AV) (obs : List AObj) : AA 66 xs obs = some (s66 obs.length) := rfl
theorem A41 (xs : List AV) (obs : List AObj) : AA 41 xs obs = some (s41 obs.length) := rfl
theorem A42 (xs : List AV) (obs : List AObj) : AA 42 xs obs = some (s42 obs.length) := rfl
theorem A40 (xs : List AV) (obs : List AObj) : AA 40 xs obs = some (s40 obs.length) := rfl
theorem A15 (xs : List AV) (obs : List AObj) : AA 15 xs obs = some (s15 obs.length) := rfl
theorem A67 (xs : List AV) (obs : List AObj) : AA 67 xs obs = some (s67 obs.length) := rfl
theorem A46 (xs : List AV) (obs : List AObj) : AA 46 xs obs = some (s46 obs.length) := rfl
theorem A45 (xs : List AV) (obs : List AObj) : AA 45 xs obs = some (s45 obs.length) := rfl
theorem A58 (xs : List AV) (obs : List AObj) : AA 58 xs obs = some (s58 obs.length) := rfl
theorem A48 (xs : List AV) (obs : List AObj) : AA 48 xs obs = some (s48 obs.length) := rfl
theorem A53 (xs : List AV) (obs : List AObj) : AA 53 xs obs = some (s53 obs.length) := rfl
theorem A17 (xs : List AV) (obs : List AObj) : AA 17 xs obs = some (s17 obs.length) := rfl
theorem A20 (xs : List AV) (obs : List AObj) : AA 20 xs obs = some (s20 obs.length) := rfl
theorem A29 (xs : List AV) (obs : List AObj) : AA 29 xs obs = some (s29 obs.length) := rfl
theorem A14 (xs : List AV) (obs : List AObj) : AA 14 xs obs = some (s14 obs.length) := rfl
theorem A43 (xs : List AV) (obs : List AObj) : AA 43 xs obs = some (s43 obs.length) := rfl
theorem A44 (xs : List AV) (obs : List AObj) : AA 44 xs obs = some (s44 obs.length) := rfl
theorem A16 (xs : List AV) (obs : List AObj) : AA 16 xs obs = some (s16 obs.length) := rfl
theorem A18 (xs : List AV) (obs : List AObj) : AA 18 xs obs = some (s18 obs.length) := rfl
theorem A3 (xs : List AV) (obs : List AObj) : AA 3 xs obs = some (s3 obs.length) := rfl
theorem A39 (xs : List AV) (obs : List AObj) : AA 39 xs obs = some (s39 obs.length) := rfl
theorem A47 (xs : List AV) (obs : List AObj) : AA 47 xs obs = some (s47 obs.length) := rfl
theorem A19 (xs : List AV) (obs : List AObj) : AA 19 xs obs = some (s19 obs.length) := rfl
theorem A4 (xs : List AV) (obs : List AObj) : AA 4 xs obs = some (s4 obs.length) := rfl
theorem A68 (xs : List AV) (obs : List AObj) : AA 68 xs obs = some (s68 obs.length) := rfl
theorem A69 (xs : List AV) (obs : List AObj) : AA 69 xs obs = some (s69 obs.length) := rfl
theorem A49 (xs : List AV) (obs : List AObj) : AA 49 xs obs = some (s49 obs.length) := rfl
theorem A21 (xs : List AV) (obs : List AObj) : AA 21 xs obs = some (s21 obs.length) := rfl
theorem A22 (xs : List AV) (obs : List AObj) : AA 22 xs obs = some (s22 obs.length) := rfl
theorem A5 (xs : List AV) (obs : List AObj) : AA 5 xs obs = some (s5 obs.length) := rfl
theorem A31 (xs : List AV) (obs : List AObj) : AA 31 xs obs = some (s31 obs.length) := rfl
theorem A27 (xs : List AV) (obs : List AObj) : AA 27 xs obs = some (s27 obs.length) := rfl
theorem A7 (xs : List AV) (obs : List AObj) : AA 7 xs obs = some (s7 obs.length) := rfl
theorem A72 (xs : List AV) (obs : List AObj) : AA 72 xs obs = some (s72 obs.length) := rfl
theorem A54 (xs : List AV) (obs : List AObj) : AA 54 xs obs = some (s54 obs.length) := rfl
theorem A30 (xs : List AV) (obs : List AObj) : AA 30 xs obs = some (s30 obs.length) := rfl
theorem A23 (xs : List AV) (obs : List AObj) : AA 23 xs obs = some (s23 obs.length) := rfl
theorem A70 (xs : List AV) (obs : List AObj) : AA 70 xs obs = some (s70 obs.length) := rfl
theorem A97 (xs : List AV) (obs : List AObj) : AA 97 xs obs = some (s97 obs.length) := rfl
theorem A82 (xs : List AV) (obs : List AObj) : AA 82 xs obs = some (s82 obs.length) := rfl
theorem A98 (xs : List AV) (obs : List AObj) : AA 98 xs obs = some (s98 obs.length) := rfl
theorem A83 (xs : List AV) (obs : List AObj) : AA 83 xs obs = some (s83 obs.length) := rfl
theorem A84 (xs : List AV) (obs : List AObj) : AA 84 xs obs = some (s84 obs.length) := rfl
theorem A71 (xs : List AV) (obs : List AObj) : AA 71 xs obs = some (s71 obs.length) := rfl
theorem A50 (xs : List AV) (obs : List AObj) : AA 50 xs obs = some (s50 obs.length) := rfl
theorem A24 (xs : List AV) (obs : List AObj) : AA 24 xs obs = some (s24 obs.length) := rfl
theorem A51 (xs : List AV) (obs : List AObj) : AA 51 xs obs = some (s51 obs.length) := rfl
theorem A25 (xs : List AV) (obs : List AObj) : AA 25 xs obs = some (s25 obs.length) := rfl
theorem A52 (xs : List AV) (obs : List AObj) : AA 52 xs obs = some (s52 obs.length) := rfl
theorem A26 (xs : List AV) (obs : List AObj) : AA 26 xs obs = some (s26 obs.length) := rfl
theorem A28 (xs : List AV) (obs : List AObj) : AA 28 xs obs = some (s28 obs.length) := rfl
theorem A6 (xs : List AV) (obs : List AObj) : AA 6 xs obs = some (s6 obs.length) := rfl
theorem A32 (xs : List AV) (obs : List AObj) : AA 32 xs obs = some (s32 obs.length) := rfl
theorem A8 (xs : List AV) (obs : List AObj) : AA 8 xs obs = some (s8 obs.length) := rfl
theorem A33 (xs : List AV) (obs : List AObj) : AA 33 xs obs = some (s33 obs.length) := rfl
theorem A73 (xs : List AV) (obs : List AObj) : AA 73 xs obs = some (s73 obs.length) := rfl
theorem A74 (xs : List AV) (obs : List AObj) : AA 74 xs obs = some (s74 obs.length) := rfl
theorem A55 (xs : List AV) (obs : List AObj) : AA 55 xs obs = some (s55 obs.length) := rfl
theorem A75 (xs : List AV) (obs : List AObj) : AA 75 xs obs = some (s75 obs.length) := rfl
theorem A34 (xs : List AV) (obs : List AObj) : AA 34 xs obs = some (s34 obs.length) := rfl
theorem A56 (xs : List AV) (obs : List AObj) : AA 56 xs obs = some (s56 obs.length) := rfl
theorem A35 (xs : List AV) (obs : List AObj) : AA 35 xs obs = some (s35 obs.length) := rfl
theorem A57 (xs : List AV) (obs : List AObj) : AA 57 xs obs = some (s57 obs.length) := rfl
theorem A9 (xs : List AV) (obs : List AObj) : AA 9 xs obs = some (s9 obs.length) := rfl
theorem A10 (xs : List AV) (obs : List AObj) : AA 10 xs obs = some (s10 obs.length) := rfl
end Go.Proofs.YteidaaobppjlbaaV
