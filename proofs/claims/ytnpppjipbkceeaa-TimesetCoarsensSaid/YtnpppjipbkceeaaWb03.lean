/- The table of types and the functions' code, with notes for the interpreter, and the facts that they are the program's: made by a program. -/
import Derived.Test.YtnpppjipbkceeaaWb03a
set_option linter.unusedVariables false
namespace Go.Proofs.YtnpppjipbkceeaaV
open Go.RowKit

def TT : Tbl := [(2, ⟨.int .i64, 1, 8, [(.d (.int .i64 0))]⟩),
  (3, ⟨.int .i64, 1, 8, [(.d (.int .i64 0))]⟩),
  (4, ⟨.bool, 1, 1, [(.d (.bool false))]⟩),
  (5, ⟨.int .u8, 1, 1, [(.d (.int .u8 0))]⟩),
  (6, ⟨.int .u8, 1, 1, [(.d (.int .u8 0))]⟩),
  (8, ⟨.struct [(0, 2, 1), (1, 3, 1), (2, 4, 1), (3, 6, 1)], 4, 24, [(.d (.int .i64 0)), (.d (.int .i64 0)), (.d (.bool false)), (.d (.int .u8 0))]⟩),
  (9, ⟨.str, 1, 16, [(.d (.str ⟨#[]⟩))]⟩),
  (22, ⟨.slice 60, 1, 24, [(.d .nils)]⟩),
  (23, ⟨.slice 33, 1, 24, [(.d .nils)]⟩),
  (33, ⟨.struct [(0, 3, 1), (1, 3, 1)], 2, 16, [(.d (.int .i64 0)), (.d (.int .i64 0))]⟩),
  (38, ⟨.int .i64, 1, 8, [(.d (.int .i64 0))]⟩),
  (44, ⟨.arr 3 3, 3, 24, [(.d (.int .i64 0)), (.d (.int .i64 0)), (.d (.int .i64 0))]⟩),
  (45, ⟨.int .u64, 1, 8, [(.d (.int .u64 0))]⟩),
  (58, ⟨.int .i16, 1, 2, [(.d (.int .i16 0))]⟩),
  (60, ⟨.struct [(0, 58, 1), (1, 5, 1)], 2, 4, [(.d (.int .i16 0)), (.d (.int .u8 0))]⟩),
  (62, ⟨.other, 1, 8, [.nilf]⟩),
  (63, ⟨.slice 3, 1, 24, [(.d .nils)]⟩),
  (76, ⟨.arr 2 4, 2, 2, [(.d (.bool false)), (.d (.bool false))]⟩),
  (85, ⟨.int .i64, 1, 8, [(.d (.int .i64 0))]⟩),
  (92, ⟨.int .u32, 1, 4, [(.d (.int .u32 0))]⟩),
  (94, ⟨.int .u64, 1, 8, [(.d (.int .u64 0))]⟩)]
theorem TT_ok : TOk Try.prog TT := by unfold TOk; kernel_rfl
theorem T2 : TT.get 2 = some ⟨.int .i64, 1, 8, [(.d (.int .i64 0))]⟩ := by kernel_rfl
theorem T3 : TT.get 3 = some ⟨.int .i64, 1, 8, [(.d (.int .i64 0))]⟩ := by kernel_rfl
theorem T4 : TT.get 4 = some ⟨.bool, 1, 1, [(.d (.bool false))]⟩ := by kernel_rfl
theorem T5 : TT.get 5 = some ⟨.int .u8, 1, 1, [(.d (.int .u8 0))]⟩ := by kernel_rfl
theorem T6 : TT.get 6 = some ⟨.int .u8, 1, 1, [(.d (.int .u8 0))]⟩ := by kernel_rfl
theorem T8 : TT.get 8 = some ⟨.struct [(0, 2, 1), (1, 3, 1), (2, 4, 1), (3, 6, 1)], 4, 24, [(.d (.int .i64 0)), (.d (.int .i64 0)), (.d (.bool false)), (.d (.int .u8 0))]⟩ := by kernel_rfl
theorem T9 : TT.get 9 = some ⟨.str, 1, 16, [(.d (.str ⟨#[]⟩))]⟩ := by kernel_rfl
theorem T22 : TT.get 22 = some ⟨.slice 60, 1, 24, [(.d .nils)]⟩ := by kernel_rfl
theorem T23 : TT.get 23 = some ⟨.slice 33, 1, 24, [(.d .nils)]⟩ := by kernel_rfl
theorem T33 : TT.get 33 = some ⟨.struct [(0, 3, 1), (1, 3, 1)], 2, 16, [(.d (.int .i64 0)), (.d (.int .i64 0))]⟩ := by kernel_rfl
theorem T38 : TT.get 38 = some ⟨.int .i64, 1, 8, [(.d (.int .i64 0))]⟩ := by kernel_rfl
theorem T44 : TT.get 44 = some ⟨.arr 3 3, 3, 24, [(.d (.int .i64 0)), (.d (.int .i64 0)), (.d (.int .i64 0))]⟩ := by kernel_rfl
theorem T45 : TT.get 45 = some ⟨.int .u64, 1, 8, [(.d (.int .u64 0))]⟩ := by kernel_rfl
theorem T58 : TT.get 58 = some ⟨.int .i16, 1, 2, [(.d (.int .i16 0))]⟩ := by kernel_rfl
theorem T60 : TT.get 60 = some ⟨.struct [(0, 58, 1), (1, 5, 1)], 2, 4, [(.d (.int .i16 0)), (.d (.int .u8 0))]⟩ := by kernel_rfl
theorem T62 : TT.get 62 = some ⟨.other, 1, 8, [.nilf]⟩ := by kernel_rfl
theorem T63 : TT.get 63 = some ⟨.slice 3, 1, 24, [(.d .nils)]⟩ := by kernel_rfl
theorem T76 : TT.get 76 = some ⟨.arr 2 4, 2, 2, [(.d (.bool false)), (.d (.bool false))]⟩ := by kernel_rfl
theorem T85 : TT.get 85 = some ⟨.int .i64, 1, 8, [(.d (.int .i64 0))]⟩ := by kernel_rfl
theorem T92 : TT.get 92 = some ⟨.int .u32, 1, 4, [(.d (.int .u32 0))]⟩ := by kernel_rfl
theorem T94 : TT.get 94 = some ⟨.int .u64, 1, 8, [(.d (.int .u64 0))]⟩ := by kernel_rfl
def c50_2 (z : Nat) : SC := .post (.seq (.post (.seq (.post (.reg [⟨(some 37), (Op.move (Operand.tmp 9)), none, ann0⟩,
  ⟨(some 38), (Op.move (Operand.tmp 5)), none, ann0⟩,
  ⟨(some 39), (Op.call { callee := (Callee.builtin Builtin.len), args := #[(Operand.tmp 38)], argTypes := #[63] }), none, ann0⟩,
  ⟨(some 40), (Op.binOp BinOp.lss 3 (Operand.tmp 37) (Operand.tmp 39) 3), none, ann0⟩,
  ⟨(some 41), (Op.move (Operand.tmp 40)), none, ann0⟩,
  ⟨(some 42), (Op.move (Operand.tmp 5)), (some (41, true)), ann0⟩,
  ⟨(some 43), (Op.move (Operand.tmp 9)), (some (41, true)), ann0⟩,
  ⟨(some 44), (Op.indexAddr 63 (Operand.tmp 42) (Operand.tmp 43)), (some (41, true)), ann0⟩,
  ⟨(some 45), (Op.load 3 (Operand.tmp 44)), (some (41, true)), ann0⟩,
  ⟨(some 46), (Op.move (Operand.tmp 8)), (some (41, true)), ann0⟩,
  ⟨(some 47), (Op.binOp BinOp.lss 3 (Operand.tmp 45) (Operand.tmp 46) 3), (some (41, true)), ann0⟩,
  ⟨(some 48), (Op.pick (Operand.tmp 41) (Operand.tmp 47) (Operand.const (Value.bool false))), none, ann0⟩] none) (.tidy [5, 6, 7, 8, 9, 48] z (z + 1)))
 (.cond (Operand.tmp 48) .skip
 (.exit 2))) (.tidy [5, 6, 7, 8, 9] z (z + 1)))
 (.block 3 (.reg [⟨(some 49), (Op.move (Operand.tmp 9)), none, ann0⟩,
  ⟨(some 50), (Op.binOp BinOp.add 3 (Operand.tmp 49) (Operand.const (Value.int IntKind.i64 1)) 3), none, ann0⟩,
  ⟨(some 9), (Op.assign (Operand.tmp 50)), none, ann0⟩] none))) (.tidy [5, 6, 7, 8, 9] z (z + 1))
def s50_2 (z : Nat) : SC := c50_2 z
theorem e50_2 {C : Pg} {z : Nat} {st : St} {ks : List Fr} {K : Ex → St → Prop} : wpk C (s50_2 z) st ks K ↔ wpk C (c50_2 z) st ks K := Iff.rfl
def t50_51 (z : Nat) : SC := (.seq (.post (.reg [⟨(some 51), (Op.move (Operand.tmp 9)), none, ann0⟩,
  ⟨(some 52), (Op.move (Operand.tmp 5)), none, ann0⟩,
  ⟨(some 53), (Op.call { callee := (Callee.builtin Builtin.len), args := #[(Operand.tmp 52)], argTypes := #[63] }), none, ann0⟩,
  ⟨(some 54), (Op.binOp BinOp.eql 3 (Operand.tmp 51) (Operand.tmp 53) 3), none, ann0⟩,
  ⟨(some 55), (Op.move (Operand.tmp 54)), none, ann0⟩,
  ⟨(some 56), (Op.move (Operand.tmp 5)), (some (55, false)), ann0⟩,
  ⟨(some 57), (Op.move (Operand.tmp 9)), (some (55, false)), ann0⟩,
  ⟨(some 58), (Op.indexAddr 63 (Operand.tmp 56) (Operand.tmp 57)), (some (55, false)), ann0⟩,
  ⟨(some 59), (Op.load 3 (Operand.tmp 58)), (some (55, false)), ann0⟩,
  ⟨(some 60), (Op.move (Operand.tmp 8)), (some (55, false)), ann0⟩,
  ⟨(some 61), (Op.binOp BinOp.neq 3 (Operand.tmp 59) (Operand.tmp 60) 3), (some (55, false)), ann0⟩,
  ⟨(some 62), (Op.pick (Operand.tmp 55) (Operand.const (Value.bool true)) (Operand.tmp 61)), none, ann0⟩] none) (.tidy [5, 6, 7, 8, 9, 62] z (z + 1)))
 (.cond (Operand.tmp 62) (.post (.reg [⟨(some 63), (Op.buildSlice 63 0 #[]), none, ⟨1, false, false⟩⟩,
  ⟨(some 64), (Op.move (Operand.tmp 5)), none, ann0⟩,
  ⟨(some 65), (Op.move (Operand.tmp 9)), none, ann0⟩,
  ⟨(some 66), (Op.slice 63 (Operand.tmp 64) none (some (Operand.tmp 65)) none), none, ann0⟩,
  ⟨(some 67), (Op.call { callee := (Callee.builtin Builtin.append), args := #[(Operand.tmp 63), (Operand.tmp 66)], argTypes := #[63, 63] }), none, ann0⟩,
  ⟨(some 68), (Op.move (Operand.tmp 8)), none, ann0⟩,
  ⟨(some 69), (Op.buildSlice 63 1 #[(0, (Operand.tmp 68))]), none, ⟨1, true, false⟩⟩,
  ⟨(some 70), (Op.call { callee := (Callee.builtin Builtin.append), args := #[(Operand.tmp 67), (Operand.tmp 69)], argTypes := #[63, 63] }), none, ann0⟩,
  ⟨(some 71), (Op.move (Operand.tmp 5)), none, ann0⟩,
  ⟨(some 72), (Op.move (Operand.tmp 9)), none, ann0⟩,
  ⟨(some 73), (Op.slice 63 (Operand.tmp 71) (some (Operand.tmp 72)) none none), none, ann0⟩,
  ⟨(some 74), (Op.call { callee := (Callee.builtin Builtin.append), args := #[(Operand.tmp 70), (Operand.tmp 73)], argTypes := #[63, 63] }), none, ann0⟩,
  ⟨(some 5), (Op.assign (Operand.tmp 74)), none, ann0⟩] (some [0, 0, 0, 6, 15, 0, 32, 127, 0, 0, 768, 2047, 4095])) (.frz 5))
 .skip))
def c50_1 (z : Nat) : SC := .post (.seq (.post (.seq (.reg [⟨(some 15), (Op.move (Operand.tmp 7)), none, ann0⟩,
  ⟨(some 16), (Op.move (Operand.tmp 6)), none, ann0⟩,
  ⟨(some 17), (Op.call { callee := (Callee.builtin Builtin.len), args := #[(Operand.tmp 16)], argTypes := #[23] }), none, ann0⟩,
  ⟨(some 18), (Op.binOp BinOp.mul 3 (Operand.const (Value.int IntKind.i64 2)) (Operand.tmp 17) 3), none, ann0⟩,
  ⟨(some 19), (Op.binOp BinOp.lss 3 (Operand.tmp 15) (Operand.tmp 18) 3), none, ann0⟩] none)
 (.cond (Operand.tmp 19) .skip
 (.exit 0))) (.tidy [5, 6, 7] z (z + 1)))
 (.seq (.post (.block 1 (.seq (.post (.reg [⟨(some 22), (Op.move (Operand.tmp 6)), none, ann0⟩,
  ⟨(some 23), (Op.move (Operand.tmp 7)), none, ann0⟩,
  ⟨(some 24), (Op.binOp BinOp.quo 3 (Operand.tmp 23) (Operand.const (Value.int IntKind.i64 2)) 3), none, ann0⟩,
  ⟨(some 25), (Op.indexAddr 23 (Operand.tmp 22) (Operand.tmp 24)), none, ann0⟩,
  ⟨(some 26), (Op.fieldAddr 33 (Operand.tmp 25) 0), none, ann0⟩,
  ⟨(some 27), (Op.load 3 (Operand.tmp 26)), none, ann0⟩,
  ⟨(some 8), (Op.assign (Operand.tmp 27)), none, ann0⟩] none) (.tidy [5, 6, 7, 8] z (z + 1)))
 (.seq (.post (.seq (.reg [⟨(some 28), (Op.move (Operand.tmp 7)), none, ann0⟩,
  ⟨(some 29), (Op.binOp BinOp.rem 3 (Operand.tmp 28) (Operand.const (Value.int IntKind.i64 2)) 3), none, ann0⟩,
  ⟨(some 30), (Op.binOp BinOp.eql 3 (Operand.tmp 29) (Operand.const (Value.int IntKind.i64 1)) 3), none, ann0⟩] none)
 (.cond (Operand.tmp 30) (.reg [⟨(some 31), (Op.move (Operand.tmp 6)), none, ann0⟩,
  ⟨(some 32), (Op.move (Operand.tmp 7)), none, ann0⟩,
  ⟨(some 33), (Op.binOp BinOp.quo 3 (Operand.tmp 32) (Operand.const (Value.int IntKind.i64 2)) 3), none, ann0⟩,
  ⟨(some 34), (Op.indexAddr 23 (Operand.tmp 31) (Operand.tmp 33)), none, ann0⟩,
  ⟨(some 35), (Op.fieldAddr 33 (Operand.tmp 34) 1), none, ann0⟩,
  ⟨(some 36), (Op.load 3 (Operand.tmp 35)), none, ann0⟩,
  ⟨(some 8), (Op.assign (Operand.tmp 36)), none, ann0⟩] none)
 .skip)) (.tidy [5, 6, 7, 8] z (z + 1)))
 (.seq (.reg [⟨(some 9), (Op.assign (Operand.const (Value.int IntKind.i64 0))), none, ann0⟩] none)
 (.seq (.post (.block 2 (.pre (.tidy [5, 6, 7, 8, 9] z (z + 1)) (.loop (s50_2 z)))) (.tidy [5, 6, 7, 8, 9] z (z + 1)))
 (t50_51 z)))))) (.tidy [5, 6, 7] z (z + 3)))
 (.reg [⟨(some 20), (Op.move (Operand.tmp 7)), none, ann0⟩,
  ⟨(some 21), (Op.binOp BinOp.add 3 (Operand.tmp 20) (Operand.const (Value.int IntKind.i64 1)) 3), none, ann0⟩,
  ⟨(some 7), (Op.assign (Operand.tmp 21)), none, ann0⟩] none))) (.tidy [5, 6, 7] z (z + 1))
def s50_1 (z : Nat) : SC := c50_1 z
theorem e50_1 {C : Pg} {z : Nat} {st : St} {ks : List Fr} {K : Ex → St → Prop} : wpk C (s50_1 z) st ks K ↔ wpk C (c50_1 z) st ks K := Iff.rfl
def s50 (z : Nat) : SFn := ⟨2, 76, [(ResultVar.tmp 4)],
 (.post (.seq (.reg [⟨(some 4), (Op.assign (Operand.const (Value.slice none 0 0))), none, ann0⟩] none)
 (.seq (.reg [⟨(some 5), (Op.assign (Operand.const (Value.slice none 0 0))), none, ann0⟩] none)
 (.seq (.post (.reg [⟨(some 10), (Op.buildSlice 23 0 #[]), none, ⟨1, false, false⟩⟩,
  ⟨(some 11), (Op.move (Operand.tmp 0)), none, ann0⟩,
  ⟨(some 12), (Op.call { callee := (Callee.builtin Builtin.append), args := #[(Operand.tmp 10), (Operand.tmp 11)], argTypes := #[23, 23] }), none, ann0⟩,
  ⟨(some 13), (Op.move (Operand.tmp 1)), none, ann0⟩,
  ⟨(some 14), (Op.call { callee := (Callee.builtin Builtin.append), args := #[(Operand.tmp 12), (Operand.tmp 13)], argTypes := #[23, 23] }), none, ann0⟩,
  ⟨(some 6), (Op.assign (Operand.tmp 14)), none, ann0⟩] none) (.frz 6))
 (.seq (.post (.seq (.post (.reg [⟨(some 7), (Op.assign (Operand.const (Value.int IntKind.i64 0))), none, ann0⟩] none) (.tidy [5, 6, 7] z (z + 1)))
 (.post (.block 0 (.pre (.tidy [5, 6, 7] z (z + 1)) (.loop (s50_1 z)))) (.tidy [5] z (z + 1)))) (.tidy [5] z (z + 1)))
 (.seq (.reg [⟨(some 75), (Op.move (Operand.tmp 5)), none, ann0⟩,
  ⟨(some 4), (Op.assign (Operand.tmp 75)), none, ann0⟩] none)
 .ret))))) (.frz 4))⟩
theorem F50 (z : Nat) : FOk Try.prog 50 (s50 z) := by unfold FOk; kernel_rfl
def s51 (z : Nat) : SFn := ⟨2, 9, [(ResultVar.tmp 4)],
 (.seq (.reg [⟨(some 4), (Op.assign (Operand.const (Value.bool false))), none, ann0⟩] none)
 (.seq (.reg [⟨(some 5), (Op.move (Operand.tmp 0)), none, ann0⟩,
  ⟨(some 6), (Op.move (Operand.tmp 5)), none, ann0⟩,
  ⟨(some 7), (Op.move (Operand.tmp 1)), (some (6, true)), ann0⟩,
  ⟨(some 8), (Op.pick (Operand.tmp 6) (Operand.tmp 7) (Operand.const (Value.bool false))), none, ann0⟩,
  ⟨(some 4), (Op.assign (Operand.tmp 8)), none, ann0⟩] none)
 .ret))⟩
theorem F51 (z : Nat) : FOk Try.prog 51 (s51 z) := by unfold FOk; kernel_rfl
def s52 (z : Nat) : SFn := ⟨2, 10, [(ResultVar.tmp 4)],
 (.seq (.reg [⟨(some 4), (Op.assign (Operand.const (Value.bool false))), none, ann0⟩] none)
 (.seq (.reg [⟨(some 5), (Op.move (Operand.tmp 0)), none, ann0⟩,
  ⟨(some 6), (Op.move (Operand.tmp 5)), none, ann0⟩,
  ⟨(some 7), (Op.move (Operand.tmp 1)), (some (6, true)), ann0⟩,
  ⟨(some 8), (Op.unOp UnOp.not 4 (Operand.tmp 7)), (some (6, true)), ann0⟩,
  ⟨(some 9), (Op.pick (Operand.tmp 6) (Operand.tmp 8) (Operand.const (Value.bool false))), none, ann0⟩,
  ⟨(some 4), (Op.assign (Operand.tmp 9)), none, ann0⟩] none)
 .ret))⟩
theorem F52 (z : Nat) : FOk Try.prog 52 (s52 z) := by unfold FOk; kernel_rfl
def c53_1 (z : Nat) : SC := .post (.seq (.reg [⟨(some 10), (Op.binOp BinOp.lss 3 (Operand.tmp 9) (Operand.tmp 8) 3), none, ann0⟩] none)
 (.seq (.cond (Operand.tmp 10) .skip
 (.exit 0))
 (.seq (.post (.block 1 (.seq (.reg [⟨(some 11), (Op.indexAddr 23 (Operand.tmp 7) (Operand.tmp 9)), none, ann0⟩,
  ⟨(some 12), (Op.load 33 (Operand.tmp 11)), none, ann0⟩,
  ⟨(some 5), (Op.alloc 33), none, ⟨1, false, false⟩⟩,
  ⟨none, (Op.store 33 (Operand.tmp 5) (Operand.tmp 12)), none, ann0⟩] none)
 (.seq (.reg [⟨(some 13), (Op.move (Operand.tmp 3)), none, ann0⟩,
  ⟨(some 14), (Op.call { callee := (Callee.builtin Builtin.len), args := #[(Operand.tmp 13)], argTypes := #[23] }), none, ann0⟩,
  ⟨(some 6), (Op.assign (Operand.tmp 14)), none, ann0⟩] none)
 (.block 2 (.seq (.post (.reg [⟨(some 20), (Op.fieldAddr 33 (Operand.tmp 5) 0), none, ann0⟩,
  ⟨(some 21), (Op.load 3 (Operand.tmp 20)), none, ann0⟩,
  ⟨(some 22), (Op.fieldAddr 33 (Operand.tmp 5) 1), none, ann0⟩,
  ⟨(some 23), (Op.load 3 (Operand.tmp 22)), none, ann0⟩,
  ⟨(some 24), (Op.binOp BinOp.geq 3 (Operand.tmp 21) (Operand.tmp 23) 3), none, ann0⟩,
  ⟨(some 19), (Op.assign (Operand.tmp 24)), none, ann0⟩] none) (.tidy [3, 5, 6, 7, 8, 9, 19] z (z + 2)))
 (.cond (Operand.tmp 19) .skip
 (.seq (.post (.reg [⟨(some 26), (Op.move (Operand.tmp 6)), none, ann0⟩,
  ⟨(some 27), (Op.binOp BinOp.gtr 3 (Operand.tmp 26) (Operand.const (Value.int IntKind.i64 0)) 3), none, ann0⟩,
  ⟨(some 28), (Op.move (Operand.tmp 27)), none, ann0⟩,
  ⟨(some 29), (Op.fieldAddr 33 (Operand.tmp 5) 0), (some (28, true)), ann0⟩,
  ⟨(some 30), (Op.load 3 (Operand.tmp 29)), (some (28, true)), ann0⟩,
  ⟨(some 31), (Op.move (Operand.tmp 3)), (some (28, true)), ann0⟩,
  ⟨(some 32), (Op.move (Operand.tmp 6)), (some (28, true)), ann0⟩,
  ⟨(some 33), (Op.binOp BinOp.sub 3 (Operand.tmp 32) (Operand.const (Value.int IntKind.i64 1)) 3), (some (28, true)), ann0⟩,
  ⟨(some 34), (Op.indexAddr 23 (Operand.tmp 31) (Operand.tmp 33)), (some (28, true)), ann0⟩,
  ⟨(some 35), (Op.fieldAddr 33 (Operand.tmp 34) 1), (some (28, true)), ann0⟩,
  ⟨(some 36), (Op.load 3 (Operand.tmp 35)), (some (28, true)), ann0⟩,
  ⟨(some 37), (Op.binOp BinOp.leq 3 (Operand.tmp 30) (Operand.tmp 36) 3), (some (28, true)), ann0⟩,
  ⟨(some 38), (Op.pick (Operand.tmp 28) (Operand.tmp 37) (Operand.const (Value.bool false))), none, ann0⟩,
  ⟨(some 25), (Op.assign (Operand.tmp 38)), none, ann0⟩] (some [0, 1, 3, 7, 15, 7, 7, 71, 231, 487, 999, 2047, 4095, 8191])) (.tidy [3, 5, 6, 7, 8, 9, 25] z (z + 2)))
 (.cond (Operand.tmp 25) (.reg [⟨(some 39), (Op.move (Operand.tmp 3)), none, ann0⟩,
  ⟨(some 40), (Op.move (Operand.tmp 6)), none, ann0⟩,
  ⟨(some 41), (Op.binOp BinOp.sub 3 (Operand.tmp 40) (Operand.const (Value.int IntKind.i64 1)) 3), none, ann0⟩,
  ⟨(some 42), (Op.move (Operand.tmp 3)), none, ann0⟩,
  ⟨(some 43), (Op.move (Operand.tmp 6)), none, ann0⟩,
  ⟨(some 44), (Op.binOp BinOp.sub 3 (Operand.tmp 43) (Operand.const (Value.int IntKind.i64 1)) 3), none, ann0⟩,
  ⟨(some 45), (Op.indexAddr 23 (Operand.tmp 42) (Operand.tmp 44)), none, ann0⟩,
  ⟨(some 46), (Op.fieldAddr 33 (Operand.tmp 45) 1), none, ann0⟩,
  ⟨(some 47), (Op.load 3 (Operand.tmp 46)), none, ann0⟩,
  ⟨(some 48), (Op.fieldAddr 33 (Operand.tmp 5) 1), none, ann0⟩,
  ⟨(some 49), (Op.load 3 (Operand.tmp 48)), none, ann0⟩,
  ⟨(some 50), (Op.call { callee := (Callee.builtin Builtin.max), args := #[(Operand.tmp 47), (Operand.tmp 49)], argTypes := #[3, 3] }), none, ann0⟩,
  ⟨(some 51), (Op.indexAddr 23 (Operand.tmp 39) (Operand.tmp 41)), none, ann0⟩,
  ⟨(some 52), (Op.fieldAddr 33 (Operand.tmp 51) 1), none, ann0⟩,
  ⟨none, (Op.store 3 (Operand.tmp 52) (Operand.tmp 50)), none, ann0⟩] (some [0, 0, 2, 0, 0, 16, 56, 120, 248, 0, 512, 2040, 4095, 8191, 16383]))
 (.reg [⟨(some 15), (Op.move (Operand.tmp 3)), none, ann0⟩,
  ⟨(some 16), (Op.load 33 (Operand.tmp 5)), none, ann0⟩,
  ⟨(some 17), (Op.buildSlice 23 1 #[(0, (Operand.tmp 16))]), none, ⟨1, true, false⟩⟩,
  ⟨(some 18), (Op.call { callee := (Callee.builtin Builtin.append), args := #[(Operand.tmp 15), (Operand.tmp 17)], argTypes := #[23, 23] }), none, ann0⟩,
  ⟨(some 3), (Op.assign (Operand.tmp 18)), none, ann0⟩] none))))))))) (.tidy [3, 7, 8, 9] z (z + 3)))
 (.reg [⟨(some 53), (Op.binOp BinOp.add 3 (Operand.tmp 9) (Operand.const (Value.int IntKind.i64 1)) 3), none, ann0⟩,
  ⟨(some 9), (Op.move (Operand.tmp 53)), none, ann0⟩] none)))) (.tidy [3, 7, 8, 9] z (z + 1))
def s53_1 (z : Nat) : SC := c53_1 z
theorem e53_1 {C : Pg} {z : Nat} {st : St} {ks : List Fr} {K : Ex → St → Prop} : wpk C (s53_1 z) st ks K ↔ wpk C (c53_1 z) st ks K := Iff.rfl
def s53 (z : Nat) : SFn := ⟨1, 55, [(ResultVar.tmp 2)],
 (.post (.seq (.reg [⟨(some 2), (Op.assign (Operand.const (Value.slice none 0 0))), none, ann0⟩] none)
 (.seq (.post (.reg [⟨(some 3), (Op.assign (Operand.const (Value.slice none 0 0))), none, ann0⟩] none) (.mkv 3 33 2))
 (.seq (.post (.seq (.reg [⟨(some 7), (Op.move (Operand.tmp 0)), none, ann0⟩,
  ⟨(some 8), (Op.call { callee := (Callee.builtin Builtin.len), args := #[(Operand.tmp 7)], argTypes := #[23] }), none, ann0⟩,
  ⟨(some 9), (Op.move (Operand.const (Value.int IntKind.i64 0))), none, ann0⟩] none)
 (.post (.block 0 (.pre (.tidy [3, 7, 8, 9] z (z + 1)) (.loop (s53_1 z)))) (.tidy [3] z (z + 1)))) (.tidy [3] z (z + 1)))
 (.seq (.reg [⟨(some 54), (Op.move (Operand.tmp 3)), none, ann0⟩,
  ⟨(some 2), (Op.assign (Operand.tmp 54)), none, ann0⟩] none)
 .ret)))) (.frz 2))⟩
theorem F53 (z : Nat) : FOk Try.prog 53 (s53 z) := by unfold FOk; kernel_rfl
def s54 (z : Nat) : SFn := ⟨1, 17, [(ResultVar.tmp 2)],
 (.seq (.reg [⟨(some 1), (Op.box 33 (Operand.tmp 0)), none, ⟨1, false, false⟩⟩,
  ⟨(some 2), (Op.assign (Operand.const (Value.bool false))), none, ann0⟩] none)
 (.seq (.reg [⟨(some 3), (Op.fieldAddr 33 (Operand.tmp 1) 0), none, ann0⟩,
  ⟨(some 4), (Op.load 3 (Operand.tmp 3)), none, ann0⟩,
  ⟨(some 5), (Op.fieldAddr 33 (Operand.tmp 1) 1), none, ann0⟩,
  ⟨(some 6), (Op.load 3 (Operand.tmp 5)), none, ann0⟩,
  ⟨(some 7), (Op.call { callee := (Callee.builtin Builtin.min), args := #[(Operand.tmp 4), (Operand.tmp 6)], argTypes := #[3, 3] }), none, ann0⟩,
  ⟨(some 8), (Op.binOp BinOp.geq 3 (Operand.tmp 7) (Operand.const (Value.int IntKind.i64 (-1125899906842624))) 3), none, ann0⟩,
  ⟨(some 9), (Op.move (Operand.tmp 8)), none, ann0⟩,
  ⟨(some 10), (Op.fieldAddr 33 (Operand.tmp 1) 0), (some (9, true)), ann0⟩,
  ⟨(some 11), (Op.load 3 (Operand.tmp 10)), (some (9, true)), ann0⟩,
  ⟨(some 12), (Op.fieldAddr 33 (Operand.tmp 1) 1), (some (9, true)), ann0⟩,
  ⟨(some 13), (Op.load 3 (Operand.tmp 12)), (some (9, true)), ann0⟩,
  ⟨(some 14), (Op.call { callee := (Callee.builtin Builtin.max), args := #[(Operand.tmp 11), (Operand.tmp 13)], argTypes := #[3, 3] }), (some (9, true)), ann0⟩,
  ⟨(some 15), (Op.binOp BinOp.leq 3 (Operand.tmp 14) (Operand.const (Value.int IntKind.i64 1125899906842624)) 3), (some (9, true)), ann0⟩,
  ⟨(some 16), (Op.pick (Operand.tmp 9) (Operand.tmp 15) (Operand.const (Value.bool false))), none, ann0⟩,
  ⟨(some 2), (Op.assign (Operand.tmp 16)), none, ann0⟩] none)
 .ret))⟩
theorem F54 (z : Nat) : FOk Try.prog 54 (s54 z) := by unfold FOk; kernel_rfl
def s55 (z : Nat) : SFn := ⟨1, 9, [(ResultVar.tmp 2)],
 (.seq (.reg [⟨(some 2), (Op.assign (Operand.const (Value.bool false))), none, ann0⟩] none)
 (.seq (.reg [⟨(some 3), (Op.move (Operand.tmp 0)), none, ann0⟩,
  ⟨(some 4), (Op.binOp BinOp.geq 3 (Operand.tmp 3) (Operand.const (Value.int IntKind.i64 (-1125899906842624))) 3), none, ann0⟩,
  ⟨(some 5), (Op.move (Operand.tmp 4)), none, ann0⟩,
  ⟨(some 6), (Op.move (Operand.tmp 0)), (some (5, true)), ann0⟩,
  ⟨(some 7), (Op.binOp BinOp.leq 3 (Operand.tmp 6) (Operand.const (Value.int IntKind.i64 1125899906842624)) 3), (some (5, true)), ann0⟩,
  ⟨(some 8), (Op.pick (Operand.tmp 5) (Operand.tmp 7) (Operand.const (Value.bool false))), none, ann0⟩,
  ⟨(some 2), (Op.assign (Operand.tmp 8)), none, ann0⟩] none)
 .ret))⟩
theorem F55 (z : Nat) : FOk Try.prog 55 (s55 z) := by unfold FOk; kernel_rfl
def s56 (z : Nat) : SFn := ⟨2, 9, [(ResultVar.tmp 4)],
 (.seq (.reg [⟨(some 4), (Op.assign (Operand.const (Value.bool false))), none, ann0⟩] none)
 (.seq (.reg [⟨(some 5), (Op.move (Operand.tmp 0)), none, ann0⟩,
  ⟨(some 6), (Op.move (Operand.tmp 1)), none, ann0⟩,
  ⟨(some 7), (Op.call { callee := (Callee.value (Operand.func 70)), args := #[(Operand.tmp 5), (Operand.tmp 6)], argTypes := #[23, 65] }), none, ann0⟩,
  ⟨(some 8), (Op.binOp BinOp.geq 3 (Operand.tmp 7) (Operand.const (Value.int IntKind.i64 0)) 3), none, ann0⟩,
  ⟨(some 4), (Op.assign (Operand.tmp 8)), none, ann0⟩] none)
 .ret))⟩
theorem F56 (z : Nat) : FOk Try.prog 56 (s56 z) := by unfold FOk; kernel_rfl
def s57 (z : Nat) : SFn := ⟨1, 6, [(ResultVar.tmp 2)],
 (.seq (.reg [⟨(some 1), (Op.box 33 (Operand.tmp 0)), none, ⟨1, false, false⟩⟩,
  ⟨(some 2), (Op.assign (Operand.const (Value.bool false))), none, ann0⟩] none)
 (.seq (.reg [⟨(some 3), (Op.load 33 (Operand.tmp 1)), none, ann0⟩,
  ⟨(some 4), (Op.call { callee := (Callee.value (Operand.func 54)), args := #[(Operand.tmp 3)], argTypes := #[33] }), none, ann0⟩,
  ⟨(some 5), (Op.unOp UnOp.not 4 (Operand.tmp 4)), none, ann0⟩,
  ⟨(some 2), (Op.assign (Operand.tmp 5)), none, ann0⟩] none)
 .ret))⟩
theorem F57 (z : Nat) : FOk Try.prog 57 (s57 z) := by unfold FOk; kernel_rfl
def s58 (z : Nat) : SFn := ⟨2, 12, [(ResultVar.tmp 4)],
 (.post (.seq (.reg [⟨(some 4), (Op.assign (Operand.const (Value.slice none 0 0))), none, ann0⟩] none)
 (.seq (.reg [⟨(some 6), (Op.move (Operand.tmp 0)), none, ann0⟩,
  ⟨(some 7), (Op.call { callee := (Callee.value (Operand.func 71)), args := #[(Operand.tmp 6)], argTypes := #[69] }), none, ⟨1, false, false⟩⟩,
  ⟨(some 5), (Op.assign (Operand.tmp 7)), none, ann0⟩] none)
 (.seq (.post (.reg [⟨(some 8), (Op.move (Operand.tmp 5)), none, ann0⟩,
  ⟨(some 9), (Op.move (Operand.tmp 1)), none, ann0⟩,
  ⟨(some 10), (Op.call { callee := (Callee.value (Operand.func 72)), args := #[(Operand.tmp 8), (Operand.tmp 9)], argTypes := #[23, 72] }), none, ann0⟩] none) (.tidy [5] z (z + 1)))
 (.seq (.reg [⟨(some 11), (Op.move (Operand.tmp 5)), none, ann0⟩,
  ⟨(some 4), (Op.assign (Operand.tmp 11)), none, ann0⟩] none)
 .ret)))) (.frz 4))⟩
theorem F58 (z : Nat) : FOk Try.prog 58 (s58 z) := by unfold FOk; kernel_rfl
def s59 (z : Nat) : SFn := ⟨1, 4, [(ResultVar.tmp 2)],
 (.seq (.reg [⟨(some 1), (Op.box 23 (Operand.tmp 0)), none, ⟨1, false, false⟩⟩,
  ⟨(some 2), (Op.assign (Operand.const Value.nilFunc)), none, ann0⟩] none)
 (.seq (.reg [⟨(some 3), (Op.makeFunc (Fn.func 73) #[] #[(Operand.tmp 1)]), none, ann0⟩,
  ⟨(some 2), (Op.assign (Operand.tmp 3)), none, ann0⟩] none)
 .ret))⟩
theorem F59 (z : Nat) : FOk Try.prog 59 (s59 z) := by unfold FOk; kernel_rfl
def s60 (z : Nat) : SFn := ⟨2, 10, [(ResultVar.tmp 4)],
 (.seq (.reg [⟨(some 2), (Op.box 33 (Operand.tmp 0)), none, ⟨1, false, false⟩⟩,
  ⟨(some 3), (Op.box 33 (Operand.tmp 1)), none, ⟨1, false, false⟩⟩,
  ⟨(some 4), (Op.assign (Operand.const (Value.int IntKind.i64 0))), none, ann0⟩] none)
 (.seq (.reg [⟨(some 5), (Op.fieldAddr 33 (Operand.tmp 2) 0), none, ann0⟩,
  ⟨(some 6), (Op.load 3 (Operand.tmp 5)), none, ann0⟩,
  ⟨(some 7), (Op.fieldAddr 33 (Operand.tmp 3) 0), none, ann0⟩,
  ⟨(some 8), (Op.load 3 (Operand.tmp 7)), none, ann0⟩,
  ⟨(some 9), (Op.call { callee := (Callee.value (Operand.func 61)), args := #[(Operand.tmp 6), (Operand.tmp 8)], argTypes := #[3, 3] }), none, ann0⟩,
  ⟨(some 4), (Op.assign (Operand.tmp 9)), none, ann0⟩] none)
 .ret))⟩
theorem F60 (z : Nat) : FOk Try.prog 60 (s60 z) := by unfold FOk; kernel_rfl
def s61 (z : Nat) : SFn := ⟨2, 20, [(ResultVar.tmp 4)],
 (.seq (.reg [⟨(some 4), (Op.assign (Operand.const (Value.int IntKind.i64 0))), none, ann0⟩] none)
 (.seq (.reg [⟨(some 7), (Op.move (Operand.tmp 0)), none, ann0⟩,
  ⟨(some 8), (Op.call { callee := (Callee.value (Operand.func 74)), args := #[(Operand.tmp 7)], argTypes := #[3] }), none, ann0⟩,
  ⟨(some 5), (Op.assign (Operand.tmp 8)), none, ann0⟩] none)
 (.seq (.reg [⟨(some 9), (Op.move (Operand.tmp 1)), none, ann0⟩,
  ⟨(some 10), (Op.call { callee := (Callee.value (Operand.func 74)), args := #[(Operand.tmp 9)], argTypes := #[3] }), none, ann0⟩,
  ⟨(some 6), (Op.assign (Operand.tmp 10)), none, ann0⟩] none)
 (.seq (.seq (.reg [⟨(some 11), (Op.move (Operand.tmp 5)), none, ann0⟩] none)
 (.cond (Operand.tmp 11) (.seq (.post (.seq (.reg [⟨(some 12), (Op.move (Operand.tmp 6)), none, ann0⟩] none)
 (.cond (Operand.tmp 12) (.seq (.reg [⟨(some 4), (Op.assign (Operand.const (Value.int IntKind.i64 0))), none, ann0⟩] none)
 .ret)
 .skip)) (.tidy [] z (z + 0)))
 (.seq (.reg [⟨(some 4), (Op.assign (Operand.const (Value.int IntKind.i64 (-1)))), none, ann0⟩] none)
 .ret))
 .skip))
 (.seq (.seq (.reg [⟨(some 13), (Op.move (Operand.tmp 6)), none, ann0⟩] none)
 (.cond (Operand.tmp 13) (.seq (.reg [⟨(some 4), (Op.assign (Operand.const (Value.int IntKind.i64 1))), none, ann0⟩] none)
 .ret)
 .skip))
 (.seq (.seq (.post (.reg [⟨(some 14), (Op.move (Operand.tmp 0)), none, ann0⟩,
  ⟨(some 15), (Op.move (Operand.tmp 1)), none, ann0⟩,
  ⟨(some 16), (Op.binOp BinOp.lss 3 (Operand.tmp 14) (Operand.tmp 15) 3), none, ann0⟩] none) (.tidy [0, 1, 16] z (z + 0)))
 (.cond (Operand.tmp 16) (.seq (.reg [⟨(some 4), (Op.assign (Operand.const (Value.int IntKind.i64 (-1)))), none, ann0⟩] none)
 .ret)
 .skip))
 (.seq (.seq (.post (.reg [⟨(some 17), (Op.move (Operand.tmp 0)), none, ann0⟩,
  ⟨(some 18), (Op.move (Operand.tmp 1)), none, ann0⟩,
  ⟨(some 19), (Op.binOp BinOp.gtr 3 (Operand.tmp 17) (Operand.tmp 18) 3), none, ann0⟩] none) (.tidy [19] z (z + 0)))
 (.cond (Operand.tmp 19) (.seq (.reg [⟨(some 4), (Op.assign (Operand.const (Value.int IntKind.i64 1))), none, ann0⟩] none)
 .ret)
 .skip))
 (.seq (.reg [⟨(some 4), (Op.assign (Operand.const (Value.int IntKind.i64 0))), none, ann0⟩] none)
 .ret))))))))⟩
theorem F61 (z : Nat) : FOk Try.prog 61 (s61 z) := by unfold FOk; kernel_rfl
def s62 (z : Nat) : SFn := ⟨2, 16, [(ResultVar.tmp 4)],
 (.seq (.reg [⟨(some 4), (Op.assign (Operand.const (Value.int IntKind.i64 0))), none, ann0⟩] none)
 (.seq (.reg [⟨(some 6), (Op.move (Operand.tmp 0)), none, ann0⟩,
  ⟨(some 7), (Op.move (Operand.tmp 1)), none, ann0⟩,
  ⟨(some 8), (Op.binOp BinOp.quo 3 (Operand.tmp 6) (Operand.tmp 7) 3), none, ann0⟩,
  ⟨(some 5), (Op.assign (Operand.tmp 8)), none, ann0⟩] none)
 (.seq (.post (.seq (.post (.reg [⟨(some 9), (Op.move (Operand.tmp 0)), none, ann0⟩,
  ⟨(some 10), (Op.move (Operand.tmp 1)), none, ann0⟩,
  ⟨(some 11), (Op.binOp BinOp.rem 3 (Operand.tmp 9) (Operand.tmp 10) 3), none, ann0⟩,
  ⟨(some 12), (Op.binOp BinOp.lss 3 (Operand.tmp 11) (Operand.const (Value.int IntKind.i64 0)) 3), none, ann0⟩] none) (.tidy [5, 12] z (z + 0)))
 (.cond (Operand.tmp 12) (.reg [⟨(some 13), (Op.move (Operand.tmp 5)), none, ann0⟩,
  ⟨(some 14), (Op.binOp BinOp.sub 3 (Operand.tmp 13) (Operand.const (Value.int IntKind.i64 1)) 3), none, ann0⟩,
  ⟨(some 5), (Op.assign (Operand.tmp 14)), none, ann0⟩] none)
 .skip)) (.tidy [5] z (z + 0)))
 (.seq (.reg [⟨(some 15), (Op.move (Operand.tmp 5)), none, ann0⟩,
  ⟨(some 4), (Op.assign (Operand.tmp 15)), none, ann0⟩] none)
 .ret))))⟩
theorem F62 (z : Nat) : FOk Try.prog 62 (s62 z) := by unfold FOk; kernel_rfl
def s63 (z : Nat) : SFn := ⟨2, 16, [(ResultVar.tmp 4)],
 (.seq (.reg [⟨(some 4), (Op.assign (Operand.const (Value.int IntKind.i64 0))), none, ann0⟩] none)
 (.seq (.reg [⟨(some 6), (Op.move (Operand.tmp 0)), none, ann0⟩,
  ⟨(some 7), (Op.move (Operand.tmp 1)), none, ann0⟩,
  ⟨(some 8), (Op.binOp BinOp.quo 3 (Operand.tmp 6) (Operand.tmp 7) 3), none, ann0⟩,
  ⟨(some 5), (Op.assign (Operand.tmp 8)), none, ann0⟩] none)
 (.seq (.post (.seq (.post (.reg [⟨(some 9), (Op.move (Operand.tmp 0)), none, ann0⟩,
  ⟨(some 10), (Op.move (Operand.tmp 1)), none, ann0⟩,
  ⟨(some 11), (Op.binOp BinOp.rem 3 (Operand.tmp 9) (Operand.tmp 10) 3), none, ann0⟩,
  ⟨(some 12), (Op.binOp BinOp.lss 3 (Operand.tmp 11) (Operand.const (Value.int IntKind.i64 0)) 3), none, ann0⟩] none) (.tidy [5, 12] z (z + 0)))
 (.cond (Operand.tmp 12) (.reg [⟨(some 13), (Op.move (Operand.tmp 5)), none, ann0⟩,
  ⟨(some 14), (Op.binOp BinOp.sub 3 (Operand.tmp 13) (Operand.const (Value.int IntKind.i64 1)) 3), none, ann0⟩,
  ⟨(some 5), (Op.assign (Operand.tmp 14)), none, ann0⟩] none)
 .skip)) (.tidy [5] z (z + 0)))
 (.seq (.reg [⟨(some 15), (Op.move (Operand.tmp 5)), none, ann0⟩,
  ⟨(some 4), (Op.assign (Operand.tmp 15)), none, ann0⟩] none)
 .ret))))⟩
theorem F63 (z : Nat) : FOk Try.prog 63 (s63 z) := by unfold FOk; kernel_rfl
def c64_1 (z : Nat) : SC := .post (.seq (.reg [⟨(some 14), (Op.binOp BinOp.lss 3 (Operand.tmp 13) (Operand.tmp 12) 3), none, ann0⟩] none)
 (.seq (.cond (Operand.tmp 14) .skip
 (.exit 0))
 (.seq (.post (.block 1 (.seq (.reg [⟨(some 15), (Op.indexAddr 23 (Operand.tmp 11) (Operand.tmp 13)), none, ann0⟩,
  ⟨(some 16), (Op.load 33 (Operand.tmp 15)), none, ann0⟩,
  ⟨(some 10), (Op.alloc 33), none, ⟨1, false, false⟩⟩,
  ⟨none, (Op.store 33 (Operand.tmp 10) (Operand.tmp 16)), none, ann0⟩] none)
 (.reg [⟨(some 17), (Op.move (Operand.tmp 8)), none, ann0⟩,
  ⟨(some 18), (Op.fieldAddr 33 (Operand.tmp 10) 0), none, ann0⟩,
  ⟨(some 19), (Op.load 3 (Operand.tmp 18)), none, ann0⟩,
  ⟨(some 20), (Op.move (Operand.tmp 1)), none, ann0⟩,
  ⟨(some 21), (Op.binOp BinOp.add 3 (Operand.tmp 19) (Operand.tmp 20) 3), none, ann0⟩,
  ⟨(some 22), (Op.fieldAddr 33 (Operand.tmp 10) 1), none, ann0⟩,
  ⟨(some 23), (Op.load 3 (Operand.tmp 22)), none, ann0⟩,
  ⟨(some 24), (Op.move (Operand.tmp 2)), none, ann0⟩,
  ⟨(some 25), (Op.binOp BinOp.add 3 (Operand.tmp 23) (Operand.tmp 24) 3), none, ann0⟩,
  ⟨(some 26), (Op.build 33 #[(0, (Operand.tmp 21)), (1, (Operand.tmp 25))]), none, ann0⟩,
  ⟨(some 27), (Op.buildSlice 23 1 #[(0, (Operand.tmp 26))]), none, ⟨1, true, false⟩⟩,
  ⟨(some 28), (Op.call { callee := (Callee.builtin Builtin.append), args := #[(Operand.tmp 17), (Operand.tmp 27)], argTypes := #[23, 23] }), none, ann0⟩,
  ⟨(some 8), (Op.assign (Operand.tmp 28)), none, ann0⟩] none))) (.tidy [1, 2, 8, 11, 12, 13] z (z + 3)))
 (.reg [⟨(some 29), (Op.binOp BinOp.add 3 (Operand.tmp 13) (Operand.const (Value.int IntKind.i64 1)) 3), none, ann0⟩,
  ⟨(some 13), (Op.move (Operand.tmp 29)), none, ann0⟩] none)))) (.tidy [1, 2, 8, 11, 12, 13] z (z + 1))
def s64_1 (z : Nat) : SC := c64_1 z
theorem e64_1 {C : Pg} {z : Nat} {st : St} {ks : List Fr} {K : Ex → St → Prop} : wpk C (s64_1 z) st ks K ↔ wpk C (c64_1 z) st ks K := Iff.rfl
def s64 (z : Nat) : SFn := ⟨3, 35, [(ResultVar.tmp 6), (ResultVar.tmp 7)],
 (.post (.seq (.reg [⟨(some 6), (Op.assign (Operand.const (Value.slice none 0 0))), none, ann0⟩,
  ⟨(some 7), (Op.assign (Operand.const (Value.int IntKind.i64 0))), none, ann0⟩] none)
 (.seq (.post (.reg [⟨(some 8), (Op.assign (Operand.const (Value.slice none 0 0))), none, ann0⟩] none) (.mkv 8 33 2))
 (.seq (.post (.seq (.reg [⟨(some 11), (Op.move (Operand.tmp 0)), none, ann0⟩,
  ⟨(some 12), (Op.call { callee := (Callee.builtin Builtin.len), args := #[(Operand.tmp 11)], argTypes := #[23] }), none, ann0⟩,
  ⟨(some 13), (Op.move (Operand.const (Value.int IntKind.i64 0))), none, ann0⟩] none)
 (.post (.post (.block 0 (.pre (.tidy [1, 2, 8, 11, 12, 13] z (z + 1)) (.loop (s64_1 z)))) (.tidy [8] z (z + 1))) (.frz 8))) (.tidy [8] z (z + 1)))
 (.seq (.reg [⟨(some 30), (Op.move (Operand.tmp 8)), none, ann0⟩,
  ⟨(some 31), (Op.call { callee := (Callee.value (Operand.func 53)), args := #[(Operand.tmp 30)], argTypes := #[23] }), none, ann0⟩,
  ⟨(some 8), (Op.assign (Operand.tmp 31)), none, ann0⟩] none)
 (.seq (.post (.seq (.reg [⟨(some 32), (Op.move (Operand.tmp 8)), none, ann0⟩,
  ⟨(some 33), (Op.call { callee := (Callee.value (Operand.func 56)), args := #[(Operand.tmp 32), (Operand.func 75)], argTypes := #[23, 65] }), none, ann0⟩] none)
 (.cond (Operand.tmp 33) (.seq (.reg [⟨(some 6), (Op.assign (Operand.const (Value.slice none 0 0))), none, ann0⟩,
  ⟨(some 7), (Op.assign (Operand.const (Value.int IntKind.i64 2))), none, ann0⟩] none)
 .ret)
 .skip)) (.tidy [8] z (z + 1)))
 (.seq (.reg [⟨(some 34), (Op.move (Operand.tmp 8)), none, ann0⟩,
  ⟨(some 6), (Op.assign (Operand.tmp 34)), none, ann0⟩,
  ⟨(some 7), (Op.assign (Operand.const (Value.int IntKind.i64 0))), none, ann0⟩] none)
 .ret)))))) (.frz 6))⟩
theorem F64 (z : Nat) : FOk Try.prog 64 (s64 z) := by unfold FOk; kernel_rfl
def s65 (z : Nat) : SFn := ⟨2, 9, [(ResultVar.tmp 4)],
 (.seq (.reg [⟨(some 2), (Op.box 23 (Operand.tmp 0)), none, ⟨1, false, false⟩⟩,
  ⟨(some 3), (Op.box 3 (Operand.tmp 1)), none, ⟨1, false, false⟩⟩,
  ⟨(some 4), (Op.assign (Operand.const (Value.int IntKind.i64 0))), none, ann0⟩] none)
 (.seq (.reg [⟨(some 5), (Op.load 23 (Operand.tmp 2)), none, ann0⟩,
  ⟨(some 6), (Op.call { callee := (Callee.builtin Builtin.len), args := #[(Operand.tmp 5)], argTypes := #[23] }), none, ann0⟩,
  ⟨(some 7), (Op.makeFunc (Fn.func 76) #[] #[(Operand.tmp 2), (Operand.tmp 3)]), none, ann0⟩,
  ⟨(some 8), (Op.call { callee := (Callee.value (Operand.func 66)), args := #[(Operand.tmp 6), (Operand.tmp 7)], argTypes := #[3, 50] }), none, ann0⟩,
  ⟨(some 4), (Op.assign (Operand.tmp 8)), none, ann0⟩] none)
 .ret))⟩
theorem F65 (z : Nat) : FOk Try.prog 65 (s65 z) := by unfold FOk; kernel_rfl
def c66_1 (z : Nat) : SC := .post (.seq (.post (.seq (.reg [⟨(some 9), (Op.move (Operand.tmp 5)), none, ann0⟩,
  ⟨(some 10), (Op.move (Operand.tmp 6)), none, ann0⟩,
  ⟨(some 11), (Op.binOp BinOp.lss 3 (Operand.tmp 9) (Operand.tmp 10) 3), none, ann0⟩] none)
 (.cond (Operand.tmp 11) .skip
 (.exit 0))) (.tidy [1, 5, 6] z (z + 0)))
 (.block 1 (.seq (.post (.reg [⟨(some 12), (Op.move (Operand.tmp 5)), none, ann0⟩,
  ⟨(some 13), (Op.move (Operand.tmp 6)), none, ann0⟩,
  ⟨(some 14), (Op.binOp BinOp.add 3 (Operand.tmp 12) (Operand.tmp 13) 3), none, ann0⟩,
  ⟨(some 15), (Op.convert 3 45 (Operand.tmp 14)), none, ann0⟩,
  ⟨(some 16), (Op.binOp BinOp.shr 45 (Operand.tmp 15) (Operand.const (Value.int IntKind.u64 1)) 45), none, ann0⟩,
  ⟨(some 17), (Op.convert 45 3 (Operand.tmp 16)), none, ann0⟩,
  ⟨(some 7), (Op.assign (Operand.tmp 17)), none, ann0⟩] none) (.tidy [1, 5, 6, 7] z (z + 0)))
 (.seq (.reg [⟨(some 18), (Op.move (Operand.tmp 1)), none, ann0⟩,
  ⟨(some 19), (Op.move (Operand.tmp 7)), none, ann0⟩,
  ⟨(some 20), (Op.call { callee := (Callee.value (Operand.tmp 18)), args := #[(Operand.tmp 19)], argTypes := #[3] }), none, ann0⟩,
  ⟨(some 21), (Op.unOp UnOp.not 4 (Operand.tmp 20)), none, ann0⟩] none)
 (.cond (Operand.tmp 21) (.reg [⟨(some 22), (Op.move (Operand.tmp 7)), none, ann0⟩,
  ⟨(some 23), (Op.binOp BinOp.add 3 (Operand.tmp 22) (Operand.const (Value.int IntKind.i64 1)) 3), none, ann0⟩,
  ⟨(some 5), (Op.assign (Operand.tmp 23)), none, ann0⟩] none)
 (.reg [⟨(some 24), (Op.move (Operand.tmp 7)), none, ann0⟩,
  ⟨(some 6), (Op.assign (Operand.tmp 24)), none, ann0⟩] none)))))) (.tidy [1, 5, 6] z (z + 0))
def s66_1 (z : Nat) : SC := c66_1 z
theorem e66_1 {C : Pg} {z : Nat} {st : St} {ks : List Fr} {K : Ex → St → Prop} : wpk C (s66_1 z) st ks K ↔ wpk C (c66_1 z) st ks K := Iff.rfl
def s66 (z : Nat) : SFn := ⟨2, 26, [(ResultVar.tmp 4)],
 (.seq (.reg [⟨(some 4), (Op.assign (Operand.const (Value.int IntKind.i64 0))), none, ann0⟩] none)
 (.seq (.reg [⟨(some 8), (Op.move (Operand.tmp 0)), none, ann0⟩,
  ⟨(some 5), (Op.assign (Operand.const (Value.int IntKind.i64 0))), none, ann0⟩,
  ⟨(some 6), (Op.assign (Operand.tmp 8)), none, ann0⟩] none)
 (.seq (.post (.block 0 (.pre (.tidy [1, 5, 6] z (z + 0)) (.loop (s66_1 z)))) (.tidy [5] z (z + 0)))
 (.seq (.reg [⟨(some 25), (Op.move (Operand.tmp 5)), none, ann0⟩,
  ⟨(some 4), (Op.assign (Operand.tmp 25)), none, ann0⟩] none)
 .ret))))⟩
theorem F66 (z : Nat) : FOk Try.prog 66 (s66 z) := by unfold FOk; kernel_rfl
def s67 (z : Nat) : SFn := ⟨3, 12, [(ResultVar.tmp 4)],
 (.seq (.reg [⟨(some 4), (Op.assign (Operand.const (Value.bool false))), none, ann0⟩] none)
 (.seq (.reg [⟨(some 5), (Op.load 23 (Operand.tmp 1)), none, ann0⟩,
  ⟨(some 6), (Op.move (Operand.tmp 0)), none, ann0⟩,
  ⟨(some 7), (Op.indexAddr 23 (Operand.tmp 5) (Operand.tmp 6)), none, ann0⟩,
  ⟨(some 8), (Op.fieldAddr 33 (Operand.tmp 7) 0), none, ann0⟩,
  ⟨(some 9), (Op.load 3 (Operand.tmp 8)), none, ann0⟩,
  ⟨(some 10), (Op.load 3 (Operand.tmp 2)), none, ann0⟩,
  ⟨(some 11), (Op.binOp BinOp.gtr 3 (Operand.tmp 9) (Operand.tmp 10) 3), none, ann0⟩,
  ⟨(some 4), (Op.assign (Operand.tmp 11)), none, ann0⟩] (some [0, 0, 3, 7, 15, 0, 63, 127]))
 .ret))⟩
theorem F67 (z : Nat) : FOk Try.prog 67 (s67 z) := by unfold FOk; kernel_rfl
def c68_1 (z : Nat) : SC := .post (.seq (.reg [⟨(some 14), (Op.binOp BinOp.lss 3 (Operand.tmp 13) (Operand.tmp 12) 3), none, ann0⟩] none)
 (.seq (.cond (Operand.tmp 14) .skip
 (.exit 0))
 (.seq (.post (.block 1 (.seq (.reg [⟨(some 15), (Op.move (Operand.tmp 13)), none, ann0⟩,
  ⟨(some 5), (Op.assign (Operand.tmp 15)), none, ann0⟩] none)
 (.seq (.post (.reg [⟨(some 16), (Op.move (Operand.tmp 0)), none, ann0⟩,
  ⟨(some 17), (Op.move (Operand.tmp 5)), none, ann0⟩,
  ⟨(some 18), (Op.indexAddr 23 (Operand.tmp 16) (Operand.tmp 17)), none, ann0⟩,
  ⟨(some 19), (Op.load 33 (Operand.tmp 18)), none, ann0⟩,
  ⟨(some 20), (Op.move (Operand.tmp 1)), none, ann0⟩,
  ⟨(some 21), (Op.move (Operand.tmp 5)), none, ann0⟩,
  ⟨(some 22), (Op.indexAddr 23 (Operand.tmp 20) (Operand.tmp 21)), none, ann0⟩,
  ⟨(some 23), (Op.load 33 (Operand.tmp 22)), none, ann0⟩,
  ⟨(some 24), (Op.binOp BinOp.neq 33 (Operand.tmp 19) (Operand.tmp 23) 33), none, ann0⟩] (some [0, 0, 3, 7, 0, 0, 48, 112, 255])) (.tidy [0, 1, 12, 13, 24] z (z + 0)))
 (.cond (Operand.tmp 24) (.seq (.reg [⟨(some 4), (Op.assign (Operand.const (Value.bool false))), none, ann0⟩] none)
 .ret)
 .skip)))) (.tidy [0, 1, 12, 13] z (z + 0)))
 (.reg [⟨(some 25), (Op.binOp BinOp.add 3 (Operand.tmp 13) (Operand.const (Value.int IntKind.i64 1)) 3), none, ann0⟩,
  ⟨(some 13), (Op.move (Operand.tmp 25)), none, ann0⟩] none)))) (.tidy [0, 1, 12, 13] z (z + 0))
def s68_1 (z : Nat) : SC := c68_1 z
theorem e68_1 {C : Pg} {z : Nat} {st : St} {ks : List Fr} {K : Ex → St → Prop} : wpk C (s68_1 z) st ks K ↔ wpk C (c68_1 z) st ks K := Iff.rfl
def s68 (z : Nat) : SFn := ⟨2, 26, [(ResultVar.tmp 4)],
 (.seq (.reg [⟨(some 4), (Op.assign (Operand.const (Value.bool false))), none, ann0⟩] none)
 (.seq (.post (.seq (.reg [⟨(some 6), (Op.move (Operand.tmp 0)), none, ann0⟩,
  ⟨(some 7), (Op.call { callee := (Callee.builtin Builtin.len), args := #[(Operand.tmp 6)], argTypes := #[23] }), none, ann0⟩,
  ⟨(some 8), (Op.move (Operand.tmp 1)), none, ann0⟩,
  ⟨(some 9), (Op.call { callee := (Callee.builtin Builtin.len), args := #[(Operand.tmp 8)], argTypes := #[23] }), none, ann0⟩,
  ⟨(some 10), (Op.binOp BinOp.neq 3 (Operand.tmp 7) (Operand.tmp 9) 3), none, ann0⟩] none)
 (.cond (Operand.tmp 10) (.seq (.reg [⟨(some 4), (Op.assign (Operand.const (Value.bool false))), none, ann0⟩] none)
 .ret)
 .skip)) (.tidy [0, 1] z (z + 0)))
 (.seq (.post (.seq (.reg [⟨(some 11), (Op.move (Operand.tmp 0)), none, ann0⟩,
  ⟨(some 12), (Op.call { callee := (Callee.builtin Builtin.len), args := #[(Operand.tmp 11)], argTypes := #[23] }), none, ann0⟩,
  ⟨(some 13), (Op.move (Operand.const (Value.int IntKind.i64 0))), none, ann0⟩] none)
 (.post (.block 0 (.pre (.tidy [0, 1, 12, 13] z (z + 0)) (.loop (s68_1 z)))) (.tidy [] z (z + 0)))) (.tidy [] z (z + 0)))
 (.seq (.reg [⟨(some 4), (Op.assign (Operand.const (Value.bool true))), none, ann0⟩] none)
 .ret))))⟩
theorem F68 (z : Nat) : FOk Try.prog 68 (s68 z) := by unfold FOk; kernel_rfl
def s69 (z : Nat) : SFn := ⟨2, 6, [(ResultVar.tmp 4)],
 (.seq (.reg [⟨(some 2), (Op.box 23 (Operand.tmp 0)), none, ⟨1, false, false⟩⟩,
  ⟨(some 3), (Op.box 23 (Operand.tmp 1)), none, ⟨1, false, false⟩⟩,
  ⟨(some 4), (Op.assign (Operand.const Value.nilFunc)), none, ann0⟩] none)
 (.seq (.reg [⟨(some 5), (Op.makeFunc (Fn.func 77) #[] #[(Operand.tmp 2), (Operand.tmp 3)]), none, ann0⟩,
  ⟨(some 4), (Op.assign (Operand.tmp 5)), none, ann0⟩] none)
 .ret))⟩
theorem F69 (z : Nat) : FOk Try.prog 69 (s69 z) := by unfold FOk; kernel_rfl
def c70_1 (z : Nat) : SC := .post (.seq (.reg [⟨(some 9), (Op.binOp BinOp.lss 3 (Operand.tmp 8) (Operand.tmp 7) 3), none, ann0⟩] none)
 (.seq (.cond (Operand.tmp 9) .skip
 (.exit 0))
 (.seq (.post (.block 1 (.seq (.reg [⟨(some 10), (Op.move (Operand.tmp 8)), none, ann0⟩,
  ⟨(some 5), (Op.assign (Operand.tmp 10)), none, ann0⟩] none)
 (.seq (.post (.reg [⟨(some 11), (Op.move (Operand.tmp 1)), none, ann0⟩,
  ⟨(some 12), (Op.move (Operand.tmp 0)), none, ann0⟩,
  ⟨(some 13), (Op.move (Operand.tmp 5)), none, ann0⟩,
  ⟨(some 14), (Op.indexAddr 23 (Operand.tmp 12) (Operand.tmp 13)), none, ann0⟩,
  ⟨(some 15), (Op.load 33 (Operand.tmp 14)), none, ann0⟩,
  ⟨(some 16), (Op.call { callee := (Callee.value (Operand.tmp 11)), args := #[(Operand.tmp 15)], argTypes := #[33] }), none, ann0⟩] none) (.tidy [0, 1, 5, 7, 8, 16] z (z + 0)))
 (.cond (Operand.tmp 16) (.seq (.reg [⟨(some 17), (Op.move (Operand.tmp 5)), none, ann0⟩,
  ⟨(some 4), (Op.assign (Operand.tmp 17)), none, ann0⟩] none)
 .ret)
 .skip)))) (.tidy [0, 1, 7, 8] z (z + 0)))
 (.reg [⟨(some 18), (Op.binOp BinOp.add 3 (Operand.tmp 8) (Operand.const (Value.int IntKind.i64 1)) 3), none, ann0⟩,
  ⟨(some 8), (Op.move (Operand.tmp 18)), none, ann0⟩] none)))) (.tidy [0, 1, 7, 8] z (z + 0))
def s70_1 (z : Nat) : SC := c70_1 z
theorem e70_1 {C : Pg} {z : Nat} {st : St} {ks : List Fr} {K : Ex → St → Prop} : wpk C (s70_1 z) st ks K ↔ wpk C (c70_1 z) st ks K := Iff.rfl
def s70 (z : Nat) : SFn := ⟨2, 19, [(ResultVar.tmp 4)],
 (.seq (.reg [⟨(some 4), (Op.assign (Operand.const (Value.int IntKind.i64 0))), none, ann0⟩] none)
 (.seq (.post (.seq (.reg [⟨(some 6), (Op.move (Operand.tmp 0)), none, ann0⟩,
  ⟨(some 7), (Op.call { callee := (Callee.builtin Builtin.len), args := #[(Operand.tmp 6)], argTypes := #[23] }), none, ann0⟩,
  ⟨(some 8), (Op.move (Operand.const (Value.int IntKind.i64 0))), none, ann0⟩] none)
 (.post (.block 0 (.pre (.tidy [0, 1, 7, 8] z (z + 0)) (.loop (s70_1 z)))) (.tidy [] z (z + 0)))) (.tidy [] z (z + 0)))
 (.seq (.reg [⟨(some 4), (Op.assign (Operand.const (Value.int IntKind.i64 (-1)))), none, ann0⟩] none)
 .ret)))⟩
theorem F70 (z : Nat) : FOk Try.prog 70 (s70 z) := by unfold FOk; kernel_rfl
def s71 (z : Nat) : SFn := ⟨1, 5, [(ResultVar.tmp 2)],
 (.seq (.reg [⟨(some 2), (Op.assign (Operand.const (Value.slice none 0 0))), none, ann0⟩] none)
 (.seq (.reg [⟨(some 3), (Op.move (Operand.tmp 0)), none, ann0⟩,
  ⟨(some 4), (Op.call { callee := (Callee.value (Operand.func 79)), args := #[(Operand.const (Value.slice none 0 0)), (Operand.tmp 3)], argTypes := #[23, 69] }), none, ⟨1, false, false⟩⟩,
  ⟨(some 2), (Op.assign (Operand.tmp 4)), none, ann0⟩] none)
 .ret))⟩
theorem F71 (z : Nat) : FOk Try.prog 71 (s71 z) := by unfold FOk; kernel_rfl
def s72 (z : Nat) : SFn := ⟨2, 14, [],
 (.seq (.reg [⟨(some 5), (Op.move (Operand.tmp 0)), none, ann0⟩,
  ⟨(some 6), (Op.call { callee := (Callee.builtin Builtin.len), args := #[(Operand.tmp 5)], argTypes := #[23] }), none, ann0⟩,
  ⟨(some 4), (Op.assign (Operand.tmp 6)), none, ann0⟩] none)
 (.reg [⟨(some 7), (Op.move (Operand.tmp 0)), none, ann0⟩,
  ⟨(some 8), (Op.move (Operand.tmp 4)), none, ann0⟩,
  ⟨(some 9), (Op.move (Operand.tmp 4)), none, ann0⟩,
  ⟨(some 10), (Op.convert 3 45 (Operand.tmp 9)), none, ann0⟩,
  ⟨(some 11), (Op.call { callee := (Callee.value (Operand.func 81)), args := #[(Operand.tmp 10)], argTypes := #[45] }), none, ann0⟩,
  ⟨(some 12), (Op.move (Operand.tmp 1)), none, ann0⟩,
  ⟨(some 13), (Op.call { callee := (Callee.value (Operand.func 80)), args := #[(Operand.tmp 7), (Operand.const (Value.int IntKind.i64 0)), (Operand.tmp 8), (Operand.tmp 11), (Operand.tmp 12)], argTypes := #[23, 3, 3, 3, 72] }), none, ann0⟩] none))⟩
theorem F72 (z : Nat) : FOk Try.prog 72 (s72 z) := by unfold FOk; kernel_rfl
def c73_1 (z : Nat) : SC := .post (.seq (.reg [⟨(some 8), (Op.binOp BinOp.lss 3 (Operand.tmp 7) (Operand.tmp 6) 3), none, ann0⟩] none)
 (.seq (.cond (Operand.tmp 8) .skip
 (.exit 0))
 (.seq (.post (.block 1 (.seq (.reg [⟨(some 9), (Op.indexAddr 23 (Operand.tmp 5) (Operand.tmp 7)), none, ann0⟩,
  ⟨(some 10), (Op.load 33 (Operand.tmp 9)), none, ann0⟩,
  ⟨(some 4), (Op.alloc 33), none, ⟨1, false, false⟩⟩,
  ⟨none, (Op.store 33 (Operand.tmp 4) (Operand.tmp 10)), none, ann0⟩] none)
 (.seq (.reg [⟨(some 11), (Op.move (Operand.tmp 0)), none, ann0⟩,
  ⟨(some 12), (Op.load 33 (Operand.tmp 4)), none, ann0⟩,
  ⟨(some 13), (Op.call { callee := (Callee.value (Operand.tmp 11)), args := #[(Operand.tmp 12)], argTypes := #[33] }), none, ann0⟩,
  ⟨(some 14), (Op.unOp UnOp.not 4 (Operand.tmp 13)), none, ann0⟩] none)
 (.cond (Operand.tmp 14) .ret
 .skip)))) (.tidy [0, 5, 6, 7] z (z + 1)))
 (.reg [⟨(some 15), (Op.binOp BinOp.add 3 (Operand.tmp 7) (Operand.const (Value.int IntKind.i64 1)) 3), none, ann0⟩,
  ⟨(some 7), (Op.move (Operand.tmp 15)), none, ann0⟩] none)))) (.tidy [0, 5, 6, 7] z (z + 0))
def s73_1 (z : Nat) : SC := c73_1 z
theorem e73_1 {C : Pg} {z : Nat} {st : St} {ks : List Fr} {K : Ex → St → Prop} : wpk C (s73_1 z) st ks K ↔ wpk C (c73_1 z) st ks K := Iff.rfl
def s73 (z : Nat) : SFn := ⟨2, 16, [],
 (.seq (.reg [⟨(some 5), (Op.load 23 (Operand.tmp 1)), none, ann0⟩,
  ⟨(some 6), (Op.call { callee := (Callee.builtin Builtin.len), args := #[(Operand.tmp 5)], argTypes := #[23] }), none, ann0⟩,
  ⟨(some 7), (Op.move (Operand.const (Value.int IntKind.i64 0))), none, ann0⟩] none)
 (.post (.block 0 (.pre (.tidy [0, 5, 6, 7] z (z + 0)) (.loop (s73_1 z)))) (.tidy [] z (z + 0))))⟩
theorem F73 (z : Nat) : FOk Try.prog 73 (s73 z) := by unfold FOk; kernel_rfl
def s74 (z : Nat) : SFn := ⟨1, 6, [(ResultVar.tmp 2)],
 (.seq (.reg [⟨(some 2), (Op.assign (Operand.const (Value.bool false))), none, ann0⟩] none)
 (.seq (.reg [⟨(some 3), (Op.move (Operand.tmp 0)), none, ann0⟩,
  ⟨(some 4), (Op.move (Operand.tmp 0)), none, ann0⟩,
  ⟨(some 5), (Op.binOp BinOp.neq 3 (Operand.tmp 3) (Operand.tmp 4) 3), none, ann0⟩,
  ⟨(some 2), (Op.assign (Operand.tmp 5)), none, ann0⟩] none)
 .ret))⟩
theorem F74 (z : Nat) : FOk Try.prog 74 (s74 z) := by unfold FOk; kernel_rfl
def s75 (z : Nat) : SFn := ⟨1, 6, [(ResultVar.tmp 2)],
 (.seq (.reg [⟨(some 1), (Op.box 33 (Operand.tmp 0)), none, ⟨1, false, false⟩⟩,
  ⟨(some 2), (Op.assign (Operand.const (Value.bool false))), none, ann0⟩] none)
 (.seq (.reg [⟨(some 3), (Op.load 33 (Operand.tmp 1)), none, ann0⟩,
  ⟨(some 4), (Op.call { callee := (Callee.value (Operand.func 54)), args := #[(Operand.tmp 3)], argTypes := #[33] }), none, ann0⟩,
  ⟨(some 5), (Op.unOp UnOp.not 4 (Operand.tmp 4)), none, ann0⟩,
  ⟨(some 2), (Op.assign (Operand.tmp 5)), none, ann0⟩] none)
 .ret))⟩
theorem F75 (z : Nat) : FOk Try.prog 75 (s75 z) := by unfold FOk; kernel_rfl
def s76 (z : Nat) : SFn := ⟨3, 12, [(ResultVar.tmp 4)],
 (.seq (.reg [⟨(some 4), (Op.assign (Operand.const (Value.bool false))), none, ann0⟩] none)
 (.seq (.reg [⟨(some 5), (Op.load 23 (Operand.tmp 1)), none, ann0⟩,
  ⟨(some 6), (Op.move (Operand.tmp 0)), none, ann0⟩,
  ⟨(some 7), (Op.indexAddr 23 (Operand.tmp 5) (Operand.tmp 6)), none, ann0⟩,
  ⟨(some 8), (Op.fieldAddr 33 (Operand.tmp 7) 1), none, ann0⟩,
  ⟨(some 9), (Op.load 3 (Operand.tmp 8)), none, ann0⟩,
  ⟨(some 10), (Op.load 3 (Operand.tmp 2)), none, ann0⟩,
  ⟨(some 11), (Op.binOp BinOp.gtr 3 (Operand.tmp 9) (Operand.tmp 10) 3), none, ann0⟩,
  ⟨(some 4), (Op.assign (Operand.tmp 11)), none, ann0⟩] (some [0, 0, 3, 7, 15, 0, 63, 127]))
 .ret))⟩
theorem F76 (z : Nat) : FOk Try.prog 76 (s76 z) := by unfold FOk; kernel_rfl
def t77_63 (z : Nat) : SC := (.seq (.post (.reg [⟨(some 63), (Op.move (Operand.tmp 0)), none, ann0⟩,
  ⟨(some 64), (Op.move (Operand.tmp 10)), none, ann0⟩,
  ⟨(some 65), (Op.move (Operand.tmp 4)), none, ann0⟩,
  ⟨(some 66), (Op.binOp BinOp.rem 3 (Operand.tmp 65) (Operand.const (Value.int IntKind.i64 2)) 3), none, ann0⟩,
  ⟨(some 67), (Op.binOp BinOp.eql 3 (Operand.tmp 66) (Operand.const (Value.int IntKind.i64 1)) 3), none, ann0⟩,
  ⟨(some 68), (Op.move (Operand.tmp 5)), none, ann0⟩,
  ⟨(some 69), (Op.binOp BinOp.rem 3 (Operand.tmp 68) (Operand.const (Value.int IntKind.i64 2)) 3), none, ann0⟩,
  ⟨(some 70), (Op.binOp BinOp.eql 3 (Operand.tmp 69) (Operand.const (Value.int IntKind.i64 1)) 3), none, ann0⟩,
  ⟨(some 71), (Op.build 76 #[(0, (Operand.tmp 67)), (1, (Operand.tmp 70))]), none, ann0⟩,
  ⟨(some 72), (Op.call { callee := (Callee.value (Operand.tmp 63)), args := #[(Operand.tmp 64), (Operand.tmp 71)], argTypes := #[3, 76] }), none, ann0⟩,
  ⟨(some 73), (Op.unOp UnOp.not 4 (Operand.tmp 72)), none, ann0⟩] none) (.tidy [0, 1, 2, 4, 5, 73] z (z + 0)))
 (.cond (Operand.tmp 73) .ret
 .skip))
def c77_1 (z : Nat) : SC := .post (.seq (.post (.seq (.post (.reg [⟨(some 11), (Op.move (Operand.tmp 4)), none, ann0⟩,
  ⟨(some 12), (Op.load 23 (Operand.tmp 1)), none, ann0⟩,
  ⟨(some 13), (Op.call { callee := (Callee.builtin Builtin.len), args := #[(Operand.tmp 12)], argTypes := #[23] }), none, ann0⟩,
  ⟨(some 14), (Op.binOp BinOp.mul 3 (Operand.const (Value.int IntKind.i64 2)) (Operand.tmp 13) 3), none, ann0⟩,
  ⟨(some 15), (Op.binOp BinOp.lss 3 (Operand.tmp 11) (Operand.tmp 14) 3), none, ann0⟩,
  ⟨(some 16), (Op.move (Operand.tmp 15)), none, ann0⟩,
  ⟨(some 17), (Op.move (Operand.tmp 5)), (some (16, false)), ann0⟩,
  ⟨(some 18), (Op.load 23 (Operand.tmp 2)), (some (16, false)), ann0⟩,
  ⟨(some 19), (Op.call { callee := (Callee.builtin Builtin.len), args := #[(Operand.tmp 18)], argTypes := #[23] }), (some (16, false)), ann0⟩,
  ⟨(some 20), (Op.binOp BinOp.mul 3 (Operand.const (Value.int IntKind.i64 2)) (Operand.tmp 19) 3), (some (16, false)), ann0⟩,
  ⟨(some 21), (Op.binOp BinOp.lss 3 (Operand.tmp 17) (Operand.tmp 20) 3), (some (16, false)), ann0⟩,
  ⟨(some 22), (Op.pick (Operand.tmp 16) (Operand.const (Value.bool true)) (Operand.tmp 21)), none, ann0⟩] none) (.tidy [0, 1, 2, 4, 5, 22] z (z + 0)))
 (.cond (Operand.tmp 22) .skip
 (.exit 0))) (.tidy [0, 1, 2, 4, 5] z (z + 0)))
 (.block 1 (.seq (.post (.reg [⟨(some 24), (Op.load 23 (Operand.tmp 1)), none, ann0⟩,
  ⟨(some 25), (Op.move (Operand.tmp 4)), none, ann0⟩,
  ⟨(some 26), (Op.call { callee := (Callee.value (Operand.func 78)), args := #[(Operand.tmp 24), (Operand.tmp 25)], argTypes := #[23, 3] }), none, ann0⟩,
  ⟨(some 23), (Op.move (Operand.tmp 26)), none, ann0⟩,
  ⟨(some 27), (Op.extract (Operand.tmp 23) 0), none, ann0⟩,
  ⟨(some 28), (Op.extract (Operand.tmp 23) 1), none, ann0⟩,
  ⟨(some 6), (Op.assign (Operand.tmp 27)), none, ann0⟩,
  ⟨(some 7), (Op.assign (Operand.tmp 28)), none, ann0⟩] none) (.tidy [0, 1, 2, 4, 5, 6, 7] z (z + 0)))
 (.seq (.post (.reg [⟨(some 30), (Op.load 23 (Operand.tmp 2)), none, ann0⟩,
  ⟨(some 31), (Op.move (Operand.tmp 5)), none, ann0⟩,
  ⟨(some 32), (Op.call { callee := (Callee.value (Operand.func 78)), args := #[(Operand.tmp 30), (Operand.tmp 31)], argTypes := #[23, 3] }), none, ann0⟩,
  ⟨(some 29), (Op.move (Operand.tmp 32)), none, ann0⟩,
  ⟨(some 33), (Op.extract (Operand.tmp 29) 0), none, ann0⟩,
  ⟨(some 34), (Op.extract (Operand.tmp 29) 1), none, ann0⟩,
  ⟨(some 8), (Op.assign (Operand.tmp 33)), none, ann0⟩,
  ⟨(some 9), (Op.assign (Operand.tmp 34)), none, ann0⟩] none) (.tidy [0, 1, 2, 4, 5, 6, 7, 8, 9] z (z + 0)))
 (.seq (.reg [⟨(some 35), (Op.move (Operand.tmp 6)), none, ann0⟩,
  ⟨(some 10), (Op.assign (Operand.tmp 35)), none, ann0⟩] none)
 (.seq (.post (.seq (.post (.reg [⟨(some 36), (Op.move (Operand.tmp 7)), none, ann0⟩,
  ⟨(some 37), (Op.unOp UnOp.not 4 (Operand.tmp 36)), none, ann0⟩,
  ⟨(some 38), (Op.move (Operand.tmp 37)), none, ann0⟩,
  ⟨(some 39), (Op.move (Operand.tmp 9)), (some (38, false)), ann0⟩,
  ⟨(some 40), (Op.move (Operand.tmp 39)), (some (38, false)), ann0⟩,
  ⟨(some 41), (Op.move (Operand.tmp 8)), (some (40, true)), ann0⟩,
  ⟨(some 42), (Op.move (Operand.tmp 6)), (some (40, true)), ann0⟩,
  ⟨(some 43), (Op.binOp BinOp.lss 3 (Operand.tmp 41) (Operand.tmp 42) 3), (some (40, true)), ann0⟩,
  ⟨(some 44), (Op.pick (Operand.tmp 40) (Operand.tmp 43) (Operand.const (Value.bool false))), (some (38, false)), ann0⟩,
  ⟨(some 45), (Op.pick (Operand.tmp 38) (Operand.const (Value.bool true)) (Operand.tmp 44)), none, ann0⟩] none) (.tidy [0, 1, 2, 4, 5, 6, 7, 8, 9, 10, 45] z (z + 0)))
 (.cond (Operand.tmp 45) (.reg [⟨(some 46), (Op.move (Operand.tmp 8)), none, ann0⟩,
  ⟨(some 10), (Op.assign (Operand.tmp 46)), none, ann0⟩] none)
 .skip)) (.tidy [0, 1, 2, 4, 5, 6, 7, 8, 9, 10] z (z + 0)))
 (.seq (.post (.seq (.reg [⟨(some 47), (Op.move (Operand.tmp 7)), none, ann0⟩,
  ⟨(some 48), (Op.move (Operand.tmp 47)), none, ann0⟩,
  ⟨(some 49), (Op.move (Operand.tmp 6)), (some (48, true)), ann0⟩,
  ⟨(some 50), (Op.move (Operand.tmp 10)), (some (48, true)), ann0⟩,
  ⟨(some 51), (Op.binOp BinOp.eql 3 (Operand.tmp 49) (Operand.tmp 50) 3), (some (48, true)), ann0⟩,
  ⟨(some 52), (Op.pick (Operand.tmp 48) (Operand.tmp 51) (Operand.const (Value.bool false))), none, ann0⟩] none)
 (.cond (Operand.tmp 52) (.reg [⟨(some 53), (Op.move (Operand.tmp 4)), none, ann0⟩,
  ⟨(some 54), (Op.binOp BinOp.add 3 (Operand.tmp 53) (Operand.const (Value.int IntKind.i64 1)) 3), none, ann0⟩,
  ⟨(some 4), (Op.assign (Operand.tmp 54)), none, ann0⟩] none)
 .skip)) (.tidy [0, 1, 2, 4, 5, 8, 9, 10] z (z + 0)))
 (.seq (.post (.seq (.reg [⟨(some 55), (Op.move (Operand.tmp 9)), none, ann0⟩,
  ⟨(some 56), (Op.move (Operand.tmp 55)), none, ann0⟩,
  ⟨(some 57), (Op.move (Operand.tmp 8)), (some (56, true)), ann0⟩,
  ⟨(some 58), (Op.move (Operand.tmp 10)), (some (56, true)), ann0⟩,
  ⟨(some 59), (Op.binOp BinOp.eql 3 (Operand.tmp 57) (Operand.tmp 58) 3), (some (56, true)), ann0⟩,
  ⟨(some 60), (Op.pick (Operand.tmp 56) (Operand.tmp 59) (Operand.const (Value.bool false))), none, ann0⟩] none)
 (.cond (Operand.tmp 60) (.reg [⟨(some 61), (Op.move (Operand.tmp 5)), none, ann0⟩,
  ⟨(some 62), (Op.binOp BinOp.add 3 (Operand.tmp 61) (Operand.const (Value.int IntKind.i64 1)) 3), none, ann0⟩,
  ⟨(some 5), (Op.assign (Operand.tmp 62)), none, ann0⟩] none)
 .skip)) (.tidy [0, 1, 2, 4, 5, 10] z (z + 0)))
 (t77_63 z))))))))) (.tidy [0, 1, 2, 4, 5] z (z + 0))
def s77_1 (z : Nat) : SC := c77_1 z
theorem e77_1 {C : Pg} {z : Nat} {st : St} {ks : List Fr} {K : Ex → St → Prop} : wpk C (s77_1 z) st ks K ↔ wpk C (c77_1 z) st ks K := Iff.rfl
def s77 (z : Nat) : SFn := ⟨3, 74, [],
 (.seq (.reg [⟨(some 4), (Op.assign (Operand.const (Value.int IntKind.i64 0))), none, ann0⟩,
  ⟨(some 5), (Op.assign (Operand.const (Value.int IntKind.i64 0))), none, ann0⟩] none)
 (.post (.block 0 (.pre (.tidy [0, 1, 2, 4, 5] z (z + 0)) (.loop (s77_1 z)))) (.tidy [] z (z + 0))))⟩
theorem F77 (z : Nat) : FOk Try.prog 77 (s77 z) := by unfold FOk; kernel_rfl
def s78 (z : Nat) : SFn := ⟨2, 28, [(ResultVar.tmp 4), (ResultVar.tmp 5)],
 (.seq (.reg [⟨(some 4), (Op.assign (Operand.const (Value.int IntKind.i64 0))), none, ann0⟩,
  ⟨(some 5), (Op.assign (Operand.const (Value.bool false))), none, ann0⟩] none)
 (.seq (.post (.block 0 (.seq (.post (.reg [⟨(some 7), (Op.move (Operand.tmp 1)), none, ann0⟩,
  ⟨(some 8), (Op.move (Operand.tmp 0)), none, ann0⟩,
  ⟨(some 9), (Op.call { callee := (Callee.builtin Builtin.len), args := #[(Operand.tmp 8)], argTypes := #[23] }), none, ann0⟩,
  ⟨(some 10), (Op.binOp BinOp.mul 3 (Operand.const (Value.int IntKind.i64 2)) (Operand.tmp 9) 3), none, ann0⟩,
  ⟨(some 11), (Op.binOp BinOp.eql 3 (Operand.tmp 7) (Operand.tmp 10) 3), none, ann0⟩,
  ⟨(some 6), (Op.assign (Operand.tmp 11)), none, ann0⟩] none) (.tidy [0, 1, 6] z (z + 0)))
 (.cond (Operand.tmp 6) (.seq (.reg [⟨(some 4), (Op.assign (Operand.const (Value.int IntKind.i64 0))), none, ann0⟩,
  ⟨(some 5), (Op.assign (Operand.const (Value.bool false))), none, ann0⟩] none)
 .ret)
 (.seq (.reg [⟨(some 13), (Op.move (Operand.tmp 1)), none, ann0⟩,
  ⟨(some 14), (Op.binOp BinOp.rem 3 (Operand.tmp 13) (Operand.const (Value.int IntKind.i64 2)) 3), none, ann0⟩,
  ⟨(some 15), (Op.binOp BinOp.eql 3 (Operand.tmp 14) (Operand.const (Value.int IntKind.i64 0)) 3), none, ann0⟩,
  ⟨(some 12), (Op.assign (Operand.tmp 15)), none, ann0⟩] none)
 (.cond (Operand.tmp 12) (.seq (.reg [⟨(some 16), (Op.move (Operand.tmp 0)), none, ann0⟩,
  ⟨(some 17), (Op.move (Operand.tmp 1)), none, ann0⟩,
  ⟨(some 18), (Op.binOp BinOp.quo 3 (Operand.tmp 17) (Operand.const (Value.int IntKind.i64 2)) 3), none, ann0⟩,
  ⟨(some 19), (Op.indexAddr 23 (Operand.tmp 16) (Operand.tmp 18)), none, ann0⟩,
  ⟨(some 20), (Op.fieldAddr 33 (Operand.tmp 19) 0), none, ann0⟩,
  ⟨(some 21), (Op.load 3 (Operand.tmp 20)), none, ann0⟩,
  ⟨(some 4), (Op.assign (Operand.tmp 21)), none, ann0⟩,
  ⟨(some 5), (Op.assign (Operand.const (Value.bool true))), none, ann0⟩] none)
 .ret)
 .skip))))) (.tidy [0, 1] z (z + 0)))
 (.seq (.reg [⟨(some 22), (Op.move (Operand.tmp 0)), none, ann0⟩,
  ⟨(some 23), (Op.move (Operand.tmp 1)), none, ann0⟩,
  ⟨(some 24), (Op.binOp BinOp.quo 3 (Operand.tmp 23) (Operand.const (Value.int IntKind.i64 2)) 3), none, ann0⟩,
  ⟨(some 25), (Op.indexAddr 23 (Operand.tmp 22) (Operand.tmp 24)), none, ann0⟩,
  ⟨(some 26), (Op.fieldAddr 33 (Operand.tmp 25) 1), none, ann0⟩,
  ⟨(some 27), (Op.load 3 (Operand.tmp 26)), none, ann0⟩,
  ⟨(some 4), (Op.assign (Operand.tmp 27)), none, ann0⟩,
  ⟨(some 5), (Op.assign (Operand.const (Value.bool true))), none, ann0⟩] none)
 .ret)))⟩
theorem F78 (z : Nat) : FOk Try.prog 78 (s78 z) := by unfold FOk; kernel_rfl
def l79_0 : SLoop := ⟨13, [7],
 (.reg [⟨(some 5), (Op.alloc 33), none, ⟨1, false, false⟩⟩,
  ⟨none, (Op.store 33 (Operand.tmp 5) (Operand.tmp 7)), none, ann0⟩] none),
 (.block 1 (.reg [⟨(some 8), (Op.load 23 (Operand.tmp 2)), none, ann0⟩,
  ⟨(some 9), (Op.load 33 (Operand.tmp 5)), none, ann0⟩,
  ⟨(some 10), (Op.buildSlice 23 1 #[(0, (Operand.tmp 9))]), none, ⟨1, true, false⟩⟩,
  ⟨(some 11), (Op.call { callee := (Callee.builtin Builtin.append), args := #[(Operand.tmp 8), (Operand.tmp 10)], argTypes := #[23, 23] }), none, ann0⟩,
  ⟨none, (Op.store 23 (Operand.tmp 2) (Operand.tmp 11)), none, ann0⟩] none))⟩
theorem N79_0 : LOk Try.prog 5056 l79_0 := by unfold LOk; kernel_rfl
def s79 (z : Nat) : SFn := ⟨2, 13, [(ResultVar.tmp 4)],
 (.seq (.reg [⟨(some 2), (Op.box 23 (Operand.tmp 0)), none, ⟨1, false, false⟩⟩,
  ⟨(some 4), (Op.assign (Operand.const (Value.slice none 0 0))), none, ann0⟩] none)
 (.seq (.seq (.reg [⟨(some 6), (Op.move (Operand.tmp 1)), none, ann0⟩] none)
 (.post (.pre (.mkb 2 0 33 2) (.block 0 (.rng (Operand.tmp 6) 5056 [2] ⟨0, false, false⟩))) (.tidy [2] z (z + 3))))
 (.seq (.reg [⟨(some 12), (Op.load 23 (Operand.tmp 2)), none, ann0⟩,
  ⟨(some 4), (Op.assign (Operand.tmp 12)), none, ann0⟩] none)
 .ret)))⟩
theorem F79 (z : Nat) : FOk Try.prog 79 (s79 z) := by unfold FOk; kernel_rfl
def c80_1 (z : Nat) : SC := .post (.block 1 (.seq (.reg [⟨(some 21), (Op.move (Operand.tmp 2)), none, ann0⟩,
  ⟨(some 22), (Op.move (Operand.tmp 1)), none, ann0⟩,
  ⟨(some 23), (Op.binOp BinOp.sub 3 (Operand.tmp 21) (Operand.tmp 22) 3), none, ann0⟩,
  ⟨(some 12), (Op.assign (Operand.tmp 23)), none, ann0⟩] none)
 (.seq (.post (.seq (.reg [⟨(some 24), (Op.move (Operand.tmp 12)), none, ann0⟩,
  ⟨(some 25), (Op.binOp BinOp.leq 3 (Operand.tmp 24) (Operand.const (Value.int IntKind.i64 12)) 3), none, ann0⟩] none)
 (.cond (Operand.tmp 25) (.seq (.reg [⟨(some 26), (Op.move (Operand.tmp 0)), none, ann0⟩,
  ⟨(some 27), (Op.move (Operand.tmp 1)), none, ann0⟩,
  ⟨(some 28), (Op.move (Operand.tmp 2)), none, ann0⟩,
  ⟨(some 29), (Op.move (Operand.tmp 4)), none, ann0⟩,
  ⟨(some 30), (Op.call { callee := (Callee.value (Operand.func 82)), args := #[(Operand.tmp 26), (Operand.tmp 27), (Operand.tmp 28), (Operand.tmp 29)], argTypes := #[23, 3, 3, 72] }), none, ann0⟩] none)
 .ret)
 .skip)) (.tidy [0, 1, 2, 3, 4, 10, 11, 12] z (z + 0)))
 (.seq (.post (.seq (.reg [⟨(some 31), (Op.move (Operand.tmp 3)), none, ann0⟩,
  ⟨(some 32), (Op.binOp BinOp.eql 3 (Operand.tmp 31) (Operand.const (Value.int IntKind.i64 0)) 3), none, ann0⟩] none)
 (.cond (Operand.tmp 32) (.seq (.reg [⟨(some 33), (Op.move (Operand.tmp 0)), none, ann0⟩,
  ⟨(some 34), (Op.move (Operand.tmp 1)), none, ann0⟩,
  ⟨(some 35), (Op.move (Operand.tmp 2)), none, ann0⟩,
  ⟨(some 36), (Op.move (Operand.tmp 4)), none, ann0⟩,
  ⟨(some 37), (Op.call { callee := (Callee.value (Operand.func 83)), args := #[(Operand.tmp 33), (Operand.tmp 34), (Operand.tmp 35), (Operand.tmp 36)], argTypes := #[23, 3, 3, 72] }), none, ann0⟩] none)
 .ret)
 .skip)) (.tidy [0, 1, 2, 3, 4, 10, 11, 12] z (z + 0)))
 (.seq (.post (.seq (.reg [⟨(some 38), (Op.move (Operand.tmp 10)), none, ann0⟩,
  ⟨(some 39), (Op.unOp UnOp.not 4 (Operand.tmp 38)), none, ann0⟩] none)
 (.cond (Operand.tmp 39) (.seq (.post (.reg [⟨(some 40), (Op.move (Operand.tmp 0)), none, ann0⟩,
  ⟨(some 41), (Op.move (Operand.tmp 1)), none, ann0⟩,
  ⟨(some 42), (Op.move (Operand.tmp 2)), none, ann0⟩,
  ⟨(some 43), (Op.move (Operand.tmp 4)), none, ann0⟩,
  ⟨(some 44), (Op.call { callee := (Callee.value (Operand.func 84)), args := #[(Operand.tmp 40), (Operand.tmp 41), (Operand.tmp 42), (Operand.tmp 43)], argTypes := #[23, 3, 3, 72] }), none, ann0⟩] none) (.tidy [0, 1, 2, 3, 4, 10, 11, 12] z (z + 0)))
 (.reg [⟨(some 45), (Op.move (Operand.tmp 3)), none, ann0⟩,
  ⟨(some 46), (Op.binOp BinOp.sub 3 (Operand.tmp 45) (Operand.const (Value.int IntKind.i64 1)) 3), none, ann0⟩,
  ⟨(some 3), (Op.assign (Operand.tmp 46)), none, ann0⟩] none))
 .skip)) (.tidy [0, 1, 2, 3, 4, 10, 11, 12] z (z + 0)))
 (.seq (.post (.reg [⟨(some 48), (Op.move (Operand.tmp 0)), none, ann0⟩,
  ⟨(some 49), (Op.move (Operand.tmp 1)), none, ann0⟩,
  ⟨(some 50), (Op.move (Operand.tmp 2)), none, ann0⟩,
  ⟨(some 51), (Op.move (Operand.tmp 4)), none, ann0⟩,
  ⟨(some 52), (Op.call { callee := (Callee.value (Operand.func 85)), args := #[(Operand.tmp 48), (Operand.tmp 49), (Operand.tmp 50), (Operand.tmp 51)], argTypes := #[23, 3, 3, 72] }), none, ann0⟩,
  ⟨(some 47), (Op.move (Operand.tmp 52)), none, ann0⟩,
  ⟨(some 53), (Op.extract (Operand.tmp 47) 0), none, ann0⟩,
  ⟨(some 54), (Op.extract (Operand.tmp 47) 1), none, ann0⟩,
  ⟨(some 13), (Op.assign (Operand.tmp 53)), none, ann0⟩,
  ⟨(some 14), (Op.assign (Operand.tmp 54)), none, ann0⟩] none) (.tidy [0, 1, 2, 3, 4, 10, 11, 12, 13, 14] z (z + 0)))
 (.seq (.post (.seq (.reg [⟨(some 55), (Op.move (Operand.tmp 14)), none, ann0⟩,
  ⟨(some 56), (Op.binOp BinOp.eql 85 (Operand.tmp 55) (Operand.const (Value.int IntKind.i64 2)) 85), none, ann0⟩] none)
 (.cond (Operand.tmp 56) (.seq (.post (.reg [⟨(some 57), (Op.move (Operand.tmp 0)), none, ann0⟩,
  ⟨(some 58), (Op.move (Operand.tmp 1)), none, ann0⟩,
  ⟨(some 59), (Op.move (Operand.tmp 2)), none, ann0⟩,
  ⟨(some 60), (Op.move (Operand.tmp 4)), none, ann0⟩,
  ⟨(some 61), (Op.call { callee := (Callee.value (Operand.func 86)), args := #[(Operand.tmp 57), (Operand.tmp 58), (Operand.tmp 59), (Operand.tmp 60)], argTypes := #[23, 3, 3, 72] }), none, ann0⟩] none) (.tidy [0, 1, 2, 3, 4, 10, 11, 12, 13] z (z + 0)))
 (.seq (.post (.reg [⟨(some 62), (Op.move (Operand.tmp 2)), none, ann0⟩,
  ⟨(some 63), (Op.binOp BinOp.sub 3 (Operand.tmp 62) (Operand.const (Value.int IntKind.i64 1)) 3), none, ann0⟩,
  ⟨(some 64), (Op.move (Operand.tmp 13)), none, ann0⟩,
  ⟨(some 65), (Op.move (Operand.tmp 1)), none, ann0⟩,
  ⟨(some 66), (Op.binOp BinOp.sub 3 (Operand.tmp 64) (Operand.tmp 65) 3), none, ann0⟩,
  ⟨(some 67), (Op.binOp BinOp.sub 3 (Operand.tmp 63) (Operand.tmp 66) 3), none, ann0⟩,
  ⟨(some 13), (Op.assign (Operand.tmp 67)), none, ann0⟩] none) (.tidy [0, 1, 2, 3, 4, 10, 11, 12, 13] z (z + 0)))
 (.reg [⟨(some 14), (Op.assign (Operand.const (Value.int IntKind.i64 1))), none, ann0⟩] none)))
 .skip)) (.tidy [0, 1, 2, 3, 4, 10, 11, 12, 13, 14] z (z + 0)))
 (.seq (.post (.seq (.post (.reg [⟨(some 68), (Op.move (Operand.tmp 10)), none, ann0⟩,
  ⟨(some 69), (Op.move (Operand.tmp 68)), none, ann0⟩,
  ⟨(some 70), (Op.move (Operand.tmp 11)), (some (69, true)), ann0⟩,
  ⟨(some 71), (Op.pick (Operand.tmp 69) (Operand.tmp 70) (Operand.const (Value.bool false))), none, ann0⟩,
  ⟨(some 72), (Op.move (Operand.tmp 71)), none, ann0⟩,
  ⟨(some 73), (Op.move (Operand.tmp 14)), (some (72, true)), ann0⟩,
  ⟨(some 74), (Op.binOp BinOp.eql 85 (Operand.tmp 73) (Operand.const (Value.int IntKind.i64 1)) 85), (some (72, true)), ann0⟩,
  ⟨(some 75), (Op.pick (Operand.tmp 72) (Operand.tmp 74) (Operand.const (Value.bool false))), none, ann0⟩] none) (.tidy [0, 1, 2, 3, 4, 10, 11, 12, 13, 75] z (z + 0)))
 (.cond (Operand.tmp 75) (.seq (.reg [⟨(some 76), (Op.move (Operand.tmp 0)), none, ann0⟩,
  ⟨(some 77), (Op.move (Operand.tmp 1)), none, ann0⟩,
  ⟨(some 78), (Op.move (Operand.tmp 2)), none, ann0⟩,
  ⟨(some 79), (Op.move (Operand.tmp 4)), none, ann0⟩,
  ⟨(some 80), (Op.call { callee := (Callee.value (Operand.func 87)), args := #[(Operand.tmp 76), (Operand.tmp 77), (Operand.tmp 78), (Operand.tmp 79)], argTypes := #[23, 3, 3, 72] }), none, ann0⟩] none)
 (.cond (Operand.tmp 80) .ret
 .skip))
 .skip)) (.tidy [0, 1, 2, 3, 4, 10, 11, 12, 13] z (z + 0)))
 (.seq (.post (.seq (.post (.reg [⟨(some 81), (Op.move (Operand.tmp 1)), none, ann0⟩,
  ⟨(some 82), (Op.binOp BinOp.gtr 3 (Operand.tmp 81) (Operand.const (Value.int IntKind.i64 0)) 3), none, ann0⟩,
  ⟨(some 83), (Op.move (Operand.tmp 82)), none, ann0⟩,
  ⟨(some 84), (Op.move (Operand.tmp 4)), (some (83, true)), ann0⟩,
  ⟨(some 85), (Op.move (Operand.tmp 0)), (some (83, true)), ann0⟩,
  ⟨(some 86), (Op.move (Operand.tmp 1)), (some (83, true)), ann0⟩,
  ⟨(some 87), (Op.binOp BinOp.sub 3 (Operand.tmp 86) (Operand.const (Value.int IntKind.i64 1)) 3), (some (83, true)), ann0⟩,
  ⟨(some 88), (Op.indexAddr 23 (Operand.tmp 85) (Operand.tmp 87)), (some (83, true)), ann0⟩,
  ⟨(some 89), (Op.load 33 (Operand.tmp 88)), (some (83, true)), ann0⟩,
  ⟨(some 90), (Op.move (Operand.tmp 0)), (some (83, true)), ann0⟩,
  ⟨(some 91), (Op.move (Operand.tmp 13)), (some (83, true)), ann0⟩,
  ⟨(some 92), (Op.indexAddr 23 (Operand.tmp 90) (Operand.tmp 91)), (some (83, true)), ann0⟩,
  ⟨(some 93), (Op.load 33 (Operand.tmp 92)), (some (83, true)), ann0⟩,
  ⟨(some 94), (Op.call { callee := (Callee.value (Operand.tmp 84)), args := #[(Operand.tmp 89), (Operand.tmp 93)], argTypes := #[33, 33] }), (some (83, true)), ann0⟩,
  ⟨(some 95), (Op.binOp BinOp.lss 3 (Operand.tmp 94) (Operand.const (Value.int IntKind.i64 0)) 3), (some (83, true)), ann0⟩,
  ⟨(some 96), (Op.unOp UnOp.not 4 (Operand.tmp 95)), (some (83, true)), ann0⟩,
  ⟨(some 97), (Op.pick (Operand.tmp 83) (Operand.tmp 96) (Operand.const (Value.bool false))), none, ann0⟩] (some [0, 1, 3, 7, 7, 7, 39, 119, 247, 7, 7, 1543, 3591, 8191, 16383, 32767, 65535])) (.tidy [0, 1, 2, 3, 4, 10, 11, 12, 13, 97] z (z + 0)))
 (.cond (Operand.tmp 97) (.seq (.post (.reg [⟨(some 98), (Op.move (Operand.tmp 0)), none, ann0⟩,
  ⟨(some 99), (Op.move (Operand.tmp 1)), none, ann0⟩,
  ⟨(some 100), (Op.move (Operand.tmp 2)), none, ann0⟩,
  ⟨(some 101), (Op.move (Operand.tmp 13)), none, ann0⟩,
  ⟨(some 102), (Op.move (Operand.tmp 4)), none, ann0⟩,
  ⟨(some 103), (Op.call { callee := (Callee.value (Operand.func 88)), args := #[(Operand.tmp 98), (Operand.tmp 99), (Operand.tmp 100), (Operand.tmp 101), (Operand.tmp 102)], argTypes := #[23, 3, 3, 3, 72] }), none, ann0⟩,
  ⟨(some 15), (Op.assign (Operand.tmp 103)), none, ann0⟩] none) (.tidy [0, 2, 3, 4, 10, 11, 15] z (z + 0)))
 (.seq (.reg [⟨(some 104), (Op.move (Operand.tmp 15)), none, ann0⟩,
  ⟨(some 1), (Op.assign (Operand.tmp 104)), none, ann0⟩] none)
 (.exit 1)))
 .skip)) (.tidy [0, 1, 2, 3, 4, 12, 13] z (z + 0)))
 (.seq (.post (.reg [⟨(some 106), (Op.move (Operand.tmp 0)), none, ann0⟩,
  ⟨(some 107), (Op.move (Operand.tmp 1)), none, ann0⟩,
  ⟨(some 108), (Op.move (Operand.tmp 2)), none, ann0⟩,
  ⟨(some 109), (Op.move (Operand.tmp 13)), none, ann0⟩,
  ⟨(some 110), (Op.move (Operand.tmp 4)), none, ann0⟩,
  ⟨(some 111), (Op.call { callee := (Callee.value (Operand.func 89)), args := #[(Operand.tmp 106), (Operand.tmp 107), (Operand.tmp 108), (Operand.tmp 109), (Operand.tmp 110)], argTypes := #[23, 3, 3, 3, 72] }), none, ann0⟩,
  ⟨(some 105), (Op.move (Operand.tmp 111)), none, ann0⟩,
  ⟨(some 112), (Op.extract (Operand.tmp 105) 0), none, ann0⟩,
  ⟨(some 113), (Op.extract (Operand.tmp 105) 1), none, ann0⟩,
  ⟨(some 16), (Op.assign (Operand.tmp 112)), none, ann0⟩,
  ⟨(some 17), (Op.assign (Operand.tmp 113)), none, ann0⟩] none) (.tidy [0, 1, 2, 3, 4, 12, 16, 17] z (z + 0)))
 (.seq (.reg [⟨(some 114), (Op.move (Operand.tmp 17)), none, ann0⟩,
  ⟨(some 11), (Op.assign (Operand.tmp 114)), none, ann0⟩] none)
 (.seq (.post (.reg [⟨(some 115), (Op.move (Operand.tmp 16)), none, ann0⟩,
  ⟨(some 116), (Op.move (Operand.tmp 1)), none, ann0⟩,
  ⟨(some 117), (Op.binOp BinOp.sub 3 (Operand.tmp 115) (Operand.tmp 116) 3), none, ann0⟩,
  ⟨(some 118), (Op.move (Operand.tmp 2)), none, ann0⟩,
  ⟨(some 119), (Op.move (Operand.tmp 16)), none, ann0⟩,
  ⟨(some 120), (Op.binOp BinOp.sub 3 (Operand.tmp 118) (Operand.tmp 119) 3), none, ann0⟩,
  ⟨(some 18), (Op.assign (Operand.tmp 117)), none, ann0⟩,
  ⟨(some 19), (Op.assign (Operand.tmp 120)), none, ann0⟩] none) (.tidy [0, 1, 2, 3, 4, 11, 12, 16, 18, 19] z (z + 0)))
 (.seq (.reg [⟨(some 121), (Op.move (Operand.tmp 12)), none, ann0⟩,
  ⟨(some 122), (Op.binOp BinOp.quo 3 (Operand.tmp 121) (Operand.const (Value.int IntKind.i64 8)) 3), none, ann0⟩,
  ⟨(some 20), (Op.assign (Operand.tmp 122)), none, ann0⟩] none)
 (.seq (.reg [⟨(some 123), (Op.move (Operand.tmp 18)), none, ann0⟩,
  ⟨(some 124), (Op.move (Operand.tmp 19)), none, ann0⟩,
  ⟨(some 125), (Op.binOp BinOp.lss 3 (Operand.tmp 123) (Operand.tmp 124) 3), none, ann0⟩] none)
 (.cond (Operand.tmp 125) (.seq (.post (.reg [⟨(some 126), (Op.move (Operand.tmp 18)), none, ann0⟩,
  ⟨(some 127), (Op.move (Operand.tmp 20)), none, ann0⟩,
  ⟨(some 128), (Op.binOp BinOp.geq 3 (Operand.tmp 126) (Operand.tmp 127) 3), none, ann0⟩,
  ⟨(some 10), (Op.assign (Operand.tmp 128)), none, ann0⟩] none) (.tidy [0, 1, 2, 3, 4, 10, 11, 16] z (z + 0)))
 (.seq (.post (.reg [⟨(some 129), (Op.move (Operand.tmp 0)), none, ann0⟩,
  ⟨(some 130), (Op.move (Operand.tmp 1)), none, ann0⟩,
  ⟨(some 131), (Op.move (Operand.tmp 16)), none, ann0⟩,
  ⟨(some 132), (Op.move (Operand.tmp 3)), none, ann0⟩,
  ⟨(some 133), (Op.move (Operand.tmp 4)), none, ann0⟩,
  ⟨(some 134), (Op.call { callee := (Callee.value (Operand.func 80)), args := #[(Operand.tmp 129), (Operand.tmp 130), (Operand.tmp 131), (Operand.tmp 132), (Operand.tmp 133)], argTypes := #[23, 3, 3, 3, 72] }), none, ann0⟩] none) (.tidy [0, 2, 3, 4, 10, 11, 16] z (z + 0)))
 (.reg [⟨(some 135), (Op.move (Operand.tmp 16)), none, ann0⟩,
  ⟨(some 136), (Op.binOp BinOp.add 3 (Operand.tmp 135) (Operand.const (Value.int IntKind.i64 1)) 3), none, ann0⟩,
  ⟨(some 1), (Op.assign (Operand.tmp 136)), none, ann0⟩] none)))
 (.seq (.reg [⟨(some 137), (Op.move (Operand.tmp 19)), none, ann0⟩,
  ⟨(some 138), (Op.move (Operand.tmp 20)), none, ann0⟩,
  ⟨(some 139), (Op.binOp BinOp.geq 3 (Operand.tmp 137) (Operand.tmp 138) 3), none, ann0⟩,
  ⟨(some 10), (Op.assign (Operand.tmp 139)), none, ann0⟩] none)
 (.seq (.post (.reg [⟨(some 140), (Op.move (Operand.tmp 0)), none, ann0⟩,
  ⟨(some 141), (Op.move (Operand.tmp 16)), none, ann0⟩,
  ⟨(some 142), (Op.binOp BinOp.add 3 (Operand.tmp 141) (Operand.const (Value.int IntKind.i64 1)) 3), none, ann0⟩,
  ⟨(some 143), (Op.move (Operand.tmp 2)), none, ann0⟩,
  ⟨(some 144), (Op.move (Operand.tmp 3)), none, ann0⟩,
  ⟨(some 145), (Op.move (Operand.tmp 4)), none, ann0⟩,
  ⟨(some 146), (Op.call { callee := (Callee.value (Operand.func 80)), args := #[(Operand.tmp 140), (Operand.tmp 142), (Operand.tmp 143), (Operand.tmp 144), (Operand.tmp 145)], argTypes := #[23, 3, 3, 3, 72] }), none, ann0⟩] none) (.tidy [0, 1, 3, 4, 10, 11, 16] z (z + 0)))
 (.reg [⟨(some 147), (Op.move (Operand.tmp 16)), none, ann0⟩,
  ⟨(some 2), (Op.assign (Operand.tmp 147)), none, ann0⟩] none)))))))))))))))))) (.tidy [0, 1, 2, 3, 4, 10, 11] z (z + 0))
def s80_1 (z : Nat) : SC := c80_1 z
theorem e80_1 {C : Pg} {z : Nat} {st : St} {ks : List Fr} {K : Ex → St → Prop} : wpk C (s80_1 z) st ks K ↔ wpk C (c80_1 z) st ks K := Iff.rfl
def s80 (z : Nat) : SFn := ⟨5, 148, [],
 (.seq (.reg [⟨(some 10), (Op.assign (Operand.const (Value.bool true))), none, ann0⟩] none)
 (.seq (.reg [⟨(some 11), (Op.assign (Operand.const (Value.bool true))), none, ann0⟩] none)
 (.post (.block 0 (.pre (.tidy [0, 1, 2, 3, 4, 10, 11] z (z + 0)) (.loop (s80_1 z)))) (.tidy [] z (z + 0)))))⟩
theorem F80 (z : Nat) : FOk Try.prog 80 (s80 z) := by unfold FOk; kernel_rfl
def s81 (z : Nat) : SFn := ⟨1, 8, [(ResultVar.tmp 2)],
 (.seq (.reg [⟨(some 2), (Op.assign (Operand.const (Value.int IntKind.i64 0))), none, ann0⟩] none)
 (.seq (.post (.cond (Operand.const (Value.bool false)) (.seq (.reg [⟨(some 3), (Op.move (Operand.tmp 0)), none, ann0⟩,
  ⟨(some 4), (Op.convert 45 92 (Operand.tmp 3)), none, ann0⟩,
  ⟨(some 5), (Op.call { callee := (Callee.value (Operand.func 90)), args := #[(Operand.tmp 4)], argTypes := #[92] }), none, ann0⟩,
  ⟨(some 2), (Op.assign (Operand.tmp 5)), none, ann0⟩] none)
 .ret)
 .skip) (.tidy [0] z (z + 0)))
 (.seq (.reg [⟨(some 6), (Op.move (Operand.tmp 0)), none, ann0⟩,
  ⟨(some 7), (Op.call { callee := (Callee.value (Operand.func 91)), args := #[(Operand.tmp 6)], argTypes := #[94] }), none, ann0⟩,
  ⟨(some 2), (Op.assign (Operand.tmp 7)), none, ann0⟩] none)
 .ret)))⟩
theorem F81 (z : Nat) : FOk Try.prog 81 (s81 z) := by unfold FOk; kernel_rfl
def c82_2 (z : Nat) : SC := .post (.seq (.post (.seq (.post (.reg [⟨(some 18), (Op.move (Operand.tmp 9)), none, ann0⟩,
  ⟨(some 19), (Op.move (Operand.tmp 1)), none, ann0⟩,
  ⟨(some 20), (Op.binOp BinOp.gtr 3 (Operand.tmp 18) (Operand.tmp 19) 3), none, ann0⟩,
  ⟨(some 21), (Op.move (Operand.tmp 20)), none, ann0⟩,
  ⟨(some 22), (Op.move (Operand.tmp 3)), (some (21, true)), ann0⟩,
  ⟨(some 23), (Op.move (Operand.tmp 0)), (some (21, true)), ann0⟩,
  ⟨(some 24), (Op.move (Operand.tmp 9)), (some (21, true)), ann0⟩,
  ⟨(some 25), (Op.indexAddr 23 (Operand.tmp 23) (Operand.tmp 24)), (some (21, true)), ann0⟩,
  ⟨(some 26), (Op.load 33 (Operand.tmp 25)), (some (21, true)), ann0⟩,
  ⟨(some 27), (Op.move (Operand.tmp 0)), (some (21, true)), ann0⟩,
  ⟨(some 28), (Op.move (Operand.tmp 9)), (some (21, true)), ann0⟩,
  ⟨(some 29), (Op.binOp BinOp.sub 3 (Operand.tmp 28) (Operand.const (Value.int IntKind.i64 1)) 3), (some (21, true)), ann0⟩,
  ⟨(some 30), (Op.indexAddr 23 (Operand.tmp 27) (Operand.tmp 29)), (some (21, true)), ann0⟩,
  ⟨(some 31), (Op.load 33 (Operand.tmp 30)), (some (21, true)), ann0⟩,
  ⟨(some 32), (Op.call { callee := (Callee.value (Operand.tmp 22)), args := #[(Operand.tmp 26), (Operand.tmp 31)], argTypes := #[33, 33] }), (some (21, true)), ann0⟩,
  ⟨(some 33), (Op.binOp BinOp.lss 3 (Operand.tmp 32) (Operand.const (Value.int IntKind.i64 0)) 3), (some (21, true)), ann0⟩,
  ⟨(some 34), (Op.pick (Operand.tmp 21) (Operand.tmp 33) (Operand.const (Value.bool false))), none, ann0⟩] (some [0, 0, 3, 7, 15, 15, 15, 111, 239, 15, 15, 1039, 3599, 7695, 16383, 32767, 65535])) (.tidy [0, 1, 2, 3, 8, 9, 34] z (z + 0)))
 (.cond (Operand.tmp 34) .skip
 (.exit 2))) (.tidy [0, 1, 2, 3, 8, 9] z (z + 0)))
 (.seq (.post (.block 3 (.reg [⟨(some 37), (Op.move (Operand.tmp 0)), none, ann0⟩,
  ⟨(some 38), (Op.move (Operand.tmp 9)), none, ann0⟩,
  ⟨(some 39), (Op.move (Operand.tmp 0)), none, ann0⟩,
  ⟨(some 40), (Op.move (Operand.tmp 9)), none, ann0⟩,
  ⟨(some 41), (Op.binOp BinOp.sub 3 (Operand.tmp 40) (Operand.const (Value.int IntKind.i64 1)) 3), none, ann0⟩,
  ⟨(some 42), (Op.move (Operand.tmp 0)), none, ann0⟩,
  ⟨(some 43), (Op.move (Operand.tmp 9)), none, ann0⟩,
  ⟨(some 44), (Op.binOp BinOp.sub 3 (Operand.tmp 43) (Operand.const (Value.int IntKind.i64 1)) 3), none, ann0⟩,
  ⟨(some 45), (Op.indexAddr 23 (Operand.tmp 42) (Operand.tmp 44)), none, ann0⟩,
  ⟨(some 46), (Op.load 33 (Operand.tmp 45)), none, ann0⟩,
  ⟨(some 47), (Op.move (Operand.tmp 0)), none, ann0⟩,
  ⟨(some 48), (Op.move (Operand.tmp 9)), none, ann0⟩,
  ⟨(some 49), (Op.indexAddr 23 (Operand.tmp 47) (Operand.tmp 48)), none, ann0⟩,
  ⟨(some 50), (Op.load 33 (Operand.tmp 49)), none, ann0⟩,
  ⟨(some 51), (Op.indexAddr 23 (Operand.tmp 37) (Operand.tmp 38)), none, ann0⟩,
  ⟨none, (Op.store 33 (Operand.tmp 51) (Operand.tmp 46)), none, ann0⟩,
  ⟨(some 52), (Op.indexAddr 23 (Operand.tmp 39) (Operand.tmp 41)), none, ann0⟩,
  ⟨none, (Op.store 33 (Operand.tmp 52) (Operand.tmp 50)), none, ann0⟩] (some [0, 0, 0, 0, 8, 0, 0, 64, 224, 480, 0, 0, 3072, 7168, 16355, 32739, 65535, 131071]))) (.tidy [0, 1, 2, 3, 8, 9] z (z + 0)))
 (.reg [⟨(some 35), (Op.move (Operand.tmp 9)), none, ann0⟩,
  ⟨(some 36), (Op.binOp BinOp.sub 3 (Operand.tmp 35) (Operand.const (Value.int IntKind.i64 1)) 3), none, ann0⟩,
  ⟨(some 9), (Op.assign (Operand.tmp 36)), none, ann0⟩] none))) (.tidy [0, 1, 2, 3, 8, 9] z (z + 0))
def s82_2 (z : Nat) : SC := c82_2 z
theorem e82_2 {C : Pg} {z : Nat} {st : St} {ks : List Fr} {K : Ex → St → Prop} : wpk C (s82_2 z) st ks K ↔ wpk C (c82_2 z) st ks K := Iff.rfl
def c82_1 (z : Nat) : SC := .post (.seq (.post (.seq (.reg [⟨(some 12), (Op.move (Operand.tmp 8)), none, ann0⟩,
  ⟨(some 13), (Op.move (Operand.tmp 2)), none, ann0⟩,
  ⟨(some 14), (Op.binOp BinOp.lss 3 (Operand.tmp 12) (Operand.tmp 13) 3), none, ann0⟩] none)
 (.cond (Operand.tmp 14) .skip
 (.exit 0))) (.tidy [0, 1, 2, 3, 8] z (z + 0)))
 (.seq (.post (.block 1 (.seq (.reg [⟨(some 17), (Op.move (Operand.tmp 8)), none, ann0⟩,
  ⟨(some 9), (Op.assign (Operand.tmp 17)), none, ann0⟩] none)
 (.post (.block 2 (.pre (.tidy [0, 1, 2, 3, 8, 9] z (z + 0)) (.loop (s82_2 z)))) (.tidy [0, 1, 2, 3, 8] z (z + 0))))) (.tidy [0, 1, 2, 3, 8] z (z + 0)))
 (.reg [⟨(some 15), (Op.move (Operand.tmp 8)), none, ann0⟩,
  ⟨(some 16), (Op.binOp BinOp.add 3 (Operand.tmp 15) (Operand.const (Value.int IntKind.i64 1)) 3), none, ann0⟩,
  ⟨(some 8), (Op.assign (Operand.tmp 16)), none, ann0⟩] none))) (.tidy [0, 1, 2, 3, 8] z (z + 0))
def s82_1 (z : Nat) : SC := c82_1 z
theorem e82_1 {C : Pg} {z : Nat} {st : St} {ks : List Fr} {K : Ex → St → Prop} : wpk C (s82_1 z) st ks K ↔ wpk C (c82_1 z) st ks K := Iff.rfl
def s82 (z : Nat) : SFn := ⟨4, 53, [],
 (.seq (.reg [⟨(some 10), (Op.move (Operand.tmp 1)), none, ann0⟩,
  ⟨(some 11), (Op.binOp BinOp.add 3 (Operand.tmp 10) (Operand.const (Value.int IntKind.i64 1)) 3), none, ann0⟩,
  ⟨(some 8), (Op.assign (Operand.tmp 11)), none, ann0⟩] none)
 (.post (.block 0 (.pre (.tidy [0, 1, 2, 3, 8] z (z + 0)) (.loop (s82_1 z)))) (.tidy [] z (z + 0))))⟩
theorem F82 (z : Nat) : FOk Try.prog 82 (s82 z) := by unfold FOk; kernel_rfl
def s90 (z : Nat) : SFn := ⟨1, 19, [(ResultVar.tmp 2)],
 (.seq (.reg [⟨(some 2), (Op.assign (Operand.const (Value.int IntKind.i64 0))), none, ann0⟩] none)
 (.seq (.post (.seq (.reg [⟨(some 3), (Op.move (Operand.tmp 0)), none, ann0⟩,
  ⟨(some 4), (Op.binOp BinOp.geq 92 (Operand.tmp 3) (Operand.const (Value.int IntKind.u32 65536)) 92), none, ann0⟩] none)
 (.cond (Operand.tmp 4) (.seq (.reg [⟨(some 5), (Op.move (Operand.tmp 0)), none, ann0⟩,
  ⟨(some 6), (Op.binOp BinOp.shr 92 (Operand.tmp 5) (Operand.const (Value.int IntKind.u64 16)) 45), none, ann0⟩,
  ⟨(some 0), (Op.assign (Operand.tmp 6)), none, ann0⟩] none)
 (.reg [⟨(some 2), (Op.assign (Operand.const (Value.int IntKind.i64 16))), none, ann0⟩] none))
 .skip)) (.tidy [0, 2] z (z + 0)))
 (.seq (.post (.seq (.reg [⟨(some 7), (Op.move (Operand.tmp 0)), none, ann0⟩,
  ⟨(some 8), (Op.binOp BinOp.geq 92 (Operand.tmp 7) (Operand.const (Value.int IntKind.u32 256)) 92), none, ann0⟩] none)
 (.cond (Operand.tmp 8) (.seq (.reg [⟨(some 9), (Op.move (Operand.tmp 0)), none, ann0⟩,
  ⟨(some 10), (Op.binOp BinOp.shr 92 (Operand.tmp 9) (Operand.const (Value.int IntKind.u64 8)) 45), none, ann0⟩,
  ⟨(some 0), (Op.assign (Operand.tmp 10)), none, ann0⟩] none)
 (.reg [⟨(some 11), (Op.move (Operand.tmp 2)), none, ann0⟩,
  ⟨(some 12), (Op.binOp BinOp.add 3 (Operand.tmp 11) (Operand.const (Value.int IntKind.i64 8)) 3), none, ann0⟩,
  ⟨(some 2), (Op.assign (Operand.tmp 12)), none, ann0⟩] none))
 .skip)) (.tidy [0, 2] z (z + 0)))
 (.seq (.reg [⟨(some 13), (Op.move (Operand.tmp 2)), none, ann0⟩,
  ⟨(some 14), (Op.move (Operand.tmp 0)), none, ann0⟩,
  ⟨(some 15), (Op.convert 92 5 (Operand.tmp 14)), none, ann0⟩,
  ⟨(some 16), (Op.index 9 (Operand.const (Value.string ⟨#[0, 1, 2, 2, 3, 3, 3, 3, 4, 4, 4, 4, 4, 4, 4, 4, 5, 5, 5, 5, 5, 5, 5, 5, 5, 5, 5, 5, 5, 5, 5, 5, 6, 6, 6, 6, 6, 6, 6, 6, 6, 6, 6, 6, 6, 6, 6, 6, 6, 6, 6, 6, 6, 6, 6, 6, 6, 6, 6, 6, 6, 6, 6, 6, 7, 7, 7, 7, 7, 7, 7, 7, 7, 7, 7, 7, 7, 7, 7, 7, 7, 7, 7, 7, 7, 7, 7, 7, 7, 7, 7, 7, 7, 7, 7, 7, 7, 7, 7, 7, 7, 7, 7, 7, 7, 7, 7, 7, 7, 7, 7, 7, 7, 7, 7, 7, 7, 7, 7, 7, 7, 7, 7, 7, 7, 7, 7, 7, 8, 8, 8, 8, 8, 8, 8, 8, 8, 8, 8, 8, 8, 8, 8, 8, 8, 8, 8, 8, 8, 8, 8, 8, 8, 8, 8, 8, 8, 8, 8, 8, 8, 8, 8, 8, 8, 8, 8, 8, 8, 8, 8, 8, 8, 8, 8, 8, 8, 8, 8, 8, 8, 8, 8, 8, 8, 8, 8, 8, 8, 8, 8, 8, 8, 8, 8, 8, 8, 8, 8, 8, 8, 8, 8, 8, 8, 8, 8, 8, 8, 8, 8, 8, 8, 8, 8, 8, 8, 8, 8, 8, 8, 8, 8, 8, 8, 8, 8, 8, 8, 8, 8, 8, 8, 8, 8, 8, 8, 8, 8, 8, 8, 8, 8, 8, 8, 8, 8, 8, 8, 8, 8, 8, 8, 8, 8, 8]⟩)) (Operand.tmp 15)), none, ann0⟩,
  ⟨(some 17), (Op.convert 5 3 (Operand.tmp 16)), none, ann0⟩,
  ⟨(some 18), (Op.binOp BinOp.add 3 (Operand.tmp 13) (Operand.tmp 17) 3), none, ann0⟩,
  ⟨(some 2), (Op.assign (Operand.tmp 18)), none, ann0⟩] none)
 .ret))))⟩
theorem F90 (z : Nat) : FOk Try.prog 90 (s90 z) := by unfold FOk; kernel_rfl
def s91 (z : Nat) : SFn := ⟨1, 25, [(ResultVar.tmp 2)],
 (.seq (.reg [⟨(some 2), (Op.assign (Operand.const (Value.int IntKind.i64 0))), none, ann0⟩] none)
 (.seq (.post (.seq (.reg [⟨(some 3), (Op.move (Operand.tmp 0)), none, ann0⟩,
  ⟨(some 4), (Op.binOp BinOp.geq 94 (Operand.tmp 3) (Operand.const (Value.int IntKind.u64 4294967296)) 94), none, ann0⟩] none)
 (.cond (Operand.tmp 4) (.seq (.reg [⟨(some 5), (Op.move (Operand.tmp 0)), none, ann0⟩,
  ⟨(some 6), (Op.binOp BinOp.shr 94 (Operand.tmp 5) (Operand.const (Value.int IntKind.u64 32)) 45), none, ann0⟩,
  ⟨(some 0), (Op.assign (Operand.tmp 6)), none, ann0⟩] none)
 (.reg [⟨(some 2), (Op.assign (Operand.const (Value.int IntKind.i64 32))), none, ann0⟩] none))
 .skip)) (.tidy [0, 2] z (z + 0)))
 (.seq (.post (.seq (.reg [⟨(some 7), (Op.move (Operand.tmp 0)), none, ann0⟩,
  ⟨(some 8), (Op.binOp BinOp.geq 94 (Operand.tmp 7) (Operand.const (Value.int IntKind.u64 65536)) 94), none, ann0⟩] none)
 (.cond (Operand.tmp 8) (.seq (.reg [⟨(some 9), (Op.move (Operand.tmp 0)), none, ann0⟩,
  ⟨(some 10), (Op.binOp BinOp.shr 94 (Operand.tmp 9) (Operand.const (Value.int IntKind.u64 16)) 45), none, ann0⟩,
  ⟨(some 0), (Op.assign (Operand.tmp 10)), none, ann0⟩] none)
 (.reg [⟨(some 11), (Op.move (Operand.tmp 2)), none, ann0⟩,
  ⟨(some 12), (Op.binOp BinOp.add 3 (Operand.tmp 11) (Operand.const (Value.int IntKind.i64 16)) 3), none, ann0⟩,
  ⟨(some 2), (Op.assign (Operand.tmp 12)), none, ann0⟩] none))
 .skip)) (.tidy [0, 2] z (z + 0)))
 (.seq (.post (.seq (.reg [⟨(some 13), (Op.move (Operand.tmp 0)), none, ann0⟩,
  ⟨(some 14), (Op.binOp BinOp.geq 94 (Operand.tmp 13) (Operand.const (Value.int IntKind.u64 256)) 94), none, ann0⟩] none)
 (.cond (Operand.tmp 14) (.seq (.reg [⟨(some 15), (Op.move (Operand.tmp 0)), none, ann0⟩,
  ⟨(some 16), (Op.binOp BinOp.shr 94 (Operand.tmp 15) (Operand.const (Value.int IntKind.u64 8)) 45), none, ann0⟩,
  ⟨(some 0), (Op.assign (Operand.tmp 16)), none, ann0⟩] none)
 (.reg [⟨(some 17), (Op.move (Operand.tmp 2)), none, ann0⟩,
  ⟨(some 18), (Op.binOp BinOp.add 3 (Operand.tmp 17) (Operand.const (Value.int IntKind.i64 8)) 3), none, ann0⟩,
  ⟨(some 2), (Op.assign (Operand.tmp 18)), none, ann0⟩] none))
 .skip)) (.tidy [0, 2] z (z + 0)))
 (.seq (.reg [⟨(some 19), (Op.move (Operand.tmp 2)), none, ann0⟩,
  ⟨(some 20), (Op.move (Operand.tmp 0)), none, ann0⟩,
  ⟨(some 21), (Op.convert 94 5 (Operand.tmp 20)), none, ann0⟩,
  ⟨(some 22), (Op.index 9 (Operand.const (Value.string ⟨#[0, 1, 2, 2, 3, 3, 3, 3, 4, 4, 4, 4, 4, 4, 4, 4, 5, 5, 5, 5, 5, 5, 5, 5, 5, 5, 5, 5, 5, 5, 5, 5, 6, 6, 6, 6, 6, 6, 6, 6, 6, 6, 6, 6, 6, 6, 6, 6, 6, 6, 6, 6, 6, 6, 6, 6, 6, 6, 6, 6, 6, 6, 6, 6, 7, 7, 7, 7, 7, 7, 7, 7, 7, 7, 7, 7, 7, 7, 7, 7, 7, 7, 7, 7, 7, 7, 7, 7, 7, 7, 7, 7, 7, 7, 7, 7, 7, 7, 7, 7, 7, 7, 7, 7, 7, 7, 7, 7, 7, 7, 7, 7, 7, 7, 7, 7, 7, 7, 7, 7, 7, 7, 7, 7, 7, 7, 7, 7, 8, 8, 8, 8, 8, 8, 8, 8, 8, 8, 8, 8, 8, 8, 8, 8, 8, 8, 8, 8, 8, 8, 8, 8, 8, 8, 8, 8, 8, 8, 8, 8, 8, 8, 8, 8, 8, 8, 8, 8, 8, 8, 8, 8, 8, 8, 8, 8, 8, 8, 8, 8, 8, 8, 8, 8, 8, 8, 8, 8, 8, 8, 8, 8, 8, 8, 8, 8, 8, 8, 8, 8, 8, 8, 8, 8, 8, 8, 8, 8, 8, 8, 8, 8, 8, 8, 8, 8, 8, 8, 8, 8, 8, 8, 8, 8, 8, 8, 8, 8, 8, 8, 8, 8, 8, 8, 8, 8, 8, 8, 8, 8, 8, 8, 8, 8, 8, 8, 8, 8, 8, 8, 8, 8, 8, 8, 8, 8]⟩)) (Operand.tmp 21)), none, ann0⟩,
  ⟨(some 23), (Op.convert 5 3 (Operand.tmp 22)), none, ann0⟩,
  ⟨(some 24), (Op.binOp BinOp.add 3 (Operand.tmp 19) (Operand.tmp 23) 3), none, ann0⟩,
  ⟨(some 2), (Op.assign (Operand.tmp 24)), none, ann0⟩] none)
 .ret)))))⟩
theorem F91 (z : Nat) : FOk Try.prog 91 (s91 z) := by unfold FOk; kernel_rfl
def AL (z : Nat) : List (Nat × SFn) := [(3, s3 z), (4, s4 z), (5, s5 z), (6, s6 z), (7, s7 z), (8, s8 z), (9, s9 z), (10, s10 z), (11, s11 z), (12, s12 z), (13, s13 z), (14, s14 z), (15, s15 z), (16, s16 z), (17, s17 z), (18, s18 z), (19, s19 z), (20, s20 z), (21, s21 z), (22, s22 z), (23, s23 z), (24, s24 z), (25, s25 z), (26, s26 z), (27, s27 z), (28, s28 z), (29, s29 z), (30, s30 z), (31, s31 z), (32, s32 z), (33, s33 z), (34, s34 z), (35, s35 z), (36, s36 z), (37, s37 z), (38, s38 z), (39, s39 z), (40, s40 z), (41, s41 z), (42, s42 z), (43, s43 z), (44, s44 z), (45, s45 z), (46, s46 z), (47, s47 z), (48, s48 z), (49, s49 z), (50, s50 z), (51, s51 z), (52, s52 z), (53, s53 z), (54, s54 z), (55, s55 z), (56, s56 z), (57, s57 z), (58, s58 z), (59, s59 z), (60, s60 z), (61, s61 z), (62, s62 z), (63, s63 z), (64, s64 z), (65, s65 z), (66, s66 z), (67, s67 z), (68, s68 z), (69, s69 z), (70, s70 z), (71, s71 z), (72, s72 z), (73, s73 z), (74, s74 z), (75, s75 z), (76, s76 z), (77, s77 z), (78, s78 z), (79, s79 z), (80, s80 z), (81, s81 z), (82, s82 z), (90, s90 z), (91, s91 z)]
def AA (f : FuncId) (_ : List AV) (obs : List AObj) : Option SFn := getF f (AL obs.length)
theorem AL_ok (z : Nat) : AllF Try.prog (AL z) := by
  simp only [AL, AllF]
  exact ⟨F3 z, F4 z, F5 z, F6 z, F7 z, F8 z, F9 z, F10 z, F11 z, F12 z, F13 z, F14 z, F15 z, F16 z, F17 z, F18 z, F19 z, F20 z, F21 z, F22 z, F23 z, F24 z, F25 z, F26 z, F27 z, F28 z, F29 z, F30 z, F31 z, F32 z, F33 z, F34 z, F35 z, F36 z, F37 z, F38 z, F39 z, F40 z, F41 z, F42 z, F43 z, F44 z, F45 z, F46 z, F47 z, F48 z, F49 z, F50 z, F51 z, F52 z, F53 z, F54 z, F55 z, F56 z, F57 z, F58 z, F59 z, F60 z, F61 z, F62 z, F63 z, F64 z, F65 z, F66 z, F67 z, F68 z, F69 z, F70 z, F71 z, F72 z, F73 z, F74 z, F75 z, F76 z, F77 z, F78 z, F79 z, F80 z, F81 z, F82 z, F90 z, F91 z, trivial⟩
theorem AA_ok (f : FuncId) (xs : List AV) (obs : List AObj) (s : SFn) (h : AA f xs obs = some s) : (Try.prog.funcs[f]?).bind slimFn = some (s.erase Try.prog) := getF_ok (AL_ok _) h
def LL : List (Nat × SLoop) := [(3072, l48_0), (5056, l79_0)]
def LT (k : Nat) : Option SLoop := getLp k LL
theorem LT_ok (k : Nat) (l : SLoop) (h : LT k = some l) : loopS Try.prog k = some (l.erase Try.prog) := getLp_ok (t := LL) (by
  simp only [LL, AllL]
  exact ⟨N48_0, N79_0, trivial⟩) h
theorem L3072 : LT 3072 = some l48_0 := rfl
theorem L5056 : LT 5056 = some l79_0 := rfl
theorem A3 (xs : List AV) (obs : List AObj) : AA 3 xs obs = some (s3 obs.length) := rfl
theorem A4 (xs : List AV) (obs : List AObj) : AA 4 xs obs = some (s4 obs.length) := rfl
theorem A5 (xs : List AV) (obs : List AObj) : AA 5 xs obs = some (s5 obs.length) := rfl
theorem A6 (xs : List AV) (obs : List AObj) : AA 6 xs obs = some (s6 obs.length) := rfl
theorem A7 (xs : List AV) (obs : List AObj) : AA 7 xs obs = some (s7 obs.length) := rfl
theorem A8 (xs : List AV) (obs : List AObj) : AA 8 xs obs = some (s8 obs.length) := rfl
theorem A9 (xs : List AV) (obs : List AObj) : AA 9 xs obs = some (s9 obs.length) := rfl
theorem A10 (xs : List AV) (obs : List AObj) : AA 10 xs obs = some (s10 obs.length) := rfl
theorem A11 (xs : List AV) (obs : List AObj) : AA 11 xs obs = some (s11 obs.length) := rfl
theorem A12 (xs : List AV) (obs : List AObj) : AA 12 xs obs = some (s12 obs.length) := rfl
theorem A13 (xs : List AV) (obs : List AObj) : AA 13 xs obs = some (s13 obs.length) := rfl
theorem A14 (xs : List AV) (obs : List AObj) : AA 14 xs obs = some (s14 obs.length) := rfl
theorem A15 (xs : List AV) (obs : List AObj) : AA 15 xs obs = some (s15 obs.length) := rfl
theorem A16 (xs : List AV) (obs : List AObj) : AA 16 xs obs = some (s16 obs.length) := rfl
theorem A17 (xs : List AV) (obs : List AObj) : AA 17 xs obs = some (s17 obs.length) := rfl
theorem A18 (xs : List AV) (obs : List AObj) : AA 18 xs obs = some (s18 obs.length) := rfl
theorem A19 (xs : List AV) (obs : List AObj) : AA 19 xs obs = some (s19 obs.length) := rfl
theorem A20 (xs : List AV) (obs : List AObj) : AA 20 xs obs = some (s20 obs.length) := rfl
theorem A21 (xs : List AV) (obs : List AObj) : AA 21 xs obs = some (s21 obs.length) := rfl
theorem A22 (xs : List AV) (obs : List AObj) : AA 22 xs obs = some (s22 obs.length) := rfl
theorem A23 (xs : List AV) (obs : List AObj) : AA 23 xs obs = some (s23 obs.length) := rfl
theorem A24 (xs : List AV) (obs : List AObj) : AA 24 xs obs = some (s24 obs.length) := rfl
theorem A25 (xs : List AV) (obs : List AObj) : AA 25 xs obs = some (s25 obs.length) := rfl
theorem A26 (xs : List AV) (obs : List AObj) : AA 26 xs obs = some (s26 obs.length) := rfl
theorem A27 (xs : List AV) (obs : List AObj) : AA 27 xs obs = some (s27 obs.length) := rfl
theorem A28 (xs : List AV) (obs : List AObj) : AA 28 xs obs = some (s28 obs.length) := rfl
theorem A29 (xs : List AV) (obs : List AObj) : AA 29 xs obs = some (s29 obs.length) := rfl
theorem A30 (xs : List AV) (obs : List AObj) : AA 30 xs obs = some (s30 obs.length) := rfl
theorem A31 (xs : List AV) (obs : List AObj) : AA 31 xs obs = some (s31 obs.length) := rfl
theorem A32 (xs : List AV) (obs : List AObj) : AA 32 xs obs = some (s32 obs.length) := rfl
theorem A33 (xs : List AV) (obs : List AObj) : AA 33 xs obs = some (s33 obs.length) := rfl
theorem A34 (xs : List AV) (obs : List AObj) : AA 34 xs obs = some (s34 obs.length) := rfl
theorem A35 (xs : List AV) (obs : List AObj) : AA 35 xs obs = some (s35 obs.length) := rfl
theorem A36 (xs : List AV) (obs : List AObj) : AA 36 xs obs = some (s36 obs.length) := rfl
theorem A37 (xs : List AV) (obs : List AObj) : AA 37 xs obs = some (s37 obs.length) := rfl
theorem A38 (xs : List AV) (obs : List AObj) : AA 38 xs obs = some (s38 obs.length) := rfl
theorem A39 (xs : List AV) (obs : List AObj) : AA 39 xs obs = some (s39 obs.length) := rfl
theorem A40 (xs : List AV) (obs : List AObj) : AA 40 xs obs = some (s40 obs.length) := rfl
theorem A41 (xs : List AV) (obs : List AObj) : AA 41 xs obs = some (s41 obs.length) := rfl
theorem A42 (xs : List AV) (obs : List AObj) : AA 42 xs obs = some (s42 obs.length) := rfl
theorem A43 (xs : List AV) (obs : List AObj) : AA 43 xs obs = some (s43 obs.length) := rfl
theorem A44 (xs : List AV) (obs : List AObj) : AA 44 xs obs = some (s44 obs.length) := rfl
theorem A45 (xs : List AV) (obs : List AObj) : AA 45 xs obs = some (s45 obs.length) := rfl
theorem A46 (xs : List AV) (obs : List AObj) : AA 46 xs obs = some (s46 obs.length) := rfl
theorem A47 (xs : List AV) (obs : List AObj) : AA 47 xs obs = some (s47 obs.length) := rfl
theorem A48 (xs : List AV) (obs : List AObj) : AA 48 xs obs = some (s48 obs.length) := rfl
theorem A49 (xs : List AV) (obs : List AObj) : AA 49 xs obs = some (s49 obs.length) := rfl
theorem A50 (xs : List AV) (obs : List AObj) : AA 50 xs obs = some (s50 obs.length) := rfl
theorem A51 (xs : List AV) (obs : List AObj) : AA 51 xs obs = some (s51 obs.length) := rfl
theorem A52 (xs : List AV) (obs : List AObj) : AA 52 xs obs = some (s52 obs.length) := rfl
theorem A53 (xs : List AV) (obs : List AObj) : AA 53 xs obs = some (s53 obs.length) := rfl
theorem A54 (xs : List AV) (obs : List AObj) : AA 54 xs obs = some (s54 obs.length) := rfl
theorem A55 (xs : List AV) (obs : List AObj) : AA 55 xs obs = some (s55 obs.length) := rfl
theorem A56 (xs : List AV) (obs : List AObj) : AA 56 xs obs = some (s56 obs.length) := rfl
theorem A57 (xs : List AV) (obs : List AObj) : AA 57 xs obs = some (s57 obs.length) := rfl
theorem A58 (xs : List AV) (obs : List AObj) : AA 58 xs obs = some (s58 obs.length) := rfl
theorem A59 (xs : List AV) (obs : List AObj) : AA 59 xs obs = some (s59 obs.length) := rfl
theorem A60 (xs : List AV) (obs : List AObj) : AA 60 xs obs = some (s60 obs.length) := rfl
theorem A61 (xs : List AV) (obs : List AObj) : AA 61 xs obs = some (s61 obs.length) := rfl
theorem A62 (xs : List AV) (obs : List AObj) : AA 62 xs obs = some (s62 obs.length) := rfl
theorem A63 (xs : List AV) (obs : List AObj) : AA 63 xs obs = some (s63 obs.length) := rfl
theorem A64 (xs : List AV) (obs : List AObj) : AA 64 xs obs = some (s64 obs.length) := rfl
theorem A65 (xs : List AV) (obs : List AObj) : AA 65 xs obs = some (s65 obs.length) := rfl
theorem A66 (xs : List AV) (obs : List AObj) : AA 66 xs obs = some (s66 obs.length) := rfl
theorem A67 (xs : List AV) (obs : List AObj) : AA 67 xs obs = some (s67 obs.length) := rfl
theorem A68 (xs : List AV) (obs : List AObj) : AA 68 xs obs = some (s68 obs.length) := rfl
theorem A69 (xs : List AV) (obs : List AObj) : AA 69 xs obs = some (s69 obs.length) := rfl
theorem A70 (xs : List AV) (obs : List AObj) : AA 70 xs obs = some (s70 obs.length) := rfl
theorem A71 (xs : List AV) (obs : List AObj) : AA 71 xs obs = some (s71 obs.length) := rfl
theorem A72 (xs : List AV) (obs : List AObj) : AA 72 xs obs = some (s72 obs.length) := rfl
theorem A73 (xs : List AV) (obs : List AObj) : AA 73 xs obs = some (s73 obs.length) := rfl
theorem A74 (xs : List AV) (obs : List AObj) : AA 74 xs obs = some (s74 obs.length) := rfl
theorem A75 (xs : List AV) (obs : List AObj) : AA 75 xs obs = some (s75 obs.length) := rfl
theorem A76 (xs : List AV) (obs : List AObj) : AA 76 xs obs = some (s76 obs.length) := rfl
theorem A77 (xs : List AV) (obs : List AObj) : AA 77 xs obs = some (s77 obs.length) := rfl
theorem A78 (xs : List AV) (obs : List AObj) : AA 78 xs obs = some (s78 obs.length) := rfl
theorem A79 (xs : List AV) (obs : List AObj) : AA 79 xs obs = some (s79 obs.length) := rfl
theorem A80 (xs : List AV) (obs : List AObj) : AA 80 xs obs = some (s80 obs.length) := rfl
theorem A81 (xs : List AV) (obs : List AObj) : AA 81 xs obs = some (s81 obs.length) := rfl
theorem A82 (xs : List AV) (obs : List AObj) : AA 82 xs obs = some (s82 obs.length) := rfl
theorem A90 (xs : List AV) (obs : List AObj) : AA 90 xs obs = some (s90 obs.length) := rfl
theorem A91 (xs : List AV) (obs : List AObj) : AA 91 xs obs = some (s91 obs.length) := rfl
end Go.Proofs.YtnpppjipbkceeaaV
