/- The table of types and the functions' code, with notes for the interpreter, and the facts that they are the program's: made by a program. -/
import Derived.Test.YtdhbecdlablonaaWb22a
set_option linter.unusedVariables false
namespace Go.Proofs.YtdhbecdlablonaaV
open Go.RowKit

def TT : Tbl := [(3, ⟨.int .i64, 1, 8, [(.d (.int .i64 0))]⟩),
  (4, ⟨.bool, 1, 1, [(.d (.bool false))]⟩),
  (5, ⟨.int .u8, 1, 1, [(.d (.int .u8 0))]⟩),
  (9, ⟨.str, 1, 16, [(.d (.str ⟨#[]⟩))]⟩),
  (22, ⟨.int .u32, 1, 4, [(.d (.int .u32 0))]⟩),
  (25, ⟨.struct [(0, 9, 1), (1, 3, 1)], 2, 24, [(.d (.str ⟨#[]⟩)), (.d (.int .i64 0))]⟩),
  (26, ⟨.slice 25, 1, 24, [(.d .nils)]⟩),
  (28, ⟨.struct [(0, 3, 1), (1, 3, 1), (2, 3, 1), (3, 26, 1)], 4, 48, [(.d (.int .i64 0)), (.d (.int .i64 0)), (.d (.int .i64 0)), (.d .nils)]⟩),
  (29, ⟨.int .i64, 1, 8, [(.d (.int .i64 0))]⟩),
  (36, ⟨.slice 41, 1, 24, [(.d .nils)]⟩),
  (41, ⟨.struct [(0, 5, 1), (1, 5, 1)], 2, 2, [(.d (.int .u8 0)), (.d (.int .u8 0))]⟩),
  (47, ⟨.arr 2 5, 2, 2, [(.d (.int .u8 0)), (.d (.int .u8 0))]⟩),
  (56, ⟨.arr 2 3, 2, 16, [(.d (.int .i64 0)), (.d (.int .i64 0))]⟩),
  (69, ⟨.map 9 3, 1, 8, [.nilm]⟩),
  (74, ⟨.slice 3, 1, 24, [(.d .nils)]⟩),
  (78, ⟨.slice 5, 1, 24, [(.d .nils)]⟩),
  (85, ⟨.int .u64, 1, 8, [(.d (.int .u64 0))]⟩),
  (90, ⟨.int .i64, 1, 8, [(.d (.int .i64 0))]⟩),
  (98, ⟨.int .u64, 1, 8, [(.d (.int .u64 0))]⟩)]
theorem TT_ok : TOk Try.prog TT := by unfold TOk; kernel_rfl
theorem T3 : TT.get 3 = some ⟨.int .i64, 1, 8, [(.d (.int .i64 0))]⟩ := by kernel_rfl
theorem T4 : TT.get 4 = some ⟨.bool, 1, 1, [(.d (.bool false))]⟩ := by kernel_rfl
theorem T5 : TT.get 5 = some ⟨.int .u8, 1, 1, [(.d (.int .u8 0))]⟩ := by kernel_rfl
theorem T9 : TT.get 9 = some ⟨.str, 1, 16, [(.d (.str ⟨#[]⟩))]⟩ := by kernel_rfl
theorem T22 : TT.get 22 = some ⟨.int .u32, 1, 4, [(.d (.int .u32 0))]⟩ := by kernel_rfl
theorem T25 : TT.get 25 = some ⟨.struct [(0, 9, 1), (1, 3, 1)], 2, 24, [(.d (.str ⟨#[]⟩)), (.d (.int .i64 0))]⟩ := by kernel_rfl
theorem T26 : TT.get 26 = some ⟨.slice 25, 1, 24, [(.d .nils)]⟩ := by kernel_rfl
theorem T28 : TT.get 28 = some ⟨.struct [(0, 3, 1), (1, 3, 1), (2, 3, 1), (3, 26, 1)], 4, 48, [(.d (.int .i64 0)), (.d (.int .i64 0)), (.d (.int .i64 0)), (.d .nils)]⟩ := by kernel_rfl
theorem T29 : TT.get 29 = some ⟨.int .i64, 1, 8, [(.d (.int .i64 0))]⟩ := by kernel_rfl
theorem T36 : TT.get 36 = some ⟨.slice 41, 1, 24, [(.d .nils)]⟩ := by kernel_rfl
theorem T41 : TT.get 41 = some ⟨.struct [(0, 5, 1), (1, 5, 1)], 2, 2, [(.d (.int .u8 0)), (.d (.int .u8 0))]⟩ := by kernel_rfl
theorem T47 : TT.get 47 = some ⟨.arr 2 5, 2, 2, [(.d (.int .u8 0)), (.d (.int .u8 0))]⟩ := by kernel_rfl
theorem T56 : TT.get 56 = some ⟨.arr 2 3, 2, 16, [(.d (.int .i64 0)), (.d (.int .i64 0))]⟩ := by kernel_rfl
theorem T69 : TT.get 69 = some ⟨.map 9 3, 1, 8, [.nilm]⟩ := by kernel_rfl
theorem T74 : TT.get 74 = some ⟨.slice 3, 1, 24, [(.d .nils)]⟩ := by kernel_rfl
theorem T78 : TT.get 78 = some ⟨.slice 5, 1, 24, [(.d .nils)]⟩ := by kernel_rfl
theorem T85 : TT.get 85 = some ⟨.int .u64, 1, 8, [(.d (.int .u64 0))]⟩ := by kernel_rfl
theorem T90 : TT.get 90 = some ⟨.int .i64, 1, 8, [(.d (.int .i64 0))]⟩ := by kernel_rfl
theorem T98 : TT.get 98 = some ⟨.int .u64, 1, 8, [(.d (.int .u64 0))]⟩ := by kernel_rfl
def s54 (z : Nat) : SFn := ⟨1, 6, [(ResultVar.tmp 2)],
 (.seq (.reg [⟨(some 2), (Op.assign (Operand.const (Value.bool false))), none, ann0⟩] none)
 (.seq (.reg [⟨(some 3), (Op.move (Operand.tmp 0)), none, ann0⟩,
  ⟨(some 4), (Op.move (Operand.tmp 0)), none, ann0⟩,
  ⟨(some 5), (Op.binOp BinOp.neq 3 (Operand.tmp 3) (Operand.tmp 4) 3), none, ann0⟩,
  ⟨(some 2), (Op.assign (Operand.tmp 5)), none, ann0⟩] none)
 .ret))⟩
theorem F54 (z : Nat) : FOk Try.prog 54 (s54 z) := by unfold FOk; kernel_rfl
def s55 (z : Nat) : SFn := ⟨2, 17, [(ResultVar.tmp 4)],
 (.seq (.reg [⟨(some 2), (Op.box 25 (Operand.tmp 0)), none, ⟨1, false, false⟩⟩,
  ⟨(some 3), (Op.box 25 (Operand.tmp 1)), none, ⟨1, false, false⟩⟩,
  ⟨(some 4), (Op.assign (Operand.const (Value.int IntKind.i64 0))), none, ann0⟩] none)
 (.seq (.reg [⟨(some 5), (Op.fieldAddr 25 (Operand.tmp 3) 1), none, ann0⟩,
  ⟨(some 6), (Op.load 3 (Operand.tmp 5)), none, ann0⟩,
  ⟨(some 7), (Op.fieldAddr 25 (Operand.tmp 2) 1), none, ann0⟩,
  ⟨(some 8), (Op.load 3 (Operand.tmp 7)), none, ann0⟩,
  ⟨(some 9), (Op.call { callee := (Callee.value (Operand.func 43)), args := #[(Operand.tmp 6), (Operand.tmp 8)], argTypes := #[3, 3] }), none, ann0⟩,
  ⟨(some 10), (Op.fieldAddr 25 (Operand.tmp 2) 0), none, ann0⟩,
  ⟨(some 11), (Op.load 9 (Operand.tmp 10)), none, ann0⟩,
  ⟨(some 12), (Op.fieldAddr 25 (Operand.tmp 3) 0), none, ann0⟩,
  ⟨(some 13), (Op.load 9 (Operand.tmp 12)), none, ann0⟩,
  ⟨(some 14), (Op.call { callee := (Callee.value (Operand.func 51)), args := #[(Operand.tmp 11), (Operand.tmp 13)], argTypes := #[9, 9] }), none, ann0⟩,
  ⟨(some 15), (Op.buildSlice 74 2 #[(0, (Operand.tmp 9)), (1, (Operand.tmp 14))]), none, ⟨1, true, false⟩⟩,
  ⟨(some 16), (Op.call { callee := (Callee.value (Operand.func 56)), args := #[(Operand.tmp 15)], argTypes := #[74] }), none, ann0⟩,
  ⟨(some 4), (Op.assign (Operand.tmp 16)), none, ann0⟩] (some [0, 1, 0, 4, 15, 0, 32, 0, 128, 511, 1023, 2047, 4095]))
 .ret))⟩
theorem F55 (z : Nat) : FOk Try.prog 55 (s55 z) := by unfold FOk; kernel_rfl
def c56_1 (z : Nat) : SC := .post (.seq (.reg [⟨(some 9), (Op.binOp BinOp.lss 3 (Operand.tmp 8) (Operand.tmp 7) 3), none, ann0⟩] none)
 (.seq (.cond (Operand.tmp 9) .skip
 (.exit 0))
 (.seq (.post (.block 1 (.seq (.reg [⟨(some 10), (Op.indexAddr 74 (Operand.tmp 6) (Operand.tmp 8)), none, ann0⟩,
  ⟨(some 11), (Op.load 3 (Operand.tmp 10)), none, ann0⟩,
  ⟨(some 5), (Op.assign (Operand.tmp 11)), none, ann0⟩] none)
 (.seq (.reg [⟨(some 12), (Op.move (Operand.tmp 5)), none, ann0⟩,
  ⟨(some 13), (Op.move (Operand.tmp 3)), none, ann0⟩,
  ⟨(some 14), (Op.binOp BinOp.neq 3 (Operand.tmp 12) (Operand.tmp 13) 3), none, ann0⟩] none)
 (.cond (Operand.tmp 14) (.seq (.reg [⟨(some 15), (Op.move (Operand.tmp 5)), none, ann0⟩,
  ⟨(some 2), (Op.assign (Operand.tmp 15)), none, ann0⟩] none)
 .ret)
 .skip)))) (.tidy [3, 6, 7, 8] z (z + 0)))
 (.reg [⟨(some 16), (Op.binOp BinOp.add 3 (Operand.tmp 8) (Operand.const (Value.int IntKind.i64 1)) 3), none, ann0⟩,
  ⟨(some 8), (Op.move (Operand.tmp 16)), none, ann0⟩] none)))) (.tidy [3, 6, 7, 8] z (z + 0))
def s56_1 (z : Nat) : SC := c56_1 z
theorem e56_1 {C : Pg} {z : Nat} {st : St} {ks : List Fr} {K : Ex → St → Prop} : wpk C (s56_1 z) st ks K ↔ wpk C (c56_1 z) st ks K := Iff.rfl
def s56 (z : Nat) : SFn := ⟨1, 18, [(ResultVar.tmp 2)],
 (.seq (.reg [⟨(some 2), (Op.assign (Operand.const (Value.int IntKind.i64 0))), none, ann0⟩] none)
 (.seq (.reg [⟨(some 3), (Op.assign (Operand.const (Value.int IntKind.i64 0))), none, ann0⟩] none)
 (.seq (.post (.seq (.reg [⟨(some 6), (Op.move (Operand.tmp 0)), none, ann0⟩,
  ⟨(some 7), (Op.call { callee := (Callee.builtin Builtin.len), args := #[(Operand.tmp 6)], argTypes := #[74] }), none, ann0⟩,
  ⟨(some 8), (Op.move (Operand.const (Value.int IntKind.i64 0))), none, ann0⟩] none)
 (.post (.block 0 (.pre (.tidy [3, 6, 7, 8] z (z + 0)) (.loop (s56_1 z)))) (.tidy [3] z (z + 0)))) (.tidy [3] z (z + 0)))
 (.seq (.reg [⟨(some 17), (Op.move (Operand.tmp 3)), none, ann0⟩,
  ⟨(some 2), (Op.assign (Operand.tmp 17)), none, ann0⟩] none)
 .ret))))⟩
theorem F56 (z : Nat) : FOk Try.prog 56 (s56 z) := by unfold FOk; kernel_rfl
def c57_1 (z : Nat) : SC := .post (.block 1 (.seq (.reg [⟨(some 21), (Op.move (Operand.tmp 2)), none, ann0⟩,
  ⟨(some 22), (Op.move (Operand.tmp 1)), none, ann0⟩,
  ⟨(some 23), (Op.binOp BinOp.sub 3 (Operand.tmp 21) (Operand.tmp 22) 3), none, ann0⟩,
  ⟨(some 12), (Op.assign (Operand.tmp 23)), none, ann0⟩] none)
 (.seq (.post (.seq (.reg [⟨(some 24), (Op.move (Operand.tmp 12)), none, ann0⟩,
  ⟨(some 25), (Op.binOp BinOp.leq 3 (Operand.tmp 24) (Operand.const (Value.int IntKind.i64 12)) 3), none, ann0⟩] none)
 (.cond (Operand.tmp 25) (.seq (.reg [⟨(some 26), (Op.move (Operand.tmp 0)), none, ann0⟩,
  ⟨(some 27), (Op.move (Operand.tmp 1)), none, ann0⟩,
  ⟨(some 28), (Op.move (Operand.tmp 2)), none, ann0⟩,
  ⟨(some 29), (Op.move (Operand.tmp 4)), none, ann0⟩,
  ⟨(some 30), (Op.call { callee := (Callee.value (Operand.func 69)), args := #[(Operand.tmp 26), (Operand.tmp 27), (Operand.tmp 28), (Operand.tmp 29)], argTypes := #[26, 3, 3, 82] }), none, ann0⟩] none)
 .ret)
 .skip)) (.tidy [0, 1, 2, 3, 4, 10, 11, 12] z (z + 0)))
 (.seq (.post (.seq (.reg [⟨(some 31), (Op.move (Operand.tmp 3)), none, ann0⟩,
  ⟨(some 32), (Op.binOp BinOp.eql 3 (Operand.tmp 31) (Operand.const (Value.int IntKind.i64 0)) 3), none, ann0⟩] none)
 (.cond (Operand.tmp 32) (.seq (.reg [⟨(some 33), (Op.move (Operand.tmp 0)), none, ann0⟩,
  ⟨(some 34), (Op.move (Operand.tmp 1)), none, ann0⟩,
  ⟨(some 35), (Op.move (Operand.tmp 2)), none, ann0⟩,
  ⟨(some 36), (Op.move (Operand.tmp 4)), none, ann0⟩,
  ⟨(some 37), (Op.call { callee := (Callee.value (Operand.func 70)), args := #[(Operand.tmp 33), (Operand.tmp 34), (Operand.tmp 35), (Operand.tmp 36)], argTypes := #[26, 3, 3, 82] }), none, ann0⟩] none)
 .ret)
 .skip)) (.tidy [0, 1, 2, 3, 4, 10, 11, 12] z (z + 0)))
 (.seq (.post (.seq (.reg [⟨(some 38), (Op.move (Operand.tmp 10)), none, ann0⟩,
  ⟨(some 39), (Op.unOp UnOp.not 4 (Operand.tmp 38)), none, ann0⟩] none)
 (.cond (Operand.tmp 39) (.seq (.post (.reg [⟨(some 40), (Op.move (Operand.tmp 0)), none, ann0⟩,
  ⟨(some 41), (Op.move (Operand.tmp 1)), none, ann0⟩,
  ⟨(some 42), (Op.move (Operand.tmp 2)), none, ann0⟩,
  ⟨(some 43), (Op.move (Operand.tmp 4)), none, ann0⟩,
  ⟨(some 44), (Op.call { callee := (Callee.value (Operand.func 71)), args := #[(Operand.tmp 40), (Operand.tmp 41), (Operand.tmp 42), (Operand.tmp 43)], argTypes := #[26, 3, 3, 82] }), none, ann0⟩] none) (.tidy [0, 1, 2, 3, 4, 10, 11, 12] z (z + 0)))
 (.reg [⟨(some 45), (Op.move (Operand.tmp 3)), none, ann0⟩,
  ⟨(some 46), (Op.binOp BinOp.sub 3 (Operand.tmp 45) (Operand.const (Value.int IntKind.i64 1)) 3), none, ann0⟩,
  ⟨(some 3), (Op.assign (Operand.tmp 46)), none, ann0⟩] none))
 .skip)) (.tidy [0, 1, 2, 3, 4, 10, 11, 12] z (z + 0)))
 (.seq (.post (.reg [⟨(some 48), (Op.move (Operand.tmp 0)), none, ann0⟩,
  ⟨(some 49), (Op.move (Operand.tmp 1)), none, ann0⟩,
  ⟨(some 50), (Op.move (Operand.tmp 2)), none, ann0⟩,
  ⟨(some 51), (Op.move (Operand.tmp 4)), none, ann0⟩,
  ⟨(some 52), (Op.call { callee := (Callee.value (Operand.func 72)), args := #[(Operand.tmp 48), (Operand.tmp 49), (Operand.tmp 50), (Operand.tmp 51)], argTypes := #[26, 3, 3, 82] }), none, ann0⟩,
  ⟨(some 47), (Op.move (Operand.tmp 52)), none, ann0⟩,
  ⟨(some 53), (Op.extract (Operand.tmp 47) 0), none, ann0⟩,
  ⟨(some 54), (Op.extract (Operand.tmp 47) 1), none, ann0⟩,
  ⟨(some 13), (Op.assign (Operand.tmp 53)), none, ann0⟩,
  ⟨(some 14), (Op.assign (Operand.tmp 54)), none, ann0⟩] none) (.tidy [0, 1, 2, 3, 4, 10, 11, 12, 13, 14] z (z + 0)))
 (.seq (.post (.seq (.reg [⟨(some 55), (Op.move (Operand.tmp 14)), none, ann0⟩,
  ⟨(some 56), (Op.binOp BinOp.eql 90 (Operand.tmp 55) (Operand.const (Value.int IntKind.i64 2)) 90), none, ann0⟩] none)
 (.cond (Operand.tmp 56) (.seq (.post (.reg [⟨(some 57), (Op.move (Operand.tmp 0)), none, ann0⟩,
  ⟨(some 58), (Op.move (Operand.tmp 1)), none, ann0⟩,
  ⟨(some 59), (Op.move (Operand.tmp 2)), none, ann0⟩,
  ⟨(some 60), (Op.move (Operand.tmp 4)), none, ann0⟩,
  ⟨(some 61), (Op.call { callee := (Callee.value (Operand.func 73)), args := #[(Operand.tmp 57), (Operand.tmp 58), (Operand.tmp 59), (Operand.tmp 60)], argTypes := #[26, 3, 3, 82] }), none, ann0⟩] none) (.tidy [0, 1, 2, 3, 4, 10, 11, 12, 13] z (z + 0)))
 (.seq (.post (.reg [⟨(some 62), (Op.move (Operand.tmp 2)), none, ann0⟩,
  ⟨(some 63), (Op.binOp BinOp.sub 3 (Operand.tmp 62) (Operand.const (Value.int IntKind.i64 1)) 3), none, ann0⟩,
  ⟨(some 64), (Op.move (Operand.tmp 13)), none, ann0⟩,
  ⟨(some 65), (Op.move (Operand.tmp 1)), none, ann0⟩,
  ⟨(some 66), (Op.binOp BinOp.sub 3 (Operand.tmp 64) (Operand.tmp 65) 3), none, ann0⟩,
  ⟨(some 67), (Op.binOp BinOp.sub 3 (Operand.tmp 63) (Operand.tmp 66) 3), none, ann0⟩,
  ⟨(some 13), (Op.assign (Operand.tmp 67)), none, ann0⟩] none) (.tidy [0, 1, 2, 3, 4, 10, 11, 12, 13] z (z + 0)))
 (.reg [⟨(some 14), (Op.assign (Operand.const (Value.int IntKind.i64 1))), none, ann0⟩] none)))
 .skip)) (.tidy [0, 1, 2, 3, 4, 10, 11, 12, 13, 14] z (z + 0)))
 (.seq (.post (.seq (.post (.reg [⟨(some 68), (Op.move (Operand.tmp 10)), none, ann0⟩,
  ⟨(some 69), (Op.move (Operand.tmp 68)), none, ann0⟩,
  ⟨(some 70), (Op.move (Operand.tmp 11)), (some (69, true)), ann0⟩,
  ⟨(some 71), (Op.pick (Operand.tmp 69) (Operand.tmp 70) (Operand.const (Value.bool false))), none, ann0⟩,
  ⟨(some 72), (Op.move (Operand.tmp 71)), none, ann0⟩,
  ⟨(some 73), (Op.move (Operand.tmp 14)), (some (72, true)), ann0⟩,
  ⟨(some 74), (Op.binOp BinOp.eql 90 (Operand.tmp 73) (Operand.const (Value.int IntKind.i64 1)) 90), (some (72, true)), ann0⟩,
  ⟨(some 75), (Op.pick (Operand.tmp 72) (Operand.tmp 74) (Operand.const (Value.bool false))), none, ann0⟩] none) (.tidy [0, 1, 2, 3, 4, 10, 11, 12, 13, 75] z (z + 0)))
 (.cond (Operand.tmp 75) (.seq (.reg [⟨(some 76), (Op.move (Operand.tmp 0)), none, ann0⟩,
  ⟨(some 77), (Op.move (Operand.tmp 1)), none, ann0⟩,
  ⟨(some 78), (Op.move (Operand.tmp 2)), none, ann0⟩,
  ⟨(some 79), (Op.move (Operand.tmp 4)), none, ann0⟩,
  ⟨(some 80), (Op.call { callee := (Callee.value (Operand.func 74)), args := #[(Operand.tmp 76), (Operand.tmp 77), (Operand.tmp 78), (Operand.tmp 79)], argTypes := #[26, 3, 3, 82] }), none, ann0⟩] none)
 (.cond (Operand.tmp 80) .ret
 .skip))
 .skip)) (.tidy [0, 1, 2, 3, 4, 10, 11, 12, 13] z (z + 0)))
 (.seq (.post (.seq (.post (.reg [⟨(some 81), (Op.move (Operand.tmp 1)), none, ann0⟩,
  ⟨(some 82), (Op.binOp BinOp.gtr 3 (Operand.tmp 81) (Operand.const (Value.int IntKind.i64 0)) 3), none, ann0⟩,
  ⟨(some 83), (Op.move (Operand.tmp 82)), none, ann0⟩,
  ⟨(some 84), (Op.move (Operand.tmp 4)), (some (83, true)), ann0⟩,
  ⟨(some 85), (Op.move (Operand.tmp 0)), (some (83, true)), ann0⟩,
  ⟨(some 86), (Op.move (Operand.tmp 1)), (some (83, true)), ann0⟩,
  ⟨(some 87), (Op.binOp BinOp.sub 3 (Operand.tmp 86) (Operand.const (Value.int IntKind.i64 1)) 3), (some (83, true)), ann0⟩,
  ⟨(some 88), (Op.indexAddr 26 (Operand.tmp 85) (Operand.tmp 87)), (some (83, true)), ann0⟩,
  ⟨(some 89), (Op.load 25 (Operand.tmp 88)), (some (83, true)), ann0⟩,
  ⟨(some 90), (Op.move (Operand.tmp 0)), (some (83, true)), ann0⟩,
  ⟨(some 91), (Op.move (Operand.tmp 13)), (some (83, true)), ann0⟩,
  ⟨(some 92), (Op.indexAddr 26 (Operand.tmp 90) (Operand.tmp 91)), (some (83, true)), ann0⟩,
  ⟨(some 93), (Op.load 25 (Operand.tmp 92)), (some (83, true)), ann0⟩,
  ⟨(some 94), (Op.call { callee := (Callee.value (Operand.tmp 84)), args := #[(Operand.tmp 89), (Operand.tmp 93)], argTypes := #[25, 25] }), (some (83, true)), ann0⟩,
  ⟨(some 95), (Op.binOp BinOp.lss 3 (Operand.tmp 94) (Operand.const (Value.int IntKind.i64 0)) 3), (some (83, true)), ann0⟩,
  ⟨(some 96), (Op.unOp UnOp.not 4 (Operand.tmp 95)), (some (83, true)), ann0⟩,
  ⟨(some 97), (Op.pick (Operand.tmp 83) (Operand.tmp 96) (Operand.const (Value.bool false))), none, ann0⟩] (some [0, 1, 3, 7, 7, 7, 39, 119, 247, 7, 7, 1543, 3591, 8191, 16383, 32767, 65535])) (.tidy [0, 1, 2, 3, 4, 10, 11, 12, 13, 97] z (z + 0)))
 (.cond (Operand.tmp 97) (.seq (.post (.reg [⟨(some 98), (Op.move (Operand.tmp 0)), none, ann0⟩,
  ⟨(some 99), (Op.move (Operand.tmp 1)), none, ann0⟩,
  ⟨(some 100), (Op.move (Operand.tmp 2)), none, ann0⟩,
  ⟨(some 101), (Op.move (Operand.tmp 13)), none, ann0⟩,
  ⟨(some 102), (Op.move (Operand.tmp 4)), none, ann0⟩,
  ⟨(some 103), (Op.call { callee := (Callee.value (Operand.func 75)), args := #[(Operand.tmp 98), (Operand.tmp 99), (Operand.tmp 100), (Operand.tmp 101), (Operand.tmp 102)], argTypes := #[26, 3, 3, 3, 82] }), none, ann0⟩,
  ⟨(some 15), (Op.assign (Operand.tmp 103)), none, ann0⟩] none) (.tidy [0, 2, 3, 4, 10, 11, 15] z (z + 0)))
 (.seq (.reg [⟨(some 104), (Op.move (Operand.tmp 15)), none, ann0⟩,
  ⟨(some 1), (Op.assign (Operand.tmp 104)), none, ann0⟩] none)
 (.exit 1)))
 .skip)) (.tidy [0, 1, 2, 3, 4, 12, 13] z (z + 0)))
 (.seq (.post (.reg [⟨(some 106), (Op.move (Operand.tmp 0)), none, ann0⟩,
  ⟨(some 107), (Op.move (Operand.tmp 1)), none, ann0⟩,
  ⟨(some 108), (Op.move (Operand.tmp 2)), none, ann0⟩,
  ⟨(some 109), (Op.move (Operand.tmp 13)), none, ann0⟩,
  ⟨(some 110), (Op.move (Operand.tmp 4)), none, ann0⟩,
  ⟨(some 111), (Op.call { callee := (Callee.value (Operand.func 76)), args := #[(Operand.tmp 106), (Operand.tmp 107), (Operand.tmp 108), (Operand.tmp 109), (Operand.tmp 110)], argTypes := #[26, 3, 3, 3, 82] }), none, ann0⟩,
  ⟨(some 105), (Op.move (Operand.tmp 111)), none, ann0⟩,
  ⟨(some 112), (Op.extract (Operand.tmp 105) 0), none, ann0⟩,
  ⟨(some 113), (Op.extract (Operand.tmp 105) 1), none, ann0⟩,
  ⟨(some 16), (Op.assign (Operand.tmp 112)), none, ann0⟩,
  ⟨(some 17), (Op.assign (Operand.tmp 113)), none, ann0⟩] none) (.tidy [0, 1, 2, 3, 4, 12, 16, 17] z (z + 0)))
 (.seq (.reg [⟨(some 114), (Op.move (Operand.tmp 17)), none, ann0⟩,
  ⟨(some 11), (Op.assign (Operand.tmp 114)), none, ann0⟩] none)
 (.seq (.post (.reg [⟨(some 115), (Op.move (Operand.tmp 16)), none, ann0⟩,
  ⟨(some 116), (Op.move (Operand.tmp 1)), none, ann0⟩,
  ⟨(some 117), (Op.binOp BinOp.sub 3 (Operand.tmp 115) (Operand.tmp 116) 3), none, ann0⟩,
  ⟨(some 118), (Op.move (Operand.tmp 2)), none, ann0⟩,
  ⟨(some 119), (Op.move (Operand.tmp 16)), none, ann0⟩,
  ⟨(some 120), (Op.binOp BinOp.sub 3 (Operand.tmp 118) (Operand.tmp 119) 3), none, ann0⟩,
  ⟨(some 18), (Op.assign (Operand.tmp 117)), none, ann0⟩,
  ⟨(some 19), (Op.assign (Operand.tmp 120)), none, ann0⟩] none) (.tidy [0, 1, 2, 3, 4, 11, 12, 16, 18, 19] z (z + 0)))
 (.seq (.reg [⟨(some 121), (Op.move (Operand.tmp 12)), none, ann0⟩,
  ⟨(some 122), (Op.binOp BinOp.quo 3 (Operand.tmp 121) (Operand.const (Value.int IntKind.i64 8)) 3), none, ann0⟩,
  ⟨(some 20), (Op.assign (Operand.tmp 122)), none, ann0⟩] none)
 (.seq (.reg [⟨(some 123), (Op.move (Operand.tmp 18)), none, ann0⟩,
  ⟨(some 124), (Op.move (Operand.tmp 19)), none, ann0⟩,
  ⟨(some 125), (Op.binOp BinOp.lss 3 (Operand.tmp 123) (Operand.tmp 124) 3), none, ann0⟩] none)
 (.cond (Operand.tmp 125) (.seq (.post (.reg [⟨(some 126), (Op.move (Operand.tmp 18)), none, ann0⟩,
  ⟨(some 127), (Op.move (Operand.tmp 20)), none, ann0⟩,
  ⟨(some 128), (Op.binOp BinOp.geq 3 (Operand.tmp 126) (Operand.tmp 127) 3), none, ann0⟩,
  ⟨(some 10), (Op.assign (Operand.tmp 128)), none, ann0⟩] none) (.tidy [0, 1, 2, 3, 4, 10, 11, 16] z (z + 0)))
 (.seq (.post (.reg [⟨(some 129), (Op.move (Operand.tmp 0)), none, ann0⟩,
  ⟨(some 130), (Op.move (Operand.tmp 1)), none, ann0⟩,
  ⟨(some 131), (Op.move (Operand.tmp 16)), none, ann0⟩,
  ⟨(some 132), (Op.move (Operand.tmp 3)), none, ann0⟩,
  ⟨(some 133), (Op.move (Operand.tmp 4)), none, ann0⟩,
  ⟨(some 134), (Op.call { callee := (Callee.value (Operand.func 57)), args := #[(Operand.tmp 129), (Operand.tmp 130), (Operand.tmp 131), (Operand.tmp 132), (Operand.tmp 133)], argTypes := #[26, 3, 3, 3, 82] }), none, ann0⟩] none) (.tidy [0, 2, 3, 4, 10, 11, 16] z (z + 0)))
 (.reg [⟨(some 135), (Op.move (Operand.tmp 16)), none, ann0⟩,
  ⟨(some 136), (Op.binOp BinOp.add 3 (Operand.tmp 135) (Operand.const (Value.int IntKind.i64 1)) 3), none, ann0⟩,
  ⟨(some 1), (Op.assign (Operand.tmp 136)), none, ann0⟩] none)))
 (.seq (.reg [⟨(some 137), (Op.move (Operand.tmp 19)), none, ann0⟩,
  ⟨(some 138), (Op.move (Operand.tmp 20)), none, ann0⟩,
  ⟨(some 139), (Op.binOp BinOp.geq 3 (Operand.tmp 137) (Operand.tmp 138) 3), none, ann0⟩,
  ⟨(some 10), (Op.assign (Operand.tmp 139)), none, ann0⟩] none)
 (.seq (.post (.reg [⟨(some 140), (Op.move (Operand.tmp 0)), none, ann0⟩,
  ⟨(some 141), (Op.move (Operand.tmp 16)), none, ann0⟩,
  ⟨(some 142), (Op.binOp BinOp.add 3 (Operand.tmp 141) (Operand.const (Value.int IntKind.i64 1)) 3), none, ann0⟩,
  ⟨(some 143), (Op.move (Operand.tmp 2)), none, ann0⟩,
  ⟨(some 144), (Op.move (Operand.tmp 3)), none, ann0⟩,
  ⟨(some 145), (Op.move (Operand.tmp 4)), none, ann0⟩,
  ⟨(some 146), (Op.call { callee := (Callee.value (Operand.func 57)), args := #[(Operand.tmp 140), (Operand.tmp 142), (Operand.tmp 143), (Operand.tmp 144), (Operand.tmp 145)], argTypes := #[26, 3, 3, 3, 82] }), none, ann0⟩] none) (.tidy [0, 1, 3, 4, 10, 11, 16] z (z + 0)))
 (.reg [⟨(some 147), (Op.move (Operand.tmp 16)), none, ann0⟩,
  ⟨(some 2), (Op.assign (Operand.tmp 147)), none, ann0⟩] none)))))))))))))))))) (.tidy [0, 1, 2, 3, 4, 10, 11] z (z + 0))
def s57_1 (z : Nat) : SC := c57_1 z
theorem e57_1 {C : Pg} {z : Nat} {st : St} {ks : List Fr} {K : Ex → St → Prop} : wpk C (s57_1 z) st ks K ↔ wpk C (c57_1 z) st ks K := Iff.rfl
def s57 (z : Nat) : SFn := ⟨5, 148, [],
 (.seq (.reg [⟨(some 10), (Op.assign (Operand.const (Value.bool true))), none, ann0⟩] none)
 (.seq (.reg [⟨(some 11), (Op.assign (Operand.const (Value.bool true))), none, ann0⟩] none)
 (.post (.block 0 (.pre (.tidy [0, 1, 2, 3, 4, 10, 11] z (z + 0)) (.loop (s57_1 z)))) (.tidy [] z (z + 0)))))⟩
theorem F57 (z : Nat) : FOk Try.prog 57 (s57 z) := by unfold FOk; kernel_rfl
def s58 (z : Nat) : SFn := ⟨1, 6, [(ResultVar.tmp 2)],
 (.seq (.reg [⟨(some 2), (Op.assign (Operand.const (Value.bool false))), none, ann0⟩] none)
 (.seq (.reg [⟨(some 3), (Op.move (Operand.tmp 0)), none, ann0⟩,
  ⟨(some 4), (Op.move (Operand.tmp 0)), none, ann0⟩,
  ⟨(some 5), (Op.binOp BinOp.neq 9 (Operand.tmp 3) (Operand.tmp 4) 9), none, ann0⟩,
  ⟨(some 2), (Op.assign (Operand.tmp 5)), none, ann0⟩] none)
 .ret))⟩
theorem F58 (z : Nat) : FOk Try.prog 58 (s58 z) := by unfold FOk; kernel_rfl
def c59_2 (z : Nat) : SC := .post (.seq (.post (.seq (.post (.reg [⟨(some 18), (Op.move (Operand.tmp 9)), none, ann0⟩,
  ⟨(some 19), (Op.move (Operand.tmp 1)), none, ann0⟩,
  ⟨(some 20), (Op.binOp BinOp.gtr 3 (Operand.tmp 18) (Operand.tmp 19) 3), none, ann0⟩,
  ⟨(some 21), (Op.move (Operand.tmp 20)), none, ann0⟩,
  ⟨(some 22), (Op.move (Operand.tmp 3)), (some (21, true)), ann0⟩,
  ⟨(some 23), (Op.move (Operand.tmp 0)), (some (21, true)), ann0⟩,
  ⟨(some 24), (Op.move (Operand.tmp 9)), (some (21, true)), ann0⟩,
  ⟨(some 25), (Op.indexAddr 74 (Operand.tmp 23) (Operand.tmp 24)), (some (21, true)), ann0⟩,
  ⟨(some 26), (Op.load 3 (Operand.tmp 25)), (some (21, true)), ann0⟩,
  ⟨(some 27), (Op.move (Operand.tmp 0)), (some (21, true)), ann0⟩,
  ⟨(some 28), (Op.move (Operand.tmp 9)), (some (21, true)), ann0⟩,
  ⟨(some 29), (Op.binOp BinOp.sub 3 (Operand.tmp 28) (Operand.const (Value.int IntKind.i64 1)) 3), (some (21, true)), ann0⟩,
  ⟨(some 30), (Op.indexAddr 74 (Operand.tmp 27) (Operand.tmp 29)), (some (21, true)), ann0⟩,
  ⟨(some 31), (Op.load 3 (Operand.tmp 30)), (some (21, true)), ann0⟩,
  ⟨(some 32), (Op.call { callee := (Callee.value (Operand.tmp 22)), args := #[(Operand.tmp 26), (Operand.tmp 31)], argTypes := #[3, 3] }), (some (21, true)), ann0⟩,
  ⟨(some 33), (Op.binOp BinOp.lss 3 (Operand.tmp 32) (Operand.const (Value.int IntKind.i64 0)) 3), (some (21, true)), ann0⟩,
  ⟨(some 34), (Op.pick (Operand.tmp 21) (Operand.tmp 33) (Operand.const (Value.bool false))), none, ann0⟩] (some [0, 0, 3, 7, 15, 15, 15, 111, 239, 15, 15, 1039, 3599, 7695, 16383, 32767, 65535])) (.tidy [0, 1, 2, 3, 8, 9, 34] z (z + 0)))
 (.cond (Operand.tmp 34) .skip
 (.exit 2))) (.tidy [0, 1, 2, 3, 8, 9] z (z + 0)))
 (.seq (.post (.block 3 (.reg [⟨(some 37), (Op.move (Operand.tmp 0)), none, ann0⟩,
  ⟨(some 38), (Op.move (Operand.tmp 9)), none, ann0⟩,
  ⟨(some 39), (Op.move (Operand.tmp 0)), none, ann0⟩,
  ⟨(some 40), (Op.move (Operand.tmp 9)), none, ann0⟩,
  ⟨(some 41), (Op.binOp BinOp.sub 3 (Operand.tmp 40) (Operand.const (Value.int IntKind.i64 1)) 3), none, ann0⟩,
  ⟨(some 42), (Op.move (Operand.tmp 0)), none, ann0⟩,
  ⟨(some 43), (Op.move (Operand.tmp 9)), none, ann0⟩,
  ⟨(some 44), (Op.binOp BinOp.sub 3 (Operand.tmp 43) (Operand.const (Value.int IntKind.i64 1)) 3), none, ann0⟩,
  ⟨(some 45), (Op.indexAddr 74 (Operand.tmp 42) (Operand.tmp 44)), none, ann0⟩,
  ⟨(some 46), (Op.load 3 (Operand.tmp 45)), none, ann0⟩,
  ⟨(some 47), (Op.move (Operand.tmp 0)), none, ann0⟩,
  ⟨(some 48), (Op.move (Operand.tmp 9)), none, ann0⟩,
  ⟨(some 49), (Op.indexAddr 74 (Operand.tmp 47) (Operand.tmp 48)), none, ann0⟩,
  ⟨(some 50), (Op.load 3 (Operand.tmp 49)), none, ann0⟩,
  ⟨(some 51), (Op.indexAddr 74 (Operand.tmp 37) (Operand.tmp 38)), none, ann0⟩,
  ⟨none, (Op.store 3 (Operand.tmp 51) (Operand.tmp 46)), none, ann0⟩,
  ⟨(some 52), (Op.indexAddr 74 (Operand.tmp 39) (Operand.tmp 41)), none, ann0⟩,
  ⟨none, (Op.store 3 (Operand.tmp 52) (Operand.tmp 50)), none, ann0⟩] (some [0, 0, 0, 0, 8, 0, 0, 64, 224, 480, 0, 0, 3072, 7168, 16355, 32739, 65535, 131071]))) (.tidy [0, 1, 2, 3, 8, 9] z (z + 0)))
 (.reg [⟨(some 35), (Op.move (Operand.tmp 9)), none, ann0⟩,
  ⟨(some 36), (Op.binOp BinOp.sub 3 (Operand.tmp 35) (Operand.const (Value.int IntKind.i64 1)) 3), none, ann0⟩,
  ⟨(some 9), (Op.assign (Operand.tmp 36)), none, ann0⟩] none))) (.tidy [0, 1, 2, 3, 8, 9] z (z + 0))
def s59_2 (z : Nat) : SC := c59_2 z
theorem e59_2 {C : Pg} {z : Nat} {st : St} {ks : List Fr} {K : Ex → St → Prop} : wpk C (s59_2 z) st ks K ↔ wpk C (c59_2 z) st ks K := Iff.rfl
def c59_1 (z : Nat) : SC := .post (.seq (.post (.seq (.reg [⟨(some 12), (Op.move (Operand.tmp 8)), none, ann0⟩,
  ⟨(some 13), (Op.move (Operand.tmp 2)), none, ann0⟩,
  ⟨(some 14), (Op.binOp BinOp.lss 3 (Operand.tmp 12) (Operand.tmp 13) 3), none, ann0⟩] none)
 (.cond (Operand.tmp 14) .skip
 (.exit 0))) (.tidy [0, 1, 2, 3, 8] z (z + 0)))
 (.seq (.post (.block 1 (.seq (.reg [⟨(some 17), (Op.move (Operand.tmp 8)), none, ann0⟩,
  ⟨(some 9), (Op.assign (Operand.tmp 17)), none, ann0⟩] none)
 (.post (.block 2 (.pre (.tidy [0, 1, 2, 3, 8, 9] z (z + 0)) (.loop (s59_2 z)))) (.tidy [0, 1, 2, 3, 8] z (z + 0))))) (.tidy [0, 1, 2, 3, 8] z (z + 0)))
 (.reg [⟨(some 15), (Op.move (Operand.tmp 8)), none, ann0⟩,
  ⟨(some 16), (Op.binOp BinOp.add 3 (Operand.tmp 15) (Operand.const (Value.int IntKind.i64 1)) 3), none, ann0⟩,
  ⟨(some 8), (Op.assign (Operand.tmp 16)), none, ann0⟩] none))) (.tidy [0, 1, 2, 3, 8] z (z + 0))
def s59_1 (z : Nat) : SC := c59_1 z
theorem e59_1 {C : Pg} {z : Nat} {st : St} {ks : List Fr} {K : Ex → St → Prop} : wpk C (s59_1 z) st ks K ↔ wpk C (c59_1 z) st ks K := Iff.rfl
def s59 (z : Nat) : SFn := ⟨4, 53, [],
 (.seq (.reg [⟨(some 10), (Op.move (Operand.tmp 1)), none, ann0⟩,
  ⟨(some 11), (Op.binOp BinOp.add 3 (Operand.tmp 10) (Operand.const (Value.int IntKind.i64 1)) 3), none, ann0⟩,
  ⟨(some 8), (Op.assign (Operand.tmp 11)), none, ann0⟩] none)
 (.post (.block 0 (.pre (.tidy [0, 1, 2, 3, 8] z (z + 0)) (.loop (s59_1 z)))) (.tidy [] z (z + 0))))⟩
theorem F59 (z : Nat) : FOk Try.prog 59 (s59 z) := by unfold FOk; kernel_rfl
def s67 (z : Nat) : SFn := ⟨1, 19, [(ResultVar.tmp 2)],
 (.seq (.reg [⟨(some 2), (Op.assign (Operand.const (Value.int IntKind.i64 0))), none, ann0⟩] none)
 (.seq (.post (.seq (.reg [⟨(some 3), (Op.move (Operand.tmp 0)), none, ann0⟩,
  ⟨(some 4), (Op.binOp BinOp.geq 22 (Operand.tmp 3) (Operand.const (Value.int IntKind.u32 65536)) 22), none, ann0⟩] none)
 (.cond (Operand.tmp 4) (.seq (.reg [⟨(some 5), (Op.move (Operand.tmp 0)), none, ann0⟩,
  ⟨(some 6), (Op.binOp BinOp.shr 22 (Operand.tmp 5) (Operand.const (Value.int IntKind.u64 16)) 85), none, ann0⟩,
  ⟨(some 0), (Op.assign (Operand.tmp 6)), none, ann0⟩] none)
 (.reg [⟨(some 2), (Op.assign (Operand.const (Value.int IntKind.i64 16))), none, ann0⟩] none))
 .skip)) (.tidy [0, 2] z (z + 0)))
 (.seq (.post (.seq (.reg [⟨(some 7), (Op.move (Operand.tmp 0)), none, ann0⟩,
  ⟨(some 8), (Op.binOp BinOp.geq 22 (Operand.tmp 7) (Operand.const (Value.int IntKind.u32 256)) 22), none, ann0⟩] none)
 (.cond (Operand.tmp 8) (.seq (.reg [⟨(some 9), (Op.move (Operand.tmp 0)), none, ann0⟩,
  ⟨(some 10), (Op.binOp BinOp.shr 22 (Operand.tmp 9) (Operand.const (Value.int IntKind.u64 8)) 85), none, ann0⟩,
  ⟨(some 0), (Op.assign (Operand.tmp 10)), none, ann0⟩] none)
 (.reg [⟨(some 11), (Op.move (Operand.tmp 2)), none, ann0⟩,
  ⟨(some 12), (Op.binOp BinOp.add 3 (Operand.tmp 11) (Operand.const (Value.int IntKind.i64 8)) 3), none, ann0⟩,
  ⟨(some 2), (Op.assign (Operand.tmp 12)), none, ann0⟩] none))
 .skip)) (.tidy [0, 2] z (z + 0)))
 (.seq (.reg [⟨(some 13), (Op.move (Operand.tmp 2)), none, ann0⟩,
  ⟨(some 14), (Op.move (Operand.tmp 0)), none, ann0⟩,
  ⟨(some 15), (Op.convert 22 5 (Operand.tmp 14)), none, ann0⟩,
  ⟨(some 16), (Op.index 9 (Operand.const (Value.string ⟨#[0, 1, 2, 2, 3, 3, 3, 3, 4, 4, 4, 4, 4, 4, 4, 4, 5, 5, 5, 5, 5, 5, 5, 5, 5, 5, 5, 5, 5, 5, 5, 5, 6, 6, 6, 6, 6, 6, 6, 6, 6, 6, 6, 6, 6, 6, 6, 6, 6, 6, 6, 6, 6, 6, 6, 6, 6, 6, 6, 6, 6, 6, 6, 6, 7, 7, 7, 7, 7, 7, 7, 7, 7, 7, 7, 7, 7, 7, 7, 7, 7, 7, 7, 7, 7, 7, 7, 7, 7, 7, 7, 7, 7, 7, 7, 7, 7, 7, 7, 7, 7, 7, 7, 7, 7, 7, 7, 7, 7, 7, 7, 7, 7, 7, 7, 7, 7, 7, 7, 7, 7, 7, 7, 7, 7, 7, 7, 7, 8, 8, 8, 8, 8, 8, 8, 8, 8, 8, 8, 8, 8, 8, 8, 8, 8, 8, 8, 8, 8, 8, 8, 8, 8, 8, 8, 8, 8, 8, 8, 8, 8, 8, 8, 8, 8, 8, 8, 8, 8, 8, 8, 8, 8, 8, 8, 8, 8, 8, 8, 8, 8, 8, 8, 8, 8, 8, 8, 8, 8, 8, 8, 8, 8, 8, 8, 8, 8, 8, 8, 8, 8, 8, 8, 8, 8, 8, 8, 8, 8, 8, 8, 8, 8, 8, 8, 8, 8, 8, 8, 8, 8, 8, 8, 8, 8, 8, 8, 8, 8, 8, 8, 8, 8, 8, 8, 8, 8, 8, 8, 8, 8, 8, 8, 8, 8, 8, 8, 8, 8, 8, 8, 8, 8, 8, 8, 8]⟩)) (Operand.tmp 15)), none, ann0⟩,
  ⟨(some 17), (Op.convert 5 3 (Operand.tmp 16)), none, ann0⟩,
  ⟨(some 18), (Op.binOp BinOp.add 3 (Operand.tmp 13) (Operand.tmp 17) 3), none, ann0⟩,
  ⟨(some 2), (Op.assign (Operand.tmp 18)), none, ann0⟩] none)
 .ret))))⟩
theorem F67 (z : Nat) : FOk Try.prog 67 (s67 z) := by unfold FOk; kernel_rfl
def s68 (z : Nat) : SFn := ⟨1, 25, [(ResultVar.tmp 2)],
 (.seq (.reg [⟨(some 2), (Op.assign (Operand.const (Value.int IntKind.i64 0))), none, ann0⟩] none)
 (.seq (.post (.seq (.reg [⟨(some 3), (Op.move (Operand.tmp 0)), none, ann0⟩,
  ⟨(some 4), (Op.binOp BinOp.geq 98 (Operand.tmp 3) (Operand.const (Value.int IntKind.u64 4294967296)) 98), none, ann0⟩] none)
 (.cond (Operand.tmp 4) (.seq (.reg [⟨(some 5), (Op.move (Operand.tmp 0)), none, ann0⟩,
  ⟨(some 6), (Op.binOp BinOp.shr 98 (Operand.tmp 5) (Operand.const (Value.int IntKind.u64 32)) 85), none, ann0⟩,
  ⟨(some 0), (Op.assign (Operand.tmp 6)), none, ann0⟩] none)
 (.reg [⟨(some 2), (Op.assign (Operand.const (Value.int IntKind.i64 32))), none, ann0⟩] none))
 .skip)) (.tidy [0, 2] z (z + 0)))
 (.seq (.post (.seq (.reg [⟨(some 7), (Op.move (Operand.tmp 0)), none, ann0⟩,
  ⟨(some 8), (Op.binOp BinOp.geq 98 (Operand.tmp 7) (Operand.const (Value.int IntKind.u64 65536)) 98), none, ann0⟩] none)
 (.cond (Operand.tmp 8) (.seq (.reg [⟨(some 9), (Op.move (Operand.tmp 0)), none, ann0⟩,
  ⟨(some 10), (Op.binOp BinOp.shr 98 (Operand.tmp 9) (Operand.const (Value.int IntKind.u64 16)) 85), none, ann0⟩,
  ⟨(some 0), (Op.assign (Operand.tmp 10)), none, ann0⟩] none)
 (.reg [⟨(some 11), (Op.move (Operand.tmp 2)), none, ann0⟩,
  ⟨(some 12), (Op.binOp BinOp.add 3 (Operand.tmp 11) (Operand.const (Value.int IntKind.i64 16)) 3), none, ann0⟩,
  ⟨(some 2), (Op.assign (Operand.tmp 12)), none, ann0⟩] none))
 .skip)) (.tidy [0, 2] z (z + 0)))
 (.seq (.post (.seq (.reg [⟨(some 13), (Op.move (Operand.tmp 0)), none, ann0⟩,
  ⟨(some 14), (Op.binOp BinOp.geq 98 (Operand.tmp 13) (Operand.const (Value.int IntKind.u64 256)) 98), none, ann0⟩] none)
 (.cond (Operand.tmp 14) (.seq (.reg [⟨(some 15), (Op.move (Operand.tmp 0)), none, ann0⟩,
  ⟨(some 16), (Op.binOp BinOp.shr 98 (Operand.tmp 15) (Operand.const (Value.int IntKind.u64 8)) 85), none, ann0⟩,
  ⟨(some 0), (Op.assign (Operand.tmp 16)), none, ann0⟩] none)
 (.reg [⟨(some 17), (Op.move (Operand.tmp 2)), none, ann0⟩,
  ⟨(some 18), (Op.binOp BinOp.add 3 (Operand.tmp 17) (Operand.const (Value.int IntKind.i64 8)) 3), none, ann0⟩,
  ⟨(some 2), (Op.assign (Operand.tmp 18)), none, ann0⟩] none))
 .skip)) (.tidy [0, 2] z (z + 0)))
 (.seq (.reg [⟨(some 19), (Op.move (Operand.tmp 2)), none, ann0⟩,
  ⟨(some 20), (Op.move (Operand.tmp 0)), none, ann0⟩,
  ⟨(some 21), (Op.convert 98 5 (Operand.tmp 20)), none, ann0⟩,
  ⟨(some 22), (Op.index 9 (Operand.const (Value.string ⟨#[0, 1, 2, 2, 3, 3, 3, 3, 4, 4, 4, 4, 4, 4, 4, 4, 5, 5, 5, 5, 5, 5, 5, 5, 5, 5, 5, 5, 5, 5, 5, 5, 6, 6, 6, 6, 6, 6, 6, 6, 6, 6, 6, 6, 6, 6, 6, 6, 6, 6, 6, 6, 6, 6, 6, 6, 6, 6, 6, 6, 6, 6, 6, 6, 7, 7, 7, 7, 7, 7, 7, 7, 7, 7, 7, 7, 7, 7, 7, 7, 7, 7, 7, 7, 7, 7, 7, 7, 7, 7, 7, 7, 7, 7, 7, 7, 7, 7, 7, 7, 7, 7, 7, 7, 7, 7, 7, 7, 7, 7, 7, 7, 7, 7, 7, 7, 7, 7, 7, 7, 7, 7, 7, 7, 7, 7, 7, 7, 8, 8, 8, 8, 8, 8, 8, 8, 8, 8, 8, 8, 8, 8, 8, 8, 8, 8, 8, 8, 8, 8, 8, 8, 8, 8, 8, 8, 8, 8, 8, 8, 8, 8, 8, 8, 8, 8, 8, 8, 8, 8, 8, 8, 8, 8, 8, 8, 8, 8, 8, 8, 8, 8, 8, 8, 8, 8, 8, 8, 8, 8, 8, 8, 8, 8, 8, 8, 8, 8, 8, 8, 8, 8, 8, 8, 8, 8, 8, 8, 8, 8, 8, 8, 8, 8, 8, 8, 8, 8, 8, 8, 8, 8, 8, 8, 8, 8, 8, 8, 8, 8, 8, 8, 8, 8, 8, 8, 8, 8, 8, 8, 8, 8, 8, 8, 8, 8, 8, 8, 8, 8, 8, 8, 8, 8, 8, 8]⟩)) (Operand.tmp 21)), none, ann0⟩,
  ⟨(some 23), (Op.convert 5 3 (Operand.tmp 22)), none, ann0⟩,
  ⟨(some 24), (Op.binOp BinOp.add 3 (Operand.tmp 19) (Operand.tmp 23) 3), none, ann0⟩,
  ⟨(some 2), (Op.assign (Operand.tmp 24)), none, ann0⟩] none)
 .ret)))))⟩
theorem F68 (z : Nat) : FOk Try.prog 68 (s68 z) := by unfold FOk; kernel_rfl
def c69_2 (z : Nat) : SC := .post (.seq (.post (.seq (.post (.reg [⟨(some 18), (Op.move (Operand.tmp 9)), none, ann0⟩,
  ⟨(some 19), (Op.move (Operand.tmp 1)), none, ann0⟩,
  ⟨(some 20), (Op.binOp BinOp.gtr 3 (Operand.tmp 18) (Operand.tmp 19) 3), none, ann0⟩,
  ⟨(some 21), (Op.move (Operand.tmp 20)), none, ann0⟩,
  ⟨(some 22), (Op.move (Operand.tmp 3)), (some (21, true)), ann0⟩,
  ⟨(some 23), (Op.move (Operand.tmp 0)), (some (21, true)), ann0⟩,
  ⟨(some 24), (Op.move (Operand.tmp 9)), (some (21, true)), ann0⟩,
  ⟨(some 25), (Op.indexAddr 26 (Operand.tmp 23) (Operand.tmp 24)), (some (21, true)), ann0⟩,
  ⟨(some 26), (Op.load 25 (Operand.tmp 25)), (some (21, true)), ann0⟩,
  ⟨(some 27), (Op.move (Operand.tmp 0)), (some (21, true)), ann0⟩,
  ⟨(some 28), (Op.move (Operand.tmp 9)), (some (21, true)), ann0⟩,
  ⟨(some 29), (Op.binOp BinOp.sub 3 (Operand.tmp 28) (Operand.const (Value.int IntKind.i64 1)) 3), (some (21, true)), ann0⟩,
  ⟨(some 30), (Op.indexAddr 26 (Operand.tmp 27) (Operand.tmp 29)), (some (21, true)), ann0⟩,
  ⟨(some 31), (Op.load 25 (Operand.tmp 30)), (some (21, true)), ann0⟩,
  ⟨(some 32), (Op.call { callee := (Callee.value (Operand.tmp 22)), args := #[(Operand.tmp 26), (Operand.tmp 31)], argTypes := #[25, 25] }), (some (21, true)), ann0⟩,
  ⟨(some 33), (Op.binOp BinOp.lss 3 (Operand.tmp 32) (Operand.const (Value.int IntKind.i64 0)) 3), (some (21, true)), ann0⟩,
  ⟨(some 34), (Op.pick (Operand.tmp 21) (Operand.tmp 33) (Operand.const (Value.bool false))), none, ann0⟩] (some [0, 0, 3, 7, 15, 15, 15, 111, 239, 15, 15, 1039, 3599, 7695, 16383, 32767, 65535])) (.tidy [0, 1, 2, 3, 8, 9, 34] z (z + 0)))
 (.cond (Operand.tmp 34) .skip
 (.exit 2))) (.tidy [0, 1, 2, 3, 8, 9] z (z + 0)))
 (.seq (.post (.block 3 (.reg [⟨(some 37), (Op.move (Operand.tmp 0)), none, ann0⟩,
  ⟨(some 38), (Op.move (Operand.tmp 9)), none, ann0⟩,
  ⟨(some 39), (Op.move (Operand.tmp 0)), none, ann0⟩,
  ⟨(some 40), (Op.move (Operand.tmp 9)), none, ann0⟩,
  ⟨(some 41), (Op.binOp BinOp.sub 3 (Operand.tmp 40) (Operand.const (Value.int IntKind.i64 1)) 3), none, ann0⟩,
  ⟨(some 42), (Op.move (Operand.tmp 0)), none, ann0⟩,
  ⟨(some 43), (Op.move (Operand.tmp 9)), none, ann0⟩,
  ⟨(some 44), (Op.binOp BinOp.sub 3 (Operand.tmp 43) (Operand.const (Value.int IntKind.i64 1)) 3), none, ann0⟩,
  ⟨(some 45), (Op.indexAddr 26 (Operand.tmp 42) (Operand.tmp 44)), none, ann0⟩,
  ⟨(some 46), (Op.load 25 (Operand.tmp 45)), none, ann0⟩,
  ⟨(some 47), (Op.move (Operand.tmp 0)), none, ann0⟩,
  ⟨(some 48), (Op.move (Operand.tmp 9)), none, ann0⟩,
  ⟨(some 49), (Op.indexAddr 26 (Operand.tmp 47) (Operand.tmp 48)), none, ann0⟩,
  ⟨(some 50), (Op.load 25 (Operand.tmp 49)), none, ann0⟩,
  ⟨(some 51), (Op.indexAddr 26 (Operand.tmp 37) (Operand.tmp 38)), none, ann0⟩,
  ⟨none, (Op.store 25 (Operand.tmp 51) (Operand.tmp 46)), none, ann0⟩,
  ⟨(some 52), (Op.indexAddr 26 (Operand.tmp 39) (Operand.tmp 41)), none, ann0⟩,
  ⟨none, (Op.store 25 (Operand.tmp 52) (Operand.tmp 50)), none, ann0⟩] (some [0, 0, 0, 0, 8, 0, 0, 64, 224, 480, 0, 0, 3072, 7168, 16355, 32739, 65535, 131071]))) (.tidy [0, 1, 2, 3, 8, 9] z (z + 0)))
 (.reg [⟨(some 35), (Op.move (Operand.tmp 9)), none, ann0⟩,
  ⟨(some 36), (Op.binOp BinOp.sub 3 (Operand.tmp 35) (Operand.const (Value.int IntKind.i64 1)) 3), none, ann0⟩,
  ⟨(some 9), (Op.assign (Operand.tmp 36)), none, ann0⟩] none))) (.tidy [0, 1, 2, 3, 8, 9] z (z + 0))
def s69_2 (z : Nat) : SC := c69_2 z
theorem e69_2 {C : Pg} {z : Nat} {st : St} {ks : List Fr} {K : Ex → St → Prop} : wpk C (s69_2 z) st ks K ↔ wpk C (c69_2 z) st ks K := Iff.rfl
def c69_1 (z : Nat) : SC := .post (.seq (.post (.seq (.reg [⟨(some 12), (Op.move (Operand.tmp 8)), none, ann0⟩,
  ⟨(some 13), (Op.move (Operand.tmp 2)), none, ann0⟩,
  ⟨(some 14), (Op.binOp BinOp.lss 3 (Operand.tmp 12) (Operand.tmp 13) 3), none, ann0⟩] none)
 (.cond (Operand.tmp 14) .skip
 (.exit 0))) (.tidy [0, 1, 2, 3, 8] z (z + 0)))
 (.seq (.post (.block 1 (.seq (.reg [⟨(some 17), (Op.move (Operand.tmp 8)), none, ann0⟩,
  ⟨(some 9), (Op.assign (Operand.tmp 17)), none, ann0⟩] none)
 (.post (.block 2 (.pre (.tidy [0, 1, 2, 3, 8, 9] z (z + 0)) (.loop (s69_2 z)))) (.tidy [0, 1, 2, 3, 8] z (z + 0))))) (.tidy [0, 1, 2, 3, 8] z (z + 0)))
 (.reg [⟨(some 15), (Op.move (Operand.tmp 8)), none, ann0⟩,
  ⟨(some 16), (Op.binOp BinOp.add 3 (Operand.tmp 15) (Operand.const (Value.int IntKind.i64 1)) 3), none, ann0⟩,
  ⟨(some 8), (Op.assign (Operand.tmp 16)), none, ann0⟩] none))) (.tidy [0, 1, 2, 3, 8] z (z + 0))
def s69_1 (z : Nat) : SC := c69_1 z
theorem e69_1 {C : Pg} {z : Nat} {st : St} {ks : List Fr} {K : Ex → St → Prop} : wpk C (s69_1 z) st ks K ↔ wpk C (c69_1 z) st ks K := Iff.rfl
def s69 (z : Nat) : SFn := ⟨4, 53, [],
 (.seq (.reg [⟨(some 10), (Op.move (Operand.tmp 1)), none, ann0⟩,
  ⟨(some 11), (Op.binOp BinOp.add 3 (Operand.tmp 10) (Operand.const (Value.int IntKind.i64 1)) 3), none, ann0⟩,
  ⟨(some 8), (Op.assign (Operand.tmp 11)), none, ann0⟩] none)
 (.post (.block 0 (.pre (.tidy [0, 1, 2, 3, 8] z (z + 0)) (.loop (s69_1 z)))) (.tidy [] z (z + 0))))⟩
theorem F69 (z : Nat) : FOk Try.prog 69 (s69 z) := by unfold FOk; kernel_rfl
def AL (z : Nat) : List (Nat × SFn) := [(3, s3 z), (4, s4 z), (6, s6 z), (10, s10 z), (11, s11 z), (13, s13 z), (14, s14 z), (15, s15 z), (16, s16 z), (17, s17 z), (18, s18 z), (19, s19 z), (20, s20 z), (21, s21 z), (22, s22 z), (23, s23 z), (24, s24 z), (25, s25 z), (26, s26 z), (27, s27 z), (28, s28 z), (29, s29 z), (30, s30 z), (31, s31 z), (32, s32 z), (33, s33 z), (34, s34 z), (35, s35 z), (37, s37 z), (38, s38 z), (39, s39 z), (40, s40 z), (41, s41 z), (42, s42 z), (43, s43 z), (44, s44 z), (45, s45 z), (46, s46 z), (47, s47 z), (48, s48 z), (49, s49 z), (50, s50 z), (51, s51 z), (52, s52 z), (53, s53 z), (54, s54 z), (55, s55 z), (56, s56 z), (57, s57 z), (58, s58 z), (59, s59 z), (67, s67 z), (68, s68 z), (69, s69 z)]
def AA (f : FuncId) (_ : List AV) (obs : List AObj) : Option SFn := getF f (AL obs.length)
theorem AL_ok (z : Nat) : AllF Try.prog (AL z) := by
  simp only [AL, AllF]
  exact ⟨F3 z, F4 z, F6 z, F10 z, F11 z, F13 z, F14 z, F15 z, F16 z, F17 z, F18 z, F19 z, F20 z, F21 z, F22 z, F23 z, F24 z, F25 z, F26 z, F27 z, F28 z, F29 z, F30 z, F31 z, F32 z, F33 z, F34 z, F35 z, F37 z, F38 z, F39 z, F40 z, F41 z, F42 z, F43 z, F44 z, F45 z, F46 z, F47 z, F48 z, F49 z, F50 z, F51 z, F52 z, F53 z, F54 z, F55 z, F56 z, F57 z, F58 z, F59 z, F67 z, F68 z, F69 z, trivial⟩
theorem AA_ok (f : FuncId) (xs : List AV) (obs : List AObj) (s : SFn) (h : AA f xs obs = some s) : (Try.prog.funcs[f]?).bind slimFn = some s.erase := getF_ok (AL_ok _) h
theorem A3 (xs : List AV) (obs : List AObj) : AA 3 xs obs = some (s3 obs.length) := rfl
theorem A4 (xs : List AV) (obs : List AObj) : AA 4 xs obs = some (s4 obs.length) := rfl
theorem A6 (xs : List AV) (obs : List AObj) : AA 6 xs obs = some (s6 obs.length) := rfl
theorem A10 (xs : List AV) (obs : List AObj) : AA 10 xs obs = some (s10 obs.length) := rfl
theorem A11 (xs : List AV) (obs : List AObj) : AA 11 xs obs = some (s11 obs.length) := rfl
theorem A13 (xs : List AV) (obs : List AObj) : AA 13 xs obs = some (s13 obs.length) := rfl
theorem A14 (xs : List AV) (obs : List AObj) : AA 14 xs obs = some (s14 obs.length) := rfl
theorem A15 (xs : List AV) (obs : List AObj) : AA 15 xs obs = some (s15 obs.length) := rfl
theorem A16 (xs : List AV) (obs : List AObj) : AA 16 xs obs = some (s16 obs.length) := rfl
theorem A17 (xs : List AV) (obs : List AObj) : AA 17 xs obs = some (s17 obs.length) := rfl
theorem A18 (xs : List AV) (obs : List AObj) : AA 18 xs obs = some (s18 obs.length) := rfl
theorem A19 (xs : List AV) (obs : List AObj) : AA 19 xs obs = some (s19 obs.length) := rfl
theorem A20 (xs : List AV) (obs : List AObj) : AA 20 xs obs = some (s20 obs.length) := rfl
theorem A21 (xs : List AV) (obs : List AObj) : AA 21 xs obs = some (s21 obs.length) := rfl
theorem A22 (xs : List AV) (obs : List AObj) : AA 22 xs obs = some (s22 obs.length) := rfl
theorem A23 (xs : List AV) (obs : List AObj) : AA 23 xs obs = some (s23 obs.length) := rfl
theorem A24 (xs : List AV) (obs : List AObj) : AA 24 xs obs = some (s24 obs.length) := rfl
theorem A25 (xs : List AV) (obs : List AObj) : AA 25 xs obs = some (s25 obs.length) := rfl
theorem A26 (xs : List AV) (obs : List AObj) : AA 26 xs obs = some (s26 obs.length) := rfl
theorem A27 (xs : List AV) (obs : List AObj) : AA 27 xs obs = some (s27 obs.length) := rfl
theorem A28 (xs : List AV) (obs : List AObj) : AA 28 xs obs = some (s28 obs.length) := rfl
theorem A29 (xs : List AV) (obs : List AObj) : AA 29 xs obs = some (s29 obs.length) := rfl
theorem A30 (xs : List AV) (obs : List AObj) : AA 30 xs obs = some (s30 obs.length) := rfl
theorem A31 (xs : List AV) (obs : List AObj) : AA 31 xs obs = some (s31 obs.length) := rfl
theorem A32 (xs : List AV) (obs : List AObj) : AA 32 xs obs = some (s32 obs.length) := rfl
theorem A33 (xs : List AV) (obs : List AObj) : AA 33 xs obs = some (s33 obs.length) := rfl
theorem A34 (xs : List AV) (obs : List AObj) : AA 34 xs obs = some (s34 obs.length) := rfl
theorem A35 (xs : List AV) (obs : List AObj) : AA 35 xs obs = some (s35 obs.length) := rfl
theorem A37 (xs : List AV) (obs : List AObj) : AA 37 xs obs = some (s37 obs.length) := rfl
theorem A38 (xs : List AV) (obs : List AObj) : AA 38 xs obs = some (s38 obs.length) := rfl
theorem A39 (xs : List AV) (obs : List AObj) : AA 39 xs obs = some (s39 obs.length) := rfl
theorem A40 (xs : List AV) (obs : List AObj) : AA 40 xs obs = some (s40 obs.length) := rfl
theorem A41 (xs : List AV) (obs : List AObj) : AA 41 xs obs = some (s41 obs.length) := rfl
theorem A42 (xs : List AV) (obs : List AObj) : AA 42 xs obs = some (s42 obs.length) := rfl
theorem A43 (xs : List AV) (obs : List AObj) : AA 43 xs obs = some (s43 obs.length) := rfl
theorem A44 (xs : List AV) (obs : List AObj) : AA 44 xs obs = some (s44 obs.length) := rfl
theorem A45 (xs : List AV) (obs : List AObj) : AA 45 xs obs = some (s45 obs.length) := rfl
theorem A46 (xs : List AV) (obs : List AObj) : AA 46 xs obs = some (s46 obs.length) := rfl
theorem A47 (xs : List AV) (obs : List AObj) : AA 47 xs obs = some (s47 obs.length) := rfl
theorem A48 (xs : List AV) (obs : List AObj) : AA 48 xs obs = some (s48 obs.length) := rfl
theorem A49 (xs : List AV) (obs : List AObj) : AA 49 xs obs = some (s49 obs.length) := rfl
theorem A50 (xs : List AV) (obs : List AObj) : AA 50 xs obs = some (s50 obs.length) := rfl
theorem A51 (xs : List AV) (obs : List AObj) : AA 51 xs obs = some (s51 obs.length) := rfl
theorem A52 (xs : List AV) (obs : List AObj) : AA 52 xs obs = some (s52 obs.length) := rfl
theorem A53 (xs : List AV) (obs : List AObj) : AA 53 xs obs = some (s53 obs.length) := rfl
theorem A54 (xs : List AV) (obs : List AObj) : AA 54 xs obs = some (s54 obs.length) := rfl
theorem A55 (xs : List AV) (obs : List AObj) : AA 55 xs obs = some (s55 obs.length) := rfl
theorem A56 (xs : List AV) (obs : List AObj) : AA 56 xs obs = some (s56 obs.length) := rfl
theorem A57 (xs : List AV) (obs : List AObj) : AA 57 xs obs = some (s57 obs.length) := rfl
theorem A58 (xs : List AV) (obs : List AObj) : AA 58 xs obs = some (s58 obs.length) := rfl
theorem A59 (xs : List AV) (obs : List AObj) : AA 59 xs obs = some (s59 obs.length) := rfl
theorem A67 (xs : List AV) (obs : List AObj) : AA 67 xs obs = some (s67 obs.length) := rfl
theorem A68 (xs : List AV) (obs : List AObj) : AA 68 xs obs = some (s68 obs.length) := rfl
theorem A69 (xs : List AV) (obs : List AObj) : AA 69 xs obs = some (s69 obs.length) := rfl
end Go.Proofs.YtdhbecdlablonaaV
