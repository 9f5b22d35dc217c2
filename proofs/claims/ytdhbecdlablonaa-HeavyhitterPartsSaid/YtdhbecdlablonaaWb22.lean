/- The table of types and the functions' code, with notes for the interpreter, and the facts that they are the program's: made by a program. -/
import Derived.Test.YtdhbecdlablonaaWb22a
set_option linter.unusedVariables false
namespace Go.Proofs.YtdhbecdlablonaaV
open Go.RowKit

def TT : Tbl := [(3, ⟨.int .i64, 1, 8, [(.d (.int .i64 0))]⟩),
  (4, ⟨.bool, 1, 1, [(.d (.bool false))]⟩),
  (5, ⟨.int .u8, 1, 1, [(.d (.int .u8 0))]⟩),
  (9, ⟨.str, 1, 16, [(.d (.str ⟨#[]⟩))]⟩),
  (22, ⟨.int .u32, 1, 4, [(.d (.int .u32 0))]⟩),
  (25, ⟨.struct [(0, 9, 1), (1, 3, 1)], 2, 24, [(.d (.str ⟨#[]⟩)), (.d (.int .i64 0))]⟩),
  (26, ⟨.slice 25, 1, 24, [(.d .nils)]⟩),
  (28, ⟨.struct [(0, 3, 1), (1, 3, 1), (2, 3, 1), (3, 26, 1)], 4, 48, [(.d (.int .i64 0)), (.d (.int .i64 0)), (.d (.int .i64 0)), (.d .nils)]⟩),
  (29, ⟨.int .i64, 1, 8, [(.d (.int .i64 0))]⟩),
  (36, ⟨.slice 41, 1, 24, [(.d .nils)]⟩),
  (41, ⟨.struct [(0, 5, 1), (1, 5, 1)], 2, 2, [(.d (.int .u8 0)), (.d (.int .u8 0))]⟩),
  (47, ⟨.arr 2 5, 2, 2, [(.d (.int .u8 0)), (.d (.int .u8 0))]⟩),
  (69, ⟨.map 9 3, 1, 8, [.nilm]⟩),
  (74, ⟨.slice 3, 1, 24, [(.d .nils)]⟩),
  (78, ⟨.slice 5, 1, 24, [(.d .nils)]⟩),
  (85, ⟨.int .u64, 1, 8, [(.d (.int .u64 0))]⟩),
  (90, ⟨.int .i64, 1, 8, [(.d (.int .i64 0))]⟩),
  (98, ⟨.int .u64, 1, 8, [(.d (.int .u64 0))]⟩),
  (104, ⟨.int .u64, 1, 8, [(.d (.int .u64 0))]⟩)]
theorem TT_ok : TOk Try.prog TT := by unfold TOk; kernel_rfl
theorem T3 : TT.get 3 = some ⟨.int .i64, 1, 8, [(.d (.int .i64 0))]⟩ := by kernel_rfl
theorem T4 : TT.get 4 = some ⟨.bool, 1, 1, [(.d (.bool false))]⟩ := by kernel_rfl
theorem T5 : TT.get 5 = some ⟨.int .u8, 1, 1, [(.d (.int .u8 0))]⟩ := by kernel_rfl
theorem T9 : TT.get 9 = some ⟨.str, 1, 16, [(.d (.str ⟨#[]⟩))]⟩ := by kernel_rfl
theorem T22 : TT.get 22 = some ⟨.int .u32, 1, 4, [(.d (.int .u32 0))]⟩ := by kernel_rfl
theorem T25 : TT.get 25 = some ⟨.struct [(0, 9, 1), (1, 3, 1)], 2, 24, [(.d (.str ⟨#[]⟩)), (.d (.int .i64 0))]⟩ := by kernel_rfl
theorem T26 : TT.get 26 = some ⟨.slice 25, 1, 24, [(.d .nils)]⟩ := by kernel_rfl
theorem T28 : TT.get 28 = some ⟨.struct [(0, 3, 1), (1, 3, 1), (2, 3, 1), (3, 26, 1)], 4, 48, [(.d (.int .i64 0)), (.d (.int .i64 0)), (.d (.int .i64 0)), (.d .nils)]⟩ := by kernel_rfl
theorem T29 : TT.get 29 = some ⟨.int .i64, 1, 8, [(.d (.int .i64 0))]⟩ := by kernel_rfl
theorem T36 : TT.get 36 = some ⟨.slice 41, 1, 24, [(.d .nils)]⟩ := by kernel_rfl
theorem T41 : TT.get 41 = some ⟨.struct [(0, 5, 1), (1, 5, 1)], 2, 2, [(.d (.int .u8 0)), (.d (.int .u8 0))]⟩ := by kernel_rfl
theorem T47 : TT.get 47 = some ⟨.arr 2 5, 2, 2, [(.d (.int .u8 0)), (.d (.int .u8 0))]⟩ := by kernel_rfl
theorem T69 : TT.get 69 = some ⟨.map 9 3, 1, 8, [.nilm]⟩ := by kernel_rfl
theorem T74 : TT.get 74 = some ⟨.slice 3, 1, 24, [(.d .nils)]⟩ := by kernel_rfl
theorem T78 : TT.get 78 = some ⟨.slice 5, 1, 24, [(.d .nils)]⟩ := by kernel_rfl
theorem T85 : TT.get 85 = some ⟨.int .u64, 1, 8, [(.d (.int .u64 0))]⟩ := by kernel_rfl
theorem T90 : TT.get 90 = some ⟨.int .i64, 1, 8, [(.d (.int .i64 0))]⟩ := by kernel_rfl
theorem T98 : TT.get 98 = some ⟨.int .u64, 1, 8, [(.d (.int .u64 0))]⟩ := by kernel_rfl
theorem T104 : TT.get 104 = some ⟨.int .u64, 1, 8, [(.d (.int .u64 0))]⟩ := by kernel_rfl
def c61_1 (z : Nat) : SC := .post (.seq (.post (.seq (.post (.reg [⟨(some 28), (Op.move (Operand.tmp 11)), none, ann0⟩,
  ⟨(some 29), (Op.move (Operand.tmp 1)), none, ann0⟩,
  ⟨(some 30), (Op.move (Operand.tmp 8)), none, ann0⟩,
  ⟨(some 31), (Op.binOp BinOp.quo 3 (Operand.tmp 30) (Operand.const (Value.int IntKind.i64 4)) 3), none, ann0⟩,
  ⟨(some 32), (Op.binOp BinOp.mul 3 (Operand.tmp 31) (Operand.const (Value.int IntKind.i64 2)) 3), none, ann0⟩,
  ⟨(some 33), (Op.binOp BinOp.add 3 (Operand.tmp 29) (Operand.tmp 32) 3), none, ann0⟩,
  ⟨(some 34), (Op.binOp BinOp.add 3 (Operand.tmp 33) (Operand.const (Value.int IntKind.i64 1)) 3), none, ann0⟩,
  ⟨(some 35), (Op.binOp BinOp.leq 3 (Operand.tmp 28) (Operand.tmp 34) 3), none, ann0⟩] none) (.tidy [0, 1, 8, 9, 10, 11, 35] z (z + 1)))
 (.cond (Operand.tmp 35) .skip
 (.exit 0))) (.tidy [0, 1, 8, 9, 10, 11] z (z + 1)))
 (.seq (.post (.block 1 (.seq (.reg [⟨(some 38), (Op.call { callee := (Callee.value (Operand.func 79)), args := #[(Operand.tmp 9)], argTypes := #[104] }), none, ann0⟩,
  ⟨(some 39), (Op.move (Operand.tmp 10)), none, ann0⟩,
  ⟨(some 40), (Op.binOp BinOp.sub 85 (Operand.tmp 39) (Operand.const (Value.int IntKind.u64 1)) 85), none, ann0⟩,
  ⟨(some 41), (Op.binOp BinOp.and 85 (Operand.tmp 38) (Operand.tmp 40) 85), none, ann0⟩,
  ⟨(some 42), (Op.convert 85 3 (Operand.tmp 41)), none, ann0⟩,
  ⟨(some 12), (Op.assign (Operand.tmp 42)), none, ann0⟩] none)
 (.seq (.post (.seq (.post (.reg [⟨(some 43), (Op.move (Operand.tmp 12)), none, ann0⟩,
  ⟨(some 44), (Op.move (Operand.tmp 8)), none, ann0⟩,
  ⟨(some 45), (Op.binOp BinOp.geq 3 (Operand.tmp 43) (Operand.tmp 44) 3), none, ann0⟩] none) (.tidy [0, 1, 8, 9, 10, 11, 12, 45] z (z + 1)))
 (.cond (Operand.tmp 45) (.reg [⟨(some 46), (Op.move (Operand.tmp 12)), none, ann0⟩,
  ⟨(some 47), (Op.move (Operand.tmp 8)), none, ann0⟩,
  ⟨(some 48), (Op.binOp BinOp.sub 3 (Operand.tmp 46) (Operand.tmp 47) 3), none, ann0⟩,
  ⟨(some 12), (Op.assign (Operand.tmp 48)), none, ann0⟩] none)
 .skip)) (.tidy [0, 1, 8, 9, 10, 11, 12] z (z + 1)))
 (.reg [⟨(some 49), (Op.move (Operand.tmp 0)), none, ann0⟩,
  ⟨(some 50), (Op.move (Operand.tmp 11)), none, ann0⟩,
  ⟨(some 51), (Op.move (Operand.tmp 0)), none, ann0⟩,
  ⟨(some 52), (Op.move (Operand.tmp 1)), none, ann0⟩,
  ⟨(some 53), (Op.move (Operand.tmp 12)), none, ann0⟩,
  ⟨(some 54), (Op.binOp BinOp.add 3 (Operand.tmp 52) (Operand.tmp 53) 3), none, ann0⟩,
  ⟨(some 55), (Op.move (Operand.tmp 0)), none, ann0⟩,
  ⟨(some 56), (Op.move (Operand.tmp 1)), none, ann0⟩,
  ⟨(some 57), (Op.move (Operand.tmp 12)), none, ann0⟩,
  ⟨(some 58), (Op.binOp BinOp.add 3 (Operand.tmp 56) (Operand.tmp 57) 3), none, ann0⟩,
  ⟨(some 59), (Op.indexAddr 74 (Operand.tmp 55) (Operand.tmp 58)), none, ann0⟩,
  ⟨(some 60), (Op.load 3 (Operand.tmp 59)), none, ann0⟩,
  ⟨(some 61), (Op.move (Operand.tmp 0)), none, ann0⟩,
  ⟨(some 62), (Op.move (Operand.tmp 11)), none, ann0⟩,
  ⟨(some 63), (Op.indexAddr 74 (Operand.tmp 61) (Operand.tmp 62)), none, ann0⟩,
  ⟨(some 64), (Op.load 3 (Operand.tmp 63)), none, ann0⟩,
  ⟨(some 65), (Op.indexAddr 74 (Operand.tmp 49) (Operand.tmp 50)), none, ann0⟩,
  ⟨none, (Op.store 3 (Operand.tmp 65) (Operand.tmp 60)), none, ann0⟩,
  ⟨(some 66), (Op.indexAddr 74 (Operand.tmp 51) (Operand.tmp 54)), none, ann0⟩,
  ⟨none, (Op.store 3 (Operand.tmp 66) (Operand.tmp 64)), none, ann0⟩] (some [0, 0, 0, 0, 0, 24, 0, 0, 0, 384, 960, 1984, 0, 0, 12288, 28672, 65475, 131011, 262143, 524287]))))) (.tidy [0, 1, 8, 9, 10, 11] z (z + 1)))
 (.reg [⟨(some 36), (Op.move (Operand.tmp 11)), none, ann0⟩,
  ⟨(some 37), (Op.binOp BinOp.add 3 (Operand.tmp 36) (Operand.const (Value.int IntKind.i64 1)) 3), none, ann0⟩,
  ⟨(some 11), (Op.assign (Operand.tmp 37)), none, ann0⟩] none))) (.tidy [0, 1, 8, 9, 10, 11] z (z + 1))
def s61_1 (z : Nat) : SC := c61_1 z
theorem e61_1 {C : Pg} {z : Nat} {st : St} {ks : List Fr} {K : Ex → St → Prop} : wpk C (s61_1 z) st ks K ↔ wpk C (c61_1 z) st ks K := Iff.rfl
def s61 (z : Nat) : SFn := ⟨4, 67, [],
 (.seq (.reg [⟨(some 13), (Op.move (Operand.tmp 2)), none, ann0⟩,
  ⟨(some 14), (Op.move (Operand.tmp 1)), none, ann0⟩,
  ⟨(some 15), (Op.binOp BinOp.sub 3 (Operand.tmp 13) (Operand.tmp 14) 3), none, ann0⟩,
  ⟨(some 8), (Op.assign (Operand.tmp 15)), none, ann0⟩] none)
 (.seq (.reg [⟨(some 16), (Op.move (Operand.tmp 8)), none, ann0⟩,
  ⟨(some 17), (Op.binOp BinOp.geq 3 (Operand.tmp 16) (Operand.const (Value.int IntKind.i64 8)) 3), none, ann0⟩] none)
 (.cond (Operand.tmp 17) (.seq (.post (.reg [⟨(some 18), (Op.move (Operand.tmp 8)), none, ann0⟩,
  ⟨(some 19), (Op.convert 3 104 (Operand.tmp 18)), none, ann0⟩,
  ⟨(some 9), (Op.alloc 104), none, ⟨1, false, false⟩⟩,
  ⟨none, (Op.store 104 (Operand.tmp 9) (Operand.tmp 19)), none, ann0⟩] none) (.tidy [0, 1, 8, 9] z (z + 1)))
 (.seq (.reg [⟨(some 20), (Op.move (Operand.tmp 8)), none, ann0⟩,
  ⟨(some 21), (Op.call { callee := (Callee.value (Operand.func 78)), args := #[(Operand.tmp 20)], argTypes := #[3] }), none, ann0⟩,
  ⟨(some 10), (Op.assign (Operand.tmp 21)), none, ann0⟩] none)
 (.seq (.post (.reg [⟨(some 22), (Op.move (Operand.tmp 1)), none, ann0⟩,
  ⟨(some 23), (Op.move (Operand.tmp 8)), none, ann0⟩,
  ⟨(some 24), (Op.binOp BinOp.quo 3 (Operand.tmp 23) (Operand.const (Value.int IntKind.i64 4)) 3), none, ann0⟩,
  ⟨(some 25), (Op.binOp BinOp.mul 3 (Operand.tmp 24) (Operand.const (Value.int IntKind.i64 2)) 3), none, ann0⟩,
  ⟨(some 26), (Op.binOp BinOp.add 3 (Operand.tmp 22) (Operand.tmp 25) 3), none, ann0⟩,
  ⟨(some 27), (Op.binOp BinOp.sub 3 (Operand.tmp 26) (Operand.const (Value.int IntKind.i64 1)) 3), none, ann0⟩,
  ⟨(some 11), (Op.assign (Operand.tmp 27)), none, ann0⟩] none) (.tidy [0, 1, 8, 9, 10, 11] z (z + 1)))
 (.post (.block 0 (.pre (.tidy [0, 1, 8, 9, 10, 11] z (z + 1)) (.loop (s61_1 z)))) (.tidy [] z (z + 1))))))
 .skip)))⟩
theorem F61 (z : Nat) : FOk Try.prog 61 (s61 z) := by unfold FOk; kernel_rfl
def s62 (z : Nat) : SFn := ⟨4, 63, [(ResultVar.tmp 8), (ResultVar.tmp 9)],
 (.seq (.reg [⟨(some 8), (Op.assign (Operand.const (Value.int IntKind.i64 0))), none, ann0⟩,
  ⟨(some 9), (Op.assign (Operand.const (Value.int IntKind.i64 0))), none, ann0⟩] none)
 (.seq (.reg [⟨(some 15), (Op.move (Operand.tmp 2)), none, ann0⟩,
  ⟨(some 16), (Op.move (Operand.tmp 1)), none, ann0⟩,
  ⟨(some 17), (Op.binOp BinOp.sub 3 (Operand.tmp 15) (Operand.tmp 16) 3), none, ann0⟩,
  ⟨(some 10), (Op.assign (Operand.tmp 17)), none, ann0⟩] none)
 (.seq (.reg [⟨(some 11), (Op.alloc 3), none, ⟨1, false, false⟩⟩] none)
 (.seq (.post (.reg [⟨(some 18), (Op.move (Operand.tmp 1)), none, ann0⟩,
  ⟨(some 19), (Op.move (Operand.tmp 10)), none, ann0⟩,
  ⟨(some 20), (Op.binOp BinOp.quo 3 (Operand.tmp 19) (Operand.const (Value.int IntKind.i64 4)) 3), none, ann0⟩,
  ⟨(some 21), (Op.binOp BinOp.mul 3 (Operand.tmp 20) (Operand.const (Value.int IntKind.i64 1)) 3), none, ann0⟩,
  ⟨(some 22), (Op.binOp BinOp.add 3 (Operand.tmp 18) (Operand.tmp 21) 3), none, ann0⟩,
  ⟨(some 12), (Op.assign (Operand.tmp 22)), none, ann0⟩] none) (.tidy [0, 1, 3, 10, 11, 12] z (z + 1)))
 (.seq (.reg [⟨(some 23), (Op.move (Operand.tmp 1)), none, ann0⟩,
  ⟨(some 24), (Op.move (Operand.tmp 10)), none, ann0⟩,
  ⟨(some 25), (Op.binOp BinOp.quo 3 (Operand.tmp 24) (Operand.const (Value.int IntKind.i64 4)) 3), none, ann0⟩,
  ⟨(some 26), (Op.binOp BinOp.mul 3 (Operand.tmp 25) (Operand.const (Value.int IntKind.i64 2)) 3), none, ann0⟩,
  ⟨(some 27), (Op.binOp BinOp.add 3 (Operand.tmp 23) (Operand.tmp 26) 3), none, ann0⟩,
  ⟨(some 13), (Op.assign (Operand.tmp 27)), none, ann0⟩] none)
 (.seq (.post (.reg [⟨(some 28), (Op.move (Operand.tmp 1)), none, ann0⟩,
  ⟨(some 29), (Op.move (Operand.tmp 10)), none, ann0⟩,
  ⟨(some 30), (Op.binOp BinOp.quo 3 (Operand.tmp 29) (Operand.const (Value.int IntKind.i64 4)) 3), none, ann0⟩,
  ⟨(some 31), (Op.binOp BinOp.mul 3 (Operand.tmp 30) (Operand.const (Value.int IntKind.i64 3)) 3), none, ann0⟩,
  ⟨(some 32), (Op.binOp BinOp.add 3 (Operand.tmp 28) (Operand.tmp 31) 3), none, ann0⟩,
  ⟨(some 14), (Op.assign (Operand.tmp 32)), none, ann0⟩] none) (.tidy [0, 3, 10, 11, 12, 13, 14] z (z + 1)))
 (.seq (.post (.seq (.reg [⟨(some 33), (Op.move (Operand.tmp 10)), none, ann0⟩,
  ⟨(some 34), (Op.binOp BinOp.geq 3 (Operand.tmp 33) (Operand.const (Value.int IntKind.i64 8)) 3), none, ann0⟩] none)
 (.cond (Operand.tmp 34) (.seq (.post (.seq (.reg [⟨(some 35), (Op.move (Operand.tmp 10)), none, ann0⟩,
  ⟨(some 36), (Op.binOp BinOp.geq 3 (Operand.tmp 35) (Operand.const (Value.int IntKind.i64 50)) 3), none, ann0⟩] none)
 (.cond (Operand.tmp 36) (.seq (.post (.reg [⟨(some 37), (Op.move (Operand.tmp 0)), none, ann0⟩,
  ⟨(some 38), (Op.move (Operand.tmp 12)), none, ann0⟩,
  ⟨(some 39), (Op.move (Operand.tmp 3)), none, ann0⟩,
  ⟨(some 40), (Op.call { callee := (Callee.value (Operand.func 80)), args := #[(Operand.tmp 37), (Operand.tmp 38), (Operand.tmp 11), (Operand.tmp 39)], argTypes := #[74, 3, 108, 76] }), none, ann0⟩,
  ⟨(some 12), (Op.assign (Operand.tmp 40)), none, ann0⟩] none) (.tidy [0, 3, 11, 12, 13, 14] z (z + 1)))
 (.seq (.reg [⟨(some 41), (Op.move (Operand.tmp 0)), none, ann0⟩,
  ⟨(some 42), (Op.move (Operand.tmp 13)), none, ann0⟩,
  ⟨(some 43), (Op.move (Operand.tmp 3)), none, ann0⟩,
  ⟨(some 44), (Op.call { callee := (Callee.value (Operand.func 80)), args := #[(Operand.tmp 41), (Operand.tmp 42), (Operand.tmp 11), (Operand.tmp 43)], argTypes := #[74, 3, 108, 76] }), none, ann0⟩,
  ⟨(some 13), (Op.assign (Operand.tmp 44)), none, ann0⟩] none)
 (.reg [⟨(some 45), (Op.move (Operand.tmp 0)), none, ann0⟩,
  ⟨(some 46), (Op.move (Operand.tmp 14)), none, ann0⟩,
  ⟨(some 47), (Op.move (Operand.tmp 3)), none, ann0⟩,
  ⟨(some 48), (Op.call { callee := (Callee.value (Operand.func 80)), args := #[(Operand.tmp 45), (Operand.tmp 46), (Operand.tmp 11), (Operand.tmp 47)], argTypes := #[74, 3, 108, 76] }), none, ann0⟩,
  ⟨(some 14), (Op.assign (Operand.tmp 48)), none, ann0⟩] none)))
 .skip)) (.tidy [0, 3, 11, 12, 13, 14] z (z + 1)))
 (.reg [⟨(some 49), (Op.move (Operand.tmp 0)), none, ann0⟩,
  ⟨(some 50), (Op.move (Operand.tmp 12)), none, ann0⟩,
  ⟨(some 51), (Op.move (Operand.tmp 13)), none, ann0⟩,
  ⟨(some 52), (Op.move (Operand.tmp 14)), none, ann0⟩,
  ⟨(some 53), (Op.move (Operand.tmp 3)), none, ann0⟩,
  ⟨(some 54), (Op.call { callee := (Callee.value (Operand.func 81)), args := #[(Operand.tmp 49), (Operand.tmp 50), (Operand.tmp 51), (Operand.tmp 52), (Operand.tmp 11), (Operand.tmp 53)], argTypes := #[74, 3, 3, 3, 108, 76] }), none, ann0⟩,
  ⟨(some 13), (Op.assign (Operand.tmp 54)), none, ann0⟩] none))
 .skip)) (.tidy [11, 13] z (z + 1)))
 (.seq (.reg [⟨(some 55), (Op.load 3 (Operand.tmp 11)), none, ann0⟩] none)
 (.block 0 (.seq (.reg [⟨(some 58), (Op.binOp BinOp.eql 3 (Operand.tmp 55) (Operand.const (Value.int IntKind.i64 0)) 3), none, ann0⟩,
  ⟨(some 57), (Op.assign (Operand.tmp 58)), none, ann0⟩] none)
 (.cond (Operand.tmp 57) (.seq (.reg [⟨(some 59), (Op.move (Operand.tmp 13)), none, ann0⟩,
  ⟨(some 8), (Op.assign (Operand.tmp 59)), none, ann0⟩,
  ⟨(some 9), (Op.assign (Operand.const (Value.int IntKind.i64 1))), none, ann0⟩] none)
 .ret)
 (.seq (.reg [⟨(some 61), (Op.binOp BinOp.eql 3 (Operand.tmp 55) (Operand.const (Value.int IntKind.i64 12)) 3), none, ann0⟩,
  ⟨(some 60), (Op.assign (Operand.tmp 61)), none, ann0⟩] none)
 (.cond (Operand.tmp 60) (.seq (.reg [⟨(some 62), (Op.move (Operand.tmp 13)), none, ann0⟩,
  ⟨(some 8), (Op.assign (Operand.tmp 62)), none, ann0⟩,
  ⟨(some 9), (Op.assign (Operand.const (Value.int IntKind.i64 2))), none, ann0⟩] none)
 .ret)
 (.seq (.reg [⟨(some 56), (Op.move (Operand.tmp 13)), none, ann0⟩,
  ⟨(some 8), (Op.assign (Operand.tmp 56)), none, ann0⟩,
  ⟨(some 9), (Op.assign (Operand.const (Value.int IntKind.i64 0))), none, ann0⟩] none)
 .ret))))))))))))))⟩
theorem F62 (z : Nat) : FOk Try.prog 62 (s62 z) := by unfold FOk; kernel_rfl
def c63_1 (z : Nat) : SC := .post (.seq (.post (.seq (.reg [⟨(some 13), (Op.move (Operand.tmp 8)), none, ann0⟩,
  ⟨(some 14), (Op.move (Operand.tmp 9)), none, ann0⟩,
  ⟨(some 15), (Op.binOp BinOp.lss 3 (Operand.tmp 13) (Operand.tmp 14) 3), none, ann0⟩] none)
 (.cond (Operand.tmp 15) .skip
 (.exit 0))) (.tidy [0, 8, 9] z (z + 0)))
 (.block 1 (.seq (.post (.reg [⟨(some 16), (Op.move (Operand.tmp 0)), none, ann0⟩,
  ⟨(some 17), (Op.move (Operand.tmp 8)), none, ann0⟩,
  ⟨(some 18), (Op.move (Operand.tmp 0)), none, ann0⟩,
  ⟨(some 19), (Op.move (Operand.tmp 9)), none, ann0⟩,
  ⟨(some 20), (Op.move (Operand.tmp 0)), none, ann0⟩,
  ⟨(some 21), (Op.move (Operand.tmp 9)), none, ann0⟩,
  ⟨(some 22), (Op.indexAddr 74 (Operand.tmp 20) (Operand.tmp 21)), none, ann0⟩,
  ⟨(some 23), (Op.load 3 (Operand.tmp 22)), none, ann0⟩,
  ⟨(some 24), (Op.move (Operand.tmp 0)), none, ann0⟩,
  ⟨(some 25), (Op.move (Operand.tmp 8)), none, ann0⟩,
  ⟨(some 26), (Op.indexAddr 74 (Operand.tmp 24) (Operand.tmp 25)), none, ann0⟩,
  ⟨(some 27), (Op.load 3 (Operand.tmp 26)), none, ann0⟩,
  ⟨(some 28), (Op.indexAddr 74 (Operand.tmp 16) (Operand.tmp 17)), none, ann0⟩,
  ⟨none, (Op.store 3 (Operand.tmp 28) (Operand.tmp 23)), none, ann0⟩,
  ⟨(some 29), (Op.indexAddr 74 (Operand.tmp 18) (Operand.tmp 19)), none, ann0⟩,
  ⟨none, (Op.store 3 (Operand.tmp 29) (Operand.tmp 27)), none, ann0⟩] (some [0, 0, 0, 0, 0, 0, 48, 112, 0, 0, 768, 1792, 4083, 8179, 16383, 32767])) (.tidy [0, 8, 9] z (z + 0)))
 (.seq (.reg [⟨(some 30), (Op.move (Operand.tmp 8)), none, ann0⟩,
  ⟨(some 31), (Op.binOp BinOp.add 3 (Operand.tmp 30) (Operand.const (Value.int IntKind.i64 1)) 3), none, ann0⟩,
  ⟨(some 8), (Op.assign (Operand.tmp 31)), none, ann0⟩] none)
 (.reg [⟨(some 32), (Op.move (Operand.tmp 9)), none, ann0⟩,
  ⟨(some 33), (Op.binOp BinOp.sub 3 (Operand.tmp 32) (Operand.const (Value.int IntKind.i64 1)) 3), none, ann0⟩,
  ⟨(some 9), (Op.assign (Operand.tmp 33)), none, ann0⟩] none))))) (.tidy [0, 8, 9] z (z + 0))
def s63_1 (z : Nat) : SC := c63_1 z
theorem e63_1 {C : Pg} {z : Nat} {st : St} {ks : List Fr} {K : Ex → St → Prop} : wpk C (s63_1 z) st ks K ↔ wpk C (c63_1 z) st ks K := Iff.rfl
def s63 (z : Nat) : SFn := ⟨4, 34, [],
 (.seq (.reg [⟨(some 10), (Op.move (Operand.tmp 1)), none, ann0⟩,
  ⟨(some 8), (Op.assign (Operand.tmp 10)), none, ann0⟩] none)
 (.seq (.reg [⟨(some 11), (Op.move (Operand.tmp 2)), none, ann0⟩,
  ⟨(some 12), (Op.binOp BinOp.sub 3 (Operand.tmp 11) (Operand.const (Value.int IntKind.i64 1)) 3), none, ann0⟩,
  ⟨(some 9), (Op.assign (Operand.tmp 12)), none, ann0⟩] none)
 (.post (.block 0 (.pre (.tidy [0, 8, 9] z (z + 0)) (.loop (s63_1 z)))) (.tidy [] z (z + 0)))))⟩
theorem F63 (z : Nat) : FOk Try.prog 63 (s63 z) := by unfold FOk; kernel_rfl
def c64_2 (z : Nat) : SC := .post (.seq (.post (.seq (.post (.reg [⟨(some 19), (Op.move (Operand.tmp 9)), none, ann0⟩,
  ⟨(some 20), (Op.move (Operand.tmp 2)), none, ann0⟩,
  ⟨(some 21), (Op.binOp BinOp.lss 3 (Operand.tmp 19) (Operand.tmp 20) 3), none, ann0⟩,
  ⟨(some 22), (Op.move (Operand.tmp 21)), none, ann0⟩,
  ⟨(some 23), (Op.move (Operand.tmp 3)), (some (22, true)), ann0⟩,
  ⟨(some 24), (Op.move (Operand.tmp 0)), (some (22, true)), ann0⟩,
  ⟨(some 25), (Op.move (Operand.tmp 9)), (some (22, true)), ann0⟩,
  ⟨(some 26), (Op.indexAddr 74 (Operand.tmp 24) (Operand.tmp 25)), (some (22, true)), ann0⟩,
  ⟨(some 27), (Op.load 3 (Operand.tmp 26)), (some (22, true)), ann0⟩,
  ⟨(some 28), (Op.move (Operand.tmp 0)), (some (22, true)), ann0⟩,
  ⟨(some 29), (Op.move (Operand.tmp 9)), (some (22, true)), ann0⟩,
  ⟨(some 30), (Op.binOp BinOp.sub 3 (Operand.tmp 29) (Operand.const (Value.int IntKind.i64 1)) 3), (some (22, true)), ann0⟩,
  ⟨(some 31), (Op.indexAddr 74 (Operand.tmp 28) (Operand.tmp 30)), (some (22, true)), ann0⟩,
  ⟨(some 32), (Op.load 3 (Operand.tmp 31)), (some (22, true)), ann0⟩,
  ⟨(some 33), (Op.call { callee := (Callee.value (Operand.tmp 23)), args := #[(Operand.tmp 27), (Operand.tmp 32)], argTypes := #[3, 3] }), (some (22, true)), ann0⟩,
  ⟨(some 34), (Op.binOp BinOp.lss 3 (Operand.tmp 33) (Operand.const (Value.int IntKind.i64 0)) 3), (some (22, true)), ann0⟩,
  ⟨(some 35), (Op.unOp UnOp.not 4 (Operand.tmp 34)), (some (22, true)), ann0⟩,
  ⟨(some 36), (Op.pick (Operand.tmp 22) (Operand.tmp 35) (Operand.const (Value.bool false))), none, ann0⟩] (some [0, 0, 3, 7, 15, 15, 15, 111, 239, 15, 15, 1039, 3599, 7695, 16383, 32767, 65535, 131071])) (.tidy [0, 1, 2, 3, 9, 10, 36] z (z + 0)))
 (.cond (Operand.tmp 36) .skip
 (.exit 2))) (.tidy [0, 1, 2, 3, 9, 10] z (z + 0)))
 (.block 3 (.reg [⟨(some 37), (Op.move (Operand.tmp 9)), none, ann0⟩,
  ⟨(some 38), (Op.binOp BinOp.add 3 (Operand.tmp 37) (Operand.const (Value.int IntKind.i64 1)) 3), none, ann0⟩,
  ⟨(some 9), (Op.assign (Operand.tmp 38)), none, ann0⟩] none))) (.tidy [0, 1, 2, 3, 9, 10] z (z + 0))
def s64_2 (z : Nat) : SC := c64_2 z
theorem e64_2 {C : Pg} {z : Nat} {st : St} {ks : List Fr} {K : Ex → St → Prop} : wpk C (s64_2 z) st ks K ↔ wpk C (c64_2 z) st ks K := Iff.rfl
def c64_3 (z : Nat) : SC := .post (.seq (.seq (.post (.reg [⟨(some 68), (Op.move (Operand.tmp 11)), none, ann0⟩,
  ⟨(some 69), (Op.binOp BinOp.geq 3 (Operand.tmp 68) (Operand.const (Value.int IntKind.i64 1)) 3), none, ann0⟩] none) (.tidy [0, 1, 2, 3, 9, 10, 11, 69] z (z + 0)))
 (.cond (Operand.tmp 69) .skip
 (.exit 4)))
 (.seq (.post (.block 5 (.seq (.post (.seq (.post (.reg [⟨(some 72), (Op.move (Operand.tmp 3)), none, ann0⟩,
  ⟨(some 73), (Op.move (Operand.tmp 0)), none, ann0⟩,
  ⟨(some 74), (Op.move (Operand.tmp 11)), none, ann0⟩,
  ⟨(some 75), (Op.indexAddr 74 (Operand.tmp 73) (Operand.tmp 74)), none, ann0⟩,
  ⟨(some 76), (Op.load 3 (Operand.tmp 75)), none, ann0⟩,
  ⟨(some 77), (Op.move (Operand.tmp 0)), none, ann0⟩,
  ⟨(some 78), (Op.move (Operand.tmp 11)), none, ann0⟩,
  ⟨(some 79), (Op.binOp BinOp.sub 3 (Operand.tmp 78) (Operand.const (Value.int IntKind.i64 1)) 3), none, ann0⟩,
  ⟨(some 80), (Op.indexAddr 74 (Operand.tmp 77) (Operand.tmp 79)), none, ann0⟩,
  ⟨(some 81), (Op.load 3 (Operand.tmp 80)), none, ann0⟩,
  ⟨(some 82), (Op.call { callee := (Callee.value (Operand.tmp 72)), args := #[(Operand.tmp 76), (Operand.tmp 81)], argTypes := #[3, 3] }), none, ann0⟩,
  ⟨(some 83), (Op.binOp BinOp.lss 3 (Operand.tmp 82) (Operand.const (Value.int IntKind.i64 0)) 3), none, ann0⟩,
  ⟨(some 84), (Op.unOp UnOp.not 4 (Operand.tmp 83)), none, ann0⟩] (some [0, 0, 0, 6, 14, 0, 0, 64, 224, 480, 1023, 2047, 4095])) (.tidy [0, 1, 2, 3, 9, 10, 11, 84] z (z + 0)))
 (.cond (Operand.tmp 84) (.exit 4)
 .skip)) (.tidy [0, 1, 2, 3, 9, 10, 11] z (z + 0)))
 (.reg [⟨(some 85), (Op.move (Operand.tmp 0)), none, ann0⟩,
  ⟨(some 86), (Op.move (Operand.tmp 11)), none, ann0⟩,
  ⟨(some 87), (Op.move (Operand.tmp 0)), none, ann0⟩,
  ⟨(some 88), (Op.move (Operand.tmp 11)), none, ann0⟩,
  ⟨(some 89), (Op.binOp BinOp.sub 3 (Operand.tmp 88) (Operand.const (Value.int IntKind.i64 1)) 3), none, ann0⟩,
  ⟨(some 90), (Op.move (Operand.tmp 0)), none, ann0⟩,
  ⟨(some 91), (Op.move (Operand.tmp 11)), none, ann0⟩,
  ⟨(some 92), (Op.binOp BinOp.sub 3 (Operand.tmp 91) (Operand.const (Value.int IntKind.i64 1)) 3), none, ann0⟩,
  ⟨(some 93), (Op.indexAddr 74 (Operand.tmp 90) (Operand.tmp 92)), none, ann0⟩,
  ⟨(some 94), (Op.load 3 (Operand.tmp 93)), none, ann0⟩,
  ⟨(some 95), (Op.move (Operand.tmp 0)), none, ann0⟩,
  ⟨(some 96), (Op.move (Operand.tmp 11)), none, ann0⟩,
  ⟨(some 97), (Op.indexAddr 74 (Operand.tmp 95) (Operand.tmp 96)), none, ann0⟩,
  ⟨(some 98), (Op.load 3 (Operand.tmp 97)), none, ann0⟩,
  ⟨(some 99), (Op.indexAddr 74 (Operand.tmp 85) (Operand.tmp 86)), none, ann0⟩,
  ⟨none, (Op.store 3 (Operand.tmp 99) (Operand.tmp 94)), none, ann0⟩,
  ⟨(some 100), (Op.indexAddr 74 (Operand.tmp 87) (Operand.tmp 89)), none, ann0⟩,
  ⟨none, (Op.store 3 (Operand.tmp 100) (Operand.tmp 98)), none, ann0⟩] (some [0, 0, 0, 0, 8, 0, 0, 64, 224, 480, 0, 0, 3072, 7168, 16355, 32739, 65535, 131071])))) (.tidy [0, 1, 2, 3, 9, 10, 11] z (z + 0)))
 (.reg [⟨(some 70), (Op.move (Operand.tmp 11)), none, ann0⟩,
  ⟨(some 71), (Op.binOp BinOp.sub 3 (Operand.tmp 70) (Operand.const (Value.int IntKind.i64 1)) 3), none, ann0⟩,
  ⟨(some 11), (Op.assign (Operand.tmp 71)), none, ann0⟩] none))) (.tidy [0, 1, 2, 3, 9, 10, 11] z (z + 0))
def s64_3 (z : Nat) : SC := c64_3 z
theorem e64_3 {C : Pg} {z : Nat} {st : St} {ks : List Fr} {K : Ex → St → Prop} : wpk C (s64_3 z) st ks K ↔ wpk C (c64_3 z) st ks K := Iff.rfl
def c64_4 (z : Nat) : SC := .post (.seq (.seq (.post (.reg [⟨(some 107), (Op.move (Operand.tmp 12)), none, ann0⟩,
  ⟨(some 108), (Op.move (Operand.tmp 2)), none, ann0⟩,
  ⟨(some 109), (Op.binOp BinOp.lss 3 (Operand.tmp 107) (Operand.tmp 108) 3), none, ann0⟩] none) (.tidy [0, 1, 2, 3, 9, 10, 12, 109] z (z + 0)))
 (.cond (Operand.tmp 109) .skip
 (.exit 6)))
 (.seq (.post (.block 7 (.seq (.post (.seq (.post (.reg [⟨(some 112), (Op.move (Operand.tmp 3)), none, ann0⟩,
  ⟨(some 113), (Op.move (Operand.tmp 0)), none, ann0⟩,
  ⟨(some 114), (Op.move (Operand.tmp 12)), none, ann0⟩,
  ⟨(some 115), (Op.indexAddr 74 (Operand.tmp 113) (Operand.tmp 114)), none, ann0⟩,
  ⟨(some 116), (Op.load 3 (Operand.tmp 115)), none, ann0⟩,
  ⟨(some 117), (Op.move (Operand.tmp 0)), none, ann0⟩,
  ⟨(some 118), (Op.move (Operand.tmp 12)), none, ann0⟩,
  ⟨(some 119), (Op.binOp BinOp.sub 3 (Operand.tmp 118) (Operand.const (Value.int IntKind.i64 1)) 3), none, ann0⟩,
  ⟨(some 120), (Op.indexAddr 74 (Operand.tmp 117) (Operand.tmp 119)), none, ann0⟩,
  ⟨(some 121), (Op.load 3 (Operand.tmp 120)), none, ann0⟩,
  ⟨(some 122), (Op.call { callee := (Callee.value (Operand.tmp 112)), args := #[(Operand.tmp 116), (Operand.tmp 121)], argTypes := #[3, 3] }), none, ann0⟩,
  ⟨(some 123), (Op.binOp BinOp.lss 3 (Operand.tmp 122) (Operand.const (Value.int IntKind.i64 0)) 3), none, ann0⟩,
  ⟨(some 124), (Op.unOp UnOp.not 4 (Operand.tmp 123)), none, ann0⟩] (some [0, 0, 0, 6, 14, 0, 0, 64, 224, 480, 1023, 2047, 4095])) (.tidy [0, 1, 2, 3, 9, 10, 12, 124] z (z + 0)))
 (.cond (Operand.tmp 124) (.exit 6)
 .skip)) (.tidy [0, 1, 2, 3, 9, 10, 12] z (z + 0)))
 (.reg [⟨(some 125), (Op.move (Operand.tmp 0)), none, ann0⟩,
  ⟨(some 126), (Op.move (Operand.tmp 12)), none, ann0⟩,
  ⟨(some 127), (Op.move (Operand.tmp 0)), none, ann0⟩,
  ⟨(some 128), (Op.move (Operand.tmp 12)), none, ann0⟩,
  ⟨(some 129), (Op.binOp BinOp.sub 3 (Operand.tmp 128) (Operand.const (Value.int IntKind.i64 1)) 3), none, ann0⟩,
  ⟨(some 130), (Op.move (Operand.tmp 0)), none, ann0⟩,
  ⟨(some 131), (Op.move (Operand.tmp 12)), none, ann0⟩,
  ⟨(some 132), (Op.binOp BinOp.sub 3 (Operand.tmp 131) (Operand.const (Value.int IntKind.i64 1)) 3), none, ann0⟩,
  ⟨(some 133), (Op.indexAddr 74 (Operand.tmp 130) (Operand.tmp 132)), none, ann0⟩,
  ⟨(some 134), (Op.load 3 (Operand.tmp 133)), none, ann0⟩,
  ⟨(some 135), (Op.move (Operand.tmp 0)), none, ann0⟩,
  ⟨(some 136), (Op.move (Operand.tmp 12)), none, ann0⟩,
  ⟨(some 137), (Op.indexAddr 74 (Operand.tmp 135) (Operand.tmp 136)), none, ann0⟩,
  ⟨(some 138), (Op.load 3 (Operand.tmp 137)), none, ann0⟩,
  ⟨(some 139), (Op.indexAddr 74 (Operand.tmp 125) (Operand.tmp 126)), none, ann0⟩,
  ⟨none, (Op.store 3 (Operand.tmp 139) (Operand.tmp 134)), none, ann0⟩,
  ⟨(some 140), (Op.indexAddr 74 (Operand.tmp 127) (Operand.tmp 129)), none, ann0⟩,
  ⟨none, (Op.store 3 (Operand.tmp 140) (Operand.tmp 138)), none, ann0⟩] (some [0, 0, 0, 0, 8, 0, 0, 64, 224, 480, 0, 0, 3072, 7168, 16355, 32739, 65535, 131071])))) (.tidy [0, 1, 2, 3, 9, 10, 12] z (z + 0)))
 (.reg [⟨(some 110), (Op.move (Operand.tmp 12)), none, ann0⟩,
  ⟨(some 111), (Op.binOp BinOp.add 3 (Operand.tmp 110) (Operand.const (Value.int IntKind.i64 1)) 3), none, ann0⟩,
  ⟨(some 12), (Op.assign (Operand.tmp 111)), none, ann0⟩] none))) (.tidy [0, 1, 2, 3, 9, 10, 12] z (z + 0))
def s64_4 (z : Nat) : SC := c64_4 z
theorem e64_4 {C : Pg} {z : Nat} {st : St} {ks : List Fr} {K : Ex → St → Prop} : wpk C (s64_4 z) st ks K ↔ wpk C (c64_4 z) st ks K := Iff.rfl
def c64_1 (z : Nat) : SC := .post (.seq (.post (.seq (.reg [⟨(some 15), (Op.move (Operand.tmp 10)), none, ann0⟩,
  ⟨(some 16), (Op.binOp BinOp.lss 3 (Operand.tmp 15) (Operand.const (Value.int IntKind.i64 5)) 3), none, ann0⟩] none)
 (.cond (Operand.tmp 16) .skip
 (.exit 0))) (.tidy [0, 1, 2, 3, 9, 10] z (z + 0)))
 (.seq (.post (.block 1 (.seq (.post (.block 2 (.pre (.tidy [0, 1, 2, 3, 9, 10] z (z + 0)) (.loop (s64_2 z)))) (.tidy [0, 1, 2, 3, 9, 10] z (z + 0)))
 (.seq (.seq (.post (.reg [⟨(some 39), (Op.move (Operand.tmp 9)), none, ann0⟩,
  ⟨(some 40), (Op.move (Operand.tmp 2)), none, ann0⟩,
  ⟨(some 41), (Op.binOp BinOp.eql 3 (Operand.tmp 39) (Operand.tmp 40) 3), none, ann0⟩] none) (.tidy [0, 1, 2, 3, 9, 10, 41] z (z + 0)))
 (.cond (Operand.tmp 41) (.seq (.reg [⟨(some 8), (Op.assign (Operand.const (Value.bool true))), none, ann0⟩] none)
 .ret)
 .skip))
 (.seq (.seq (.post (.reg [⟨(some 42), (Op.move (Operand.tmp 2)), none, ann0⟩,
  ⟨(some 43), (Op.move (Operand.tmp 1)), none, ann0⟩,
  ⟨(some 44), (Op.binOp BinOp.sub 3 (Operand.tmp 42) (Operand.tmp 43) 3), none, ann0⟩,
  ⟨(some 45), (Op.binOp BinOp.lss 3 (Operand.tmp 44) (Operand.const (Value.int IntKind.i64 50)) 3), none, ann0⟩] none) (.tidy [0, 1, 2, 3, 9, 10, 45] z (z + 0)))
 (.cond (Operand.tmp 45) (.seq (.reg [⟨(some 8), (Op.assign (Operand.const (Value.bool false))), none, ann0⟩] none)
 .ret)
 .skip))
 (.seq (.post (.reg [⟨(some 46), (Op.move (Operand.tmp 0)), none, ann0⟩,
  ⟨(some 47), (Op.move (Operand.tmp 9)), none, ann0⟩,
  ⟨(some 48), (Op.move (Operand.tmp 0)), none, ann0⟩,
  ⟨(some 49), (Op.move (Operand.tmp 9)), none, ann0⟩,
  ⟨(some 50), (Op.binOp BinOp.sub 3 (Operand.tmp 49) (Operand.const (Value.int IntKind.i64 1)) 3), none, ann0⟩,
  ⟨(some 51), (Op.move (Operand.tmp 0)), none, ann0⟩,
  ⟨(some 52), (Op.move (Operand.tmp 9)), none, ann0⟩,
  ⟨(some 53), (Op.binOp BinOp.sub 3 (Operand.tmp 52) (Operand.const (Value.int IntKind.i64 1)) 3), none, ann0⟩,
  ⟨(some 54), (Op.indexAddr 74 (Operand.tmp 51) (Operand.tmp 53)), none, ann0⟩,
  ⟨(some 55), (Op.load 3 (Operand.tmp 54)), none, ann0⟩,
  ⟨(some 56), (Op.move (Operand.tmp 0)), none, ann0⟩,
  ⟨(some 57), (Op.move (Operand.tmp 9)), none, ann0⟩,
  ⟨(some 58), (Op.indexAddr 74 (Operand.tmp 56) (Operand.tmp 57)), none, ann0⟩,
  ⟨(some 59), (Op.load 3 (Operand.tmp 58)), none, ann0⟩,
  ⟨(some 60), (Op.indexAddr 74 (Operand.tmp 46) (Operand.tmp 47)), none, ann0⟩,
  ⟨none, (Op.store 3 (Operand.tmp 60) (Operand.tmp 55)), none, ann0⟩,
  ⟨(some 61), (Op.indexAddr 74 (Operand.tmp 48) (Operand.tmp 50)), none, ann0⟩,
  ⟨none, (Op.store 3 (Operand.tmp 61) (Operand.tmp 59)), none, ann0⟩] (some [0, 0, 0, 0, 8, 0, 0, 64, 224, 480, 0, 0, 3072, 7168, 16355, 32739, 65535, 131071])) (.tidy [0, 1, 2, 3, 9, 10] z (z + 0)))
 (.seq (.post (.seq (.reg [⟨(some 62), (Op.move (Operand.tmp 9)), none, ann0⟩,
  ⟨(some 63), (Op.move (Operand.tmp 1)), none, ann0⟩,
  ⟨(some 64), (Op.binOp BinOp.sub 3 (Operand.tmp 62) (Operand.tmp 63) 3), none, ann0⟩,
  ⟨(some 65), (Op.binOp BinOp.geq 3 (Operand.tmp 64) (Operand.const (Value.int IntKind.i64 2)) 3), none, ann0⟩] none)
 (.cond (Operand.tmp 65) (.seq (.reg [⟨(some 66), (Op.move (Operand.tmp 9)), none, ann0⟩,
  ⟨(some 67), (Op.binOp BinOp.sub 3 (Operand.tmp 66) (Operand.const (Value.int IntKind.i64 1)) 3), none, ann0⟩,
  ⟨(some 11), (Op.assign (Operand.tmp 67)), none, ann0⟩] none)
 (.post (.block 4 (.pre (.tidy [0, 1, 2, 3, 9, 10, 11] z (z + 0)) (.loop (s64_3 z)))) (.tidy [0, 1, 2, 3, 9, 10] z (z + 0))))
 .skip)) (.tidy [0, 1, 2, 3, 9, 10] z (z + 0)))
 (.seq (.reg [⟨(some 101), (Op.move (Operand.tmp 2)), none, ann0⟩,
  ⟨(some 102), (Op.move (Operand.tmp 9)), none, ann0⟩,
  ⟨(some 103), (Op.binOp BinOp.sub 3 (Operand.tmp 101) (Operand.tmp 102) 3), none, ann0⟩,
  ⟨(some 104), (Op.binOp BinOp.geq 3 (Operand.tmp 103) (Operand.const (Value.int IntKind.i64 2)) 3), none, ann0⟩] none)
 (.cond (Operand.tmp 104) (.seq (.reg [⟨(some 105), (Op.move (Operand.tmp 9)), none, ann0⟩,
  ⟨(some 106), (Op.binOp BinOp.add 3 (Operand.tmp 105) (Operand.const (Value.int IntKind.i64 1)) 3), none, ann0⟩,
  ⟨(some 12), (Op.assign (Operand.tmp 106)), none, ann0⟩] none)
 (.post (.block 6 (.pre (.tidy [0, 1, 2, 3, 9, 10, 12] z (z + 0)) (.loop (s64_4 z)))) (.tidy [0, 1, 2, 3, 9, 10] z (z + 0))))
 .skip)))))))) (.tidy [0, 1, 2, 3, 9, 10] z (z + 0)))
 (.reg [⟨(some 17), (Op.move (Operand.tmp 10)), none, ann0⟩,
  ⟨(some 18), (Op.binOp BinOp.add 3 (Operand.tmp 17) (Operand.const (Value.int IntKind.i64 1)) 3), none, ann0⟩,
  ⟨(some 10), (Op.assign (Operand.tmp 18)), none, ann0⟩] none))) (.tidy [0, 1, 2, 3, 9, 10] z (z + 0))
def s64_1 (z : Nat) : SC := c64_1 z
theorem e64_1 {C : Pg} {z : Nat} {st : St} {ks : List Fr} {K : Ex → St → Prop} : wpk C (s64_1 z) st ks K ↔ wpk C (c64_1 z) st ks K := Iff.rfl
def s64 (z : Nat) : SFn := ⟨4, 141, [(ResultVar.tmp 8)],
 (.seq (.reg [⟨(some 8), (Op.assign (Operand.const (Value.bool false))), none, ann0⟩] none)
 (.seq (.reg [⟨(some 13), (Op.move (Operand.tmp 1)), none, ann0⟩,
  ⟨(some 14), (Op.binOp BinOp.add 3 (Operand.tmp 13) (Operand.const (Value.int IntKind.i64 1)) 3), none, ann0⟩,
  ⟨(some 9), (Op.assign (Operand.tmp 14)), none, ann0⟩] none)
 (.seq (.post (.seq (.reg [⟨(some 10), (Op.assign (Operand.const (Value.int IntKind.i64 0))), none, ann0⟩] none)
 (.post (.block 0 (.pre (.tidy [0, 1, 2, 3, 9, 10] z (z + 0)) (.loop (s64_1 z)))) (.tidy [] z (z + 0)))) (.tidy [] z (z + 0)))
 (.seq (.reg [⟨(some 8), (Op.assign (Operand.const (Value.bool false))), none, ann0⟩] none)
 .ret))))⟩
theorem F64 (z : Nat) : FOk Try.prog 64 (s64 z) := by unfold FOk; kernel_rfl
def c65_2 (z : Nat) : SC := .post (.seq (.post (.seq (.post (.reg [⟨(some 31), (Op.move (Operand.tmp 11)), none, ann0⟩,
  ⟨(some 32), (Op.move (Operand.tmp 12)), none, ann0⟩,
  ⟨(some 33), (Op.binOp BinOp.leq 3 (Operand.tmp 31) (Operand.tmp 32) 3), none, ann0⟩,
  ⟨(some 34), (Op.move (Operand.tmp 33)), none, ann0⟩,
  ⟨(some 35), (Op.move (Operand.tmp 4)), (some (34, true)), ann0⟩,
  ⟨(some 36), (Op.move (Operand.tmp 0)), (some (34, true)), ann0⟩,
  ⟨(some 37), (Op.move (Operand.tmp 1)), (some (34, true)), ann0⟩,
  ⟨(some 38), (Op.indexAddr 74 (Operand.tmp 36) (Operand.tmp 37)), (some (34, true)), ann0⟩,
  ⟨(some 39), (Op.load 3 (Operand.tmp 38)), (some (34, true)), ann0⟩,
  ⟨(some 40), (Op.move (Operand.tmp 0)), (some (34, true)), ann0⟩,
  ⟨(some 41), (Op.move (Operand.tmp 11)), (some (34, true)), ann0⟩,
  ⟨(some 42), (Op.indexAddr 74 (Operand.tmp 40) (Operand.tmp 41)), (some (34, true)), ann0⟩,
  ⟨(some 43), (Op.load 3 (Operand.tmp 42)), (some (34, true)), ann0⟩,
  ⟨(some 44), (Op.call { callee := (Callee.value (Operand.tmp 35)), args := #[(Operand.tmp 39), (Operand.tmp 43)], argTypes := #[3, 3] }), (some (34, true)), ann0⟩,
  ⟨(some 45), (Op.binOp BinOp.lss 3 (Operand.tmp 44) (Operand.const (Value.int IntKind.i64 0)) 3), (some (34, true)), ann0⟩,
  ⟨(some 46), (Op.unOp UnOp.not 4 (Operand.tmp 45)), (some (34, true)), ann0⟩,
  ⟨(some 47), (Op.pick (Operand.tmp 34) (Operand.tmp 46) (Operand.const (Value.bool false))), none, ann0⟩] (some [0, 0, 3, 7, 15, 15, 15, 111, 239, 15, 15, 1551, 3599, 8191, 16383, 32767, 65535])) (.tidy [0, 1, 4, 11, 12, 47] z (z + 0)))
 (.cond (Operand.tmp 47) .skip
 (.exit 2))) (.tidy [0, 1, 4, 11, 12] z (z + 0)))
 (.block 3 (.reg [⟨(some 48), (Op.move (Operand.tmp 11)), none, ann0⟩,
  ⟨(some 49), (Op.binOp BinOp.add 3 (Operand.tmp 48) (Operand.const (Value.int IntKind.i64 1)) 3), none, ann0⟩,
  ⟨(some 11), (Op.assign (Operand.tmp 49)), none, ann0⟩] none))) (.tidy [0, 1, 4, 11, 12] z (z + 0))
def s65_2 (z : Nat) : SC := c65_2 z
theorem e65_2 {C : Pg} {z : Nat} {st : St} {ks : List Fr} {K : Ex → St → Prop} : wpk C (s65_2 z) st ks K ↔ wpk C (c65_2 z) st ks K := Iff.rfl
def c65_3 (z : Nat) : SC := .post (.seq (.post (.seq (.post (.reg [⟨(some 50), (Op.move (Operand.tmp 11)), none, ann0⟩,
  ⟨(some 51), (Op.move (Operand.tmp 12)), none, ann0⟩,
  ⟨(some 52), (Op.binOp BinOp.leq 3 (Operand.tmp 50) (Operand.tmp 51) 3), none, ann0⟩,
  ⟨(some 53), (Op.move (Operand.tmp 52)), none, ann0⟩,
  ⟨(some 54), (Op.move (Operand.tmp 4)), (some (53, true)), ann0⟩,
  ⟨(some 55), (Op.move (Operand.tmp 0)), (some (53, true)), ann0⟩,
  ⟨(some 56), (Op.move (Operand.tmp 1)), (some (53, true)), ann0⟩,
  ⟨(some 57), (Op.indexAddr 74 (Operand.tmp 55) (Operand.tmp 56)), (some (53, true)), ann0⟩,
  ⟨(some 58), (Op.load 3 (Operand.tmp 57)), (some (53, true)), ann0⟩,
  ⟨(some 59), (Op.move (Operand.tmp 0)), (some (53, true)), ann0⟩,
  ⟨(some 60), (Op.move (Operand.tmp 12)), (some (53, true)), ann0⟩,
  ⟨(some 61), (Op.indexAddr 74 (Operand.tmp 59) (Operand.tmp 60)), (some (53, true)), ann0⟩,
  ⟨(some 62), (Op.load 3 (Operand.tmp 61)), (some (53, true)), ann0⟩,
  ⟨(some 63), (Op.call { callee := (Callee.value (Operand.tmp 54)), args := #[(Operand.tmp 58), (Operand.tmp 62)], argTypes := #[3, 3] }), (some (53, true)), ann0⟩,
  ⟨(some 64), (Op.binOp BinOp.lss 3 (Operand.tmp 63) (Operand.const (Value.int IntKind.i64 0)) 3), (some (53, true)), ann0⟩,
  ⟨(some 65), (Op.pick (Operand.tmp 53) (Operand.tmp 64) (Operand.const (Value.bool false))), none, ann0⟩] (some [0, 0, 3, 7, 15, 15, 15, 111, 239, 15, 15, 1551, 3599, 8191, 16383, 32767])) (.tidy [0, 1, 4, 11, 12, 65] z (z + 0)))
 (.cond (Operand.tmp 65) .skip
 (.exit 4))) (.tidy [0, 1, 4, 11, 12] z (z + 0)))
 (.block 5 (.reg [⟨(some 66), (Op.move (Operand.tmp 12)), none, ann0⟩,
  ⟨(some 67), (Op.binOp BinOp.sub 3 (Operand.tmp 66) (Operand.const (Value.int IntKind.i64 1)) 3), none, ann0⟩,
  ⟨(some 12), (Op.assign (Operand.tmp 67)), none, ann0⟩] none))) (.tidy [0, 1, 4, 11, 12] z (z + 0))
def s65_3 (z : Nat) : SC := c65_3 z
theorem e65_3 {C : Pg} {z : Nat} {st : St} {ks : List Fr} {K : Ex → St → Prop} : wpk C (s65_3 z) st ks K ↔ wpk C (c65_3 z) st ks K := Iff.rfl
def c65_1 (z : Nat) : SC := .post (.post (.block 1 (.seq (.post (.block 2 (.pre (.tidy [0, 1, 4, 11, 12] z (z + 0)) (.loop (s65_2 z)))) (.tidy [0, 1, 4, 11, 12] z (z + 0)))
 (.seq (.post (.block 4 (.pre (.tidy [0, 1, 4, 11, 12] z (z + 0)) (.loop (s65_3 z)))) (.tidy [0, 1, 4, 11, 12] z (z + 0)))
 (.seq (.seq (.post (.reg [⟨(some 68), (Op.move (Operand.tmp 11)), none, ann0⟩,
  ⟨(some 69), (Op.move (Operand.tmp 12)), none, ann0⟩,
  ⟨(some 70), (Op.binOp BinOp.gtr 3 (Operand.tmp 68) (Operand.tmp 69) 3), none, ann0⟩] none) (.tidy [0, 1, 4, 11, 12, 70] z (z + 0)))
 (.cond (Operand.tmp 70) (.exit 0)
 .skip))
 (.seq (.post (.reg [⟨(some 71), (Op.move (Operand.tmp 0)), none, ann0⟩,
  ⟨(some 72), (Op.move (Operand.tmp 11)), none, ann0⟩,
  ⟨(some 73), (Op.move (Operand.tmp 0)), none, ann0⟩,
  ⟨(some 74), (Op.move (Operand.tmp 12)), none, ann0⟩,
  ⟨(some 75), (Op.move (Operand.tmp 0)), none, ann0⟩,
  ⟨(some 76), (Op.move (Operand.tmp 12)), none, ann0⟩,
  ⟨(some 77), (Op.indexAddr 74 (Operand.tmp 75) (Operand.tmp 76)), none, ann0⟩,
  ⟨(some 78), (Op.load 3 (Operand.tmp 77)), none, ann0⟩,
  ⟨(some 79), (Op.move (Operand.tmp 0)), none, ann0⟩,
  ⟨(some 80), (Op.move (Operand.tmp 11)), none, ann0⟩,
  ⟨(some 81), (Op.indexAddr 74 (Operand.tmp 79) (Operand.tmp 80)), none, ann0⟩,
  ⟨(some 82), (Op.load 3 (Operand.tmp 81)), none, ann0⟩,
  ⟨(some 83), (Op.indexAddr 74 (Operand.tmp 71) (Operand.tmp 72)), none, ann0⟩,
  ⟨none, (Op.store 3 (Operand.tmp 83) (Operand.tmp 78)), none, ann0⟩,
  ⟨(some 84), (Op.indexAddr 74 (Operand.tmp 73) (Operand.tmp 74)), none, ann0⟩,
  ⟨none, (Op.store 3 (Operand.tmp 84) (Operand.tmp 82)), none, ann0⟩] (some [0, 0, 0, 0, 0, 0, 48, 112, 0, 0, 768, 1792, 4083, 8179, 16383, 32767])) (.tidy [0, 1, 4, 11, 12] z (z + 0)))
 (.seq (.reg [⟨(some 85), (Op.move (Operand.tmp 11)), none, ann0⟩,
  ⟨(some 86), (Op.binOp BinOp.add 3 (Operand.tmp 85) (Operand.const (Value.int IntKind.i64 1)) 3), none, ann0⟩,
  ⟨(some 11), (Op.assign (Operand.tmp 86)), none, ann0⟩] none)
 (.reg [⟨(some 87), (Op.move (Operand.tmp 12)), none, ann0⟩,
  ⟨(some 88), (Op.binOp BinOp.sub 3 (Operand.tmp 87) (Operand.const (Value.int IntKind.i64 1)) 3), none, ann0⟩,
  ⟨(some 12), (Op.assign (Operand.tmp 88)), none, ann0⟩] none))))))) (.tidy [0, 1, 4, 11, 12] z (z + 0))) (.tidy [0, 1, 4, 11, 12] z (z + 0))
def s65_1 (z : Nat) : SC := c65_1 z
theorem e65_1 {C : Pg} {z : Nat} {st : St} {ks : List Fr} {K : Ex → St → Prop} : wpk C (s65_1 z) st ks K ↔ wpk C (c65_1 z) st ks K := Iff.rfl
def s65 (z : Nat) : SFn := ⟨5, 90, [(ResultVar.tmp 10)],
 (.seq (.reg [⟨(some 10), (Op.assign (Operand.const (Value.int IntKind.i64 0))), none, ann0⟩] none)
 (.seq (.post (.reg [⟨(some 13), (Op.move (Operand.tmp 0)), none, ann0⟩,
  ⟨(some 14), (Op.move (Operand.tmp 1)), none, ann0⟩,
  ⟨(some 15), (Op.move (Operand.tmp 0)), none, ann0⟩,
  ⟨(some 16), (Op.move (Operand.tmp 3)), none, ann0⟩,
  ⟨(some 17), (Op.move (Operand.tmp 0)), none, ann0⟩,
  ⟨(some 18), (Op.move (Operand.tmp 3)), none, ann0⟩,
  ⟨(some 19), (Op.indexAddr 74 (Operand.tmp 17) (Operand.tmp 18)), none, ann0⟩,
  ⟨(some 20), (Op.load 3 (Operand.tmp 19)), none, ann0⟩,
  ⟨(some 21), (Op.move (Operand.tmp 0)), none, ann0⟩,
  ⟨(some 22), (Op.move (Operand.tmp 1)), none, ann0⟩,
  ⟨(some 23), (Op.indexAddr 74 (Operand.tmp 21) (Operand.tmp 22)), none, ann0⟩,
  ⟨(some 24), (Op.load 3 (Operand.tmp 23)), none, ann0⟩,
  ⟨(some 25), (Op.indexAddr 74 (Operand.tmp 13) (Operand.tmp 14)), none, ann0⟩,
  ⟨none, (Op.store 3 (Operand.tmp 25) (Operand.tmp 20)), none, ann0⟩,
  ⟨(some 26), (Op.indexAddr 74 (Operand.tmp 15) (Operand.tmp 16)), none, ann0⟩,
  ⟨none, (Op.store 3 (Operand.tmp 26) (Operand.tmp 24)), none, ann0⟩] (some [0, 0, 0, 0, 0, 0, 48, 112, 0, 0, 768, 1792, 4083, 8179, 16383, 32767])) (.tidy [0, 1, 2, 4] z (z + 0)))
 (.seq (.reg [⟨(some 27), (Op.move (Operand.tmp 1)), none, ann0⟩,
  ⟨(some 28), (Op.binOp BinOp.add 3 (Operand.tmp 27) (Operand.const (Value.int IntKind.i64 1)) 3), none, ann0⟩,
  ⟨(some 29), (Op.move (Operand.tmp 2)), none, ann0⟩,
  ⟨(some 30), (Op.binOp BinOp.sub 3 (Operand.tmp 29) (Operand.const (Value.int IntKind.i64 1)) 3), none, ann0⟩,
  ⟨(some 11), (Op.assign (Operand.tmp 28)), none, ann0⟩,
  ⟨(some 12), (Op.assign (Operand.tmp 30)), none, ann0⟩] none)
 (.seq (.post (.block 0 (.pre (.tidy [0, 1, 4, 11, 12] z (z + 0)) (.loop (s65_1 z)))) (.tidy [11] z (z + 0)))
 (.seq (.reg [⟨(some 89), (Op.move (Operand.tmp 11)), none, ann0⟩,
  ⟨(some 10), (Op.assign (Operand.tmp 89)), none, ann0⟩] none)
 .ret)))))⟩
theorem F65 (z : Nat) : FOk Try.prog 65 (s65 z) := by unfold FOk; kernel_rfl
def c66_1 (z : Nat) : SC := .post (.seq (.post (.seq (.post (.reg [⟨(some 32), (Op.move (Operand.tmp 12)), none, ann0⟩,
  ⟨(some 33), (Op.move (Operand.tmp 13)), none, ann0⟩,
  ⟨(some 34), (Op.binOp BinOp.leq 3 (Operand.tmp 32) (Operand.tmp 33) 3), none, ann0⟩,
  ⟨(some 35), (Op.move (Operand.tmp 34)), none, ann0⟩,
  ⟨(some 36), (Op.move (Operand.tmp 4)), (some (35, true)), ann0⟩,
  ⟨(some 37), (Op.move (Operand.tmp 0)), (some (35, true)), ann0⟩,
  ⟨(some 38), (Op.move (Operand.tmp 12)), (some (35, true)), ann0⟩,
  ⟨(some 39), (Op.indexAddr 74 (Operand.tmp 37) (Operand.tmp 38)), (some (35, true)), ann0⟩,
  ⟨(some 40), (Op.load 3 (Operand.tmp 39)), (some (35, true)), ann0⟩,
  ⟨(some 41), (Op.move (Operand.tmp 0)), (some (35, true)), ann0⟩,
  ⟨(some 42), (Op.move (Operand.tmp 1)), (some (35, true)), ann0⟩,
  ⟨(some 43), (Op.indexAddr 74 (Operand.tmp 41) (Operand.tmp 42)), (some (35, true)), ann0⟩,
  ⟨(some 44), (Op.load 3 (Operand.tmp 43)), (some (35, true)), ann0⟩,
  ⟨(some 45), (Op.call { callee := (Callee.value (Operand.tmp 36)), args := #[(Operand.tmp 40), (Operand.tmp 44)], argTypes := #[3, 3] }), (some (35, true)), ann0⟩,
  ⟨(some 46), (Op.binOp BinOp.lss 3 (Operand.tmp 45) (Operand.const (Value.int IntKind.i64 0)) 3), (some (35, true)), ann0⟩,
  ⟨(some 47), (Op.pick (Operand.tmp 35) (Operand.tmp 46) (Operand.const (Value.bool false))), none, ann0⟩] (some [0, 0, 3, 7, 15, 15, 15, 111, 239, 15, 15, 1551, 3599, 8191, 16383, 32767])) (.tidy [0, 1, 4, 12, 13, 47] z (z + 0)))
 (.cond (Operand.tmp 47) .skip
 (.exit 0))) (.tidy [0, 1, 4, 12, 13] z (z + 0)))
 (.block 1 (.reg [⟨(some 48), (Op.move (Operand.tmp 12)), none, ann0⟩,
  ⟨(some 49), (Op.binOp BinOp.add 3 (Operand.tmp 48) (Operand.const (Value.int IntKind.i64 1)) 3), none, ann0⟩,
  ⟨(some 12), (Op.assign (Operand.tmp 49)), none, ann0⟩] none))) (.tidy [0, 1, 4, 12, 13] z (z + 0))
def s66_1 (z : Nat) : SC := c66_1 z
theorem e66_1 {C : Pg} {z : Nat} {st : St} {ks : List Fr} {K : Ex → St → Prop} : wpk C (s66_1 z) st ks K ↔ wpk C (c66_1 z) st ks K := Iff.rfl
def c66_2 (z : Nat) : SC := .post (.seq (.post (.seq (.post (.reg [⟨(some 50), (Op.move (Operand.tmp 12)), none, ann0⟩,
  ⟨(some 51), (Op.move (Operand.tmp 13)), none, ann0⟩,
  ⟨(some 52), (Op.binOp BinOp.leq 3 (Operand.tmp 50) (Operand.tmp 51) 3), none, ann0⟩,
  ⟨(some 53), (Op.move (Operand.tmp 52)), none, ann0⟩,
  ⟨(some 54), (Op.move (Operand.tmp 4)), (some (53, true)), ann0⟩,
  ⟨(some 55), (Op.move (Operand.tmp 0)), (some (53, true)), ann0⟩,
  ⟨(some 56), (Op.move (Operand.tmp 13)), (some (53, true)), ann0⟩,
  ⟨(some 57), (Op.indexAddr 74 (Operand.tmp 55) (Operand.tmp 56)), (some (53, true)), ann0⟩,
  ⟨(some 58), (Op.load 3 (Operand.tmp 57)), (some (53, true)), ann0⟩,
  ⟨(some 59), (Op.move (Operand.tmp 0)), (some (53, true)), ann0⟩,
  ⟨(some 60), (Op.move (Operand.tmp 1)), (some (53, true)), ann0⟩,
  ⟨(some 61), (Op.indexAddr 74 (Operand.tmp 59) (Operand.tmp 60)), (some (53, true)), ann0⟩,
  ⟨(some 62), (Op.load 3 (Operand.tmp 61)), (some (53, true)), ann0⟩,
  ⟨(some 63), (Op.call { callee := (Callee.value (Operand.tmp 54)), args := #[(Operand.tmp 58), (Operand.tmp 62)], argTypes := #[3, 3] }), (some (53, true)), ann0⟩,
  ⟨(some 64), (Op.binOp BinOp.lss 3 (Operand.tmp 63) (Operand.const (Value.int IntKind.i64 0)) 3), (some (53, true)), ann0⟩,
  ⟨(some 65), (Op.unOp UnOp.not 4 (Operand.tmp 64)), (some (53, true)), ann0⟩,
  ⟨(some 66), (Op.pick (Operand.tmp 53) (Operand.tmp 65) (Operand.const (Value.bool false))), none, ann0⟩] (some [0, 0, 3, 7, 15, 15, 15, 111, 239, 15, 15, 1551, 3599, 8191, 16383, 32767, 65535])) (.tidy [0, 1, 4, 12, 13, 66] z (z + 0)))
 (.cond (Operand.tmp 66) .skip
 (.exit 2))) (.tidy [0, 1, 4, 12, 13] z (z + 0)))
 (.block 3 (.reg [⟨(some 67), (Op.move (Operand.tmp 13)), none, ann0⟩,
  ⟨(some 68), (Op.binOp BinOp.sub 3 (Operand.tmp 67) (Operand.const (Value.int IntKind.i64 1)) 3), none, ann0⟩,
  ⟨(some 13), (Op.assign (Operand.tmp 68)), none, ann0⟩] none))) (.tidy [0, 1, 4, 12, 13] z (z + 0))
def s66_2 (z : Nat) : SC := c66_2 z
theorem e66_2 {C : Pg} {z : Nat} {st : St} {ks : List Fr} {K : Ex → St → Prop} : wpk C (s66_2 z) st ks K ↔ wpk C (c66_2 z) st ks K := Iff.rfl
def c66_4 (z : Nat) : SC := .post (.seq (.post (.seq (.post (.reg [⟨(some 105), (Op.move (Operand.tmp 12)), none, ann0⟩,
  ⟨(some 106), (Op.move (Operand.tmp 13)), none, ann0⟩,
  ⟨(some 107), (Op.binOp BinOp.leq 3 (Operand.tmp 105) (Operand.tmp 106) 3), none, ann0⟩,
  ⟨(some 108), (Op.move (Operand.tmp 107)), none, ann0⟩,
  ⟨(some 109), (Op.move (Operand.tmp 4)), (some (108, true)), ann0⟩,
  ⟨(some 110), (Op.move (Operand.tmp 0)), (some (108, true)), ann0⟩,
  ⟨(some 111), (Op.move (Operand.tmp 12)), (some (108, true)), ann0⟩,
  ⟨(some 112), (Op.indexAddr 74 (Operand.tmp 110) (Operand.tmp 111)), (some (108, true)), ann0⟩,
  ⟨(some 113), (Op.load 3 (Operand.tmp 112)), (some (108, true)), ann0⟩,
  ⟨(some 114), (Op.move (Operand.tmp 0)), (some (108, true)), ann0⟩,
  ⟨(some 115), (Op.move (Operand.tmp 1)), (some (108, true)), ann0⟩,
  ⟨(some 116), (Op.indexAddr 74 (Operand.tmp 114) (Operand.tmp 115)), (some (108, true)), ann0⟩,
  ⟨(some 117), (Op.load 3 (Operand.tmp 116)), (some (108, true)), ann0⟩,
  ⟨(some 118), (Op.call { callee := (Callee.value (Operand.tmp 109)), args := #[(Operand.tmp 113), (Operand.tmp 117)], argTypes := #[3, 3] }), (some (108, true)), ann0⟩,
  ⟨(some 119), (Op.binOp BinOp.lss 3 (Operand.tmp 118) (Operand.const (Value.int IntKind.i64 0)) 3), (some (108, true)), ann0⟩,
  ⟨(some 120), (Op.pick (Operand.tmp 108) (Operand.tmp 119) (Operand.const (Value.bool false))), none, ann0⟩] (some [0, 0, 3, 7, 15, 15, 15, 111, 239, 15, 15, 1551, 3599, 8191, 16383, 32767])) (.tidy [0, 1, 4, 12, 13, 120] z (z + 0)))
 (.cond (Operand.tmp 120) .skip
 (.exit 6))) (.tidy [0, 1, 4, 12, 13] z (z + 0)))
 (.block 7 (.reg [⟨(some 121), (Op.move (Operand.tmp 12)), none, ann0⟩,
  ⟨(some 122), (Op.binOp BinOp.add 3 (Operand.tmp 121) (Operand.const (Value.int IntKind.i64 1)) 3), none, ann0⟩,
  ⟨(some 12), (Op.assign (Operand.tmp 122)), none, ann0⟩] none))) (.tidy [0, 1, 4, 12, 13] z (z + 0))
def s66_4 (z : Nat) : SC := c66_4 z
theorem e66_4 {C : Pg} {z : Nat} {st : St} {ks : List Fr} {K : Ex → St → Prop} : wpk C (s66_4 z) st ks K ↔ wpk C (c66_4 z) st ks K := Iff.rfl
def c66_5 (z : Nat) : SC := .post (.seq (.post (.seq (.post (.reg [⟨(some 123), (Op.move (Operand.tmp 12)), none, ann0⟩,
  ⟨(some 124), (Op.move (Operand.tmp 13)), none, ann0⟩,
  ⟨(some 125), (Op.binOp BinOp.leq 3 (Operand.tmp 123) (Operand.tmp 124) 3), none, ann0⟩,
  ⟨(some 126), (Op.move (Operand.tmp 125)), none, ann0⟩,
  ⟨(some 127), (Op.move (Operand.tmp 4)), (some (126, true)), ann0⟩,
  ⟨(some 128), (Op.move (Operand.tmp 0)), (some (126, true)), ann0⟩,
  ⟨(some 129), (Op.move (Operand.tmp 13)), (some (126, true)), ann0⟩,
  ⟨(some 130), (Op.indexAddr 74 (Operand.tmp 128) (Operand.tmp 129)), (some (126, true)), ann0⟩,
  ⟨(some 131), (Op.load 3 (Operand.tmp 130)), (some (126, true)), ann0⟩,
  ⟨(some 132), (Op.move (Operand.tmp 0)), (some (126, true)), ann0⟩,
  ⟨(some 133), (Op.move (Operand.tmp 1)), (some (126, true)), ann0⟩,
  ⟨(some 134), (Op.indexAddr 74 (Operand.tmp 132) (Operand.tmp 133)), (some (126, true)), ann0⟩,
  ⟨(some 135), (Op.load 3 (Operand.tmp 134)), (some (126, true)), ann0⟩,
  ⟨(some 136), (Op.call { callee := (Callee.value (Operand.tmp 127)), args := #[(Operand.tmp 131), (Operand.tmp 135)], argTypes := #[3, 3] }), (some (126, true)), ann0⟩,
  ⟨(some 137), (Op.binOp BinOp.lss 3 (Operand.tmp 136) (Operand.const (Value.int IntKind.i64 0)) 3), (some (126, true)), ann0⟩,
  ⟨(some 138), (Op.unOp UnOp.not 4 (Operand.tmp 137)), (some (126, true)), ann0⟩,
  ⟨(some 139), (Op.pick (Operand.tmp 126) (Operand.tmp 138) (Operand.const (Value.bool false))), none, ann0⟩] (some [0, 0, 3, 7, 15, 15, 15, 111, 239, 15, 15, 1551, 3599, 8191, 16383, 32767, 65535])) (.tidy [0, 1, 4, 12, 13, 139] z (z + 0)))
 (.cond (Operand.tmp 139) .skip
 (.exit 8))) (.tidy [0, 1, 4, 12, 13] z (z + 0)))
 (.block 9 (.reg [⟨(some 140), (Op.move (Operand.tmp 13)), none, ann0⟩,
  ⟨(some 141), (Op.binOp BinOp.sub 3 (Operand.tmp 140) (Operand.const (Value.int IntKind.i64 1)) 3), none, ann0⟩,
  ⟨(some 13), (Op.assign (Operand.tmp 141)), none, ann0⟩] none))) (.tidy [0, 1, 4, 12, 13] z (z + 0))
def s66_5 (z : Nat) : SC := c66_5 z
theorem e66_5 {C : Pg} {z : Nat} {st : St} {ks : List Fr} {K : Ex → St → Prop} : wpk C (s66_5 z) st ks K ↔ wpk C (c66_5 z) st ks K := Iff.rfl
def c66_3 (z : Nat) : SC := .post (.post (.block 5 (.seq (.post (.block 6 (.pre (.tidy [0, 1, 4, 12, 13] z (z + 0)) (.loop (s66_4 z)))) (.tidy [0, 1, 4, 12, 13] z (z + 0)))
 (.seq (.post (.block 8 (.pre (.tidy [0, 1, 4, 12, 13] z (z + 0)) (.loop (s66_5 z)))) (.tidy [0, 1, 4, 12, 13] z (z + 0)))
 (.seq (.seq (.post (.reg [⟨(some 142), (Op.move (Operand.tmp 12)), none, ann0⟩,
  ⟨(some 143), (Op.move (Operand.tmp 13)), none, ann0⟩,
  ⟨(some 144), (Op.binOp BinOp.gtr 3 (Operand.tmp 142) (Operand.tmp 143) 3), none, ann0⟩] none) (.tidy [0, 1, 4, 12, 13, 144] z (z + 0)))
 (.cond (Operand.tmp 144) (.exit 4)
 .skip))
 (.seq (.post (.reg [⟨(some 145), (Op.move (Operand.tmp 0)), none, ann0⟩,
  ⟨(some 146), (Op.move (Operand.tmp 12)), none, ann0⟩,
  ⟨(some 147), (Op.move (Operand.tmp 0)), none, ann0⟩,
  ⟨(some 148), (Op.move (Operand.tmp 13)), none, ann0⟩,
  ⟨(some 149), (Op.move (Operand.tmp 0)), none, ann0⟩,
  ⟨(some 150), (Op.move (Operand.tmp 13)), none, ann0⟩,
  ⟨(some 151), (Op.indexAddr 74 (Operand.tmp 149) (Operand.tmp 150)), none, ann0⟩,
  ⟨(some 152), (Op.load 3 (Operand.tmp 151)), none, ann0⟩,
  ⟨(some 153), (Op.move (Operand.tmp 0)), none, ann0⟩,
  ⟨(some 154), (Op.move (Operand.tmp 12)), none, ann0⟩,
  ⟨(some 155), (Op.indexAddr 74 (Operand.tmp 153) (Operand.tmp 154)), none, ann0⟩,
  ⟨(some 156), (Op.load 3 (Operand.tmp 155)), none, ann0⟩,
  ⟨(some 157), (Op.indexAddr 74 (Operand.tmp 145) (Operand.tmp 146)), none, ann0⟩,
  ⟨none, (Op.store 3 (Operand.tmp 157) (Operand.tmp 152)), none, ann0⟩,
  ⟨(some 158), (Op.indexAddr 74 (Operand.tmp 147) (Operand.tmp 148)), none, ann0⟩,
  ⟨none, (Op.store 3 (Operand.tmp 158) (Operand.tmp 156)), none, ann0⟩] (some [0, 0, 0, 0, 0, 0, 48, 112, 0, 0, 768, 1792, 4083, 8179, 16383, 32767])) (.tidy [0, 1, 4, 12, 13] z (z + 0)))
 (.seq (.reg [⟨(some 159), (Op.move (Operand.tmp 12)), none, ann0⟩,
  ⟨(some 160), (Op.binOp BinOp.add 3 (Operand.tmp 159) (Operand.const (Value.int IntKind.i64 1)) 3), none, ann0⟩,
  ⟨(some 12), (Op.assign (Operand.tmp 160)), none, ann0⟩] none)
 (.reg [⟨(some 161), (Op.move (Operand.tmp 13)), none, ann0⟩,
  ⟨(some 162), (Op.binOp BinOp.sub 3 (Operand.tmp 161) (Operand.const (Value.int IntKind.i64 1)) 3), none, ann0⟩,
  ⟨(some 13), (Op.assign (Operand.tmp 162)), none, ann0⟩] none))))))) (.tidy [0, 1, 4, 12, 13] z (z + 0))) (.tidy [0, 1, 4, 12, 13] z (z + 0))
def s66_3 (z : Nat) : SC := c66_3 z
theorem e66_3 {C : Pg} {z : Nat} {st : St} {ks : List Fr} {K : Ex → St → Prop} : wpk C (s66_3 z) st ks K ↔ wpk C (c66_3 z) st ks K := Iff.rfl
def s66 (z : Nat) : SFn := ⟨5, 178, [(ResultVar.tmp 10), (ResultVar.tmp 11)],
 (.seq (.reg [⟨(some 10), (Op.assign (Operand.const (Value.int IntKind.i64 0))), none, ann0⟩,
  ⟨(some 11), (Op.assign (Operand.const (Value.bool false))), none, ann0⟩] none)
 (.seq (.post (.reg [⟨(some 14), (Op.move (Operand.tmp 0)), none, ann0⟩,
  ⟨(some 15), (Op.move (Operand.tmp 1)), none, ann0⟩,
  ⟨(some 16), (Op.move (Operand.tmp 0)), none, ann0⟩,
  ⟨(some 17), (Op.move (Operand.tmp 3)), none, ann0⟩,
  ⟨(some 18), (Op.move (Operand.tmp 0)), none, ann0⟩,
  ⟨(some 19), (Op.move (Operand.tmp 3)), none, ann0⟩,
  ⟨(some 20), (Op.indexAddr 74 (Operand.tmp 18) (Operand.tmp 19)), none, ann0⟩,
  ⟨(some 21), (Op.load 3 (Operand.tmp 20)), none, ann0⟩,
  ⟨(some 22), (Op.move (Operand.tmp 0)), none, ann0⟩,
  ⟨(some 23), (Op.move (Operand.tmp 1)), none, ann0⟩,
  ⟨(some 24), (Op.indexAddr 74 (Operand.tmp 22) (Operand.tmp 23)), none, ann0⟩,
  ⟨(some 25), (Op.load 3 (Operand.tmp 24)), none, ann0⟩,
  ⟨(some 26), (Op.indexAddr 74 (Operand.tmp 14) (Operand.tmp 15)), none, ann0⟩,
  ⟨none, (Op.store 3 (Operand.tmp 26) (Operand.tmp 21)), none, ann0⟩,
  ⟨(some 27), (Op.indexAddr 74 (Operand.tmp 16) (Operand.tmp 17)), none, ann0⟩,
  ⟨none, (Op.store 3 (Operand.tmp 27) (Operand.tmp 25)), none, ann0⟩] (some [0, 0, 0, 0, 0, 0, 48, 112, 0, 0, 768, 1792, 4083, 8179, 16383, 32767])) (.tidy [0, 1, 2, 4] z (z + 0)))
 (.seq (.reg [⟨(some 28), (Op.move (Operand.tmp 1)), none, ann0⟩,
  ⟨(some 29), (Op.binOp BinOp.add 3 (Operand.tmp 28) (Operand.const (Value.int IntKind.i64 1)) 3), none, ann0⟩,
  ⟨(some 30), (Op.move (Operand.tmp 2)), none, ann0⟩,
  ⟨(some 31), (Op.binOp BinOp.sub 3 (Operand.tmp 30) (Operand.const (Value.int IntKind.i64 1)) 3), none, ann0⟩,
  ⟨(some 12), (Op.assign (Operand.tmp 29)), none, ann0⟩,
  ⟨(some 13), (Op.assign (Operand.tmp 31)), none, ann0⟩] none)
 (.seq (.post (.block 0 (.pre (.tidy [0, 1, 4, 12, 13] z (z + 0)) (.loop (s66_1 z)))) (.tidy [0, 1, 4, 12, 13] z (z + 0)))
 (.seq (.post (.block 2 (.pre (.tidy [0, 1, 4, 12, 13] z (z + 0)) (.loop (s66_2 z)))) (.tidy [0, 1, 4, 12, 13] z (z + 0)))
 (.seq (.post (.seq (.post (.reg [⟨(some 69), (Op.move (Operand.tmp 12)), none, ann0⟩,
  ⟨(some 70), (Op.move (Operand.tmp 13)), none, ann0⟩,
  ⟨(some 71), (Op.binOp BinOp.gtr 3 (Operand.tmp 69) (Operand.tmp 70) 3), none, ann0⟩] none) (.tidy [0, 1, 4, 12, 13, 71] z (z + 0)))
 (.cond (Operand.tmp 71) (.seq (.post (.reg [⟨(some 72), (Op.move (Operand.tmp 0)), none, ann0⟩,
  ⟨(some 73), (Op.move (Operand.tmp 13)), none, ann0⟩,
  ⟨(some 74), (Op.move (Operand.tmp 0)), none, ann0⟩,
  ⟨(some 75), (Op.move (Operand.tmp 1)), none, ann0⟩,
  ⟨(some 76), (Op.move (Operand.tmp 0)), none, ann0⟩,
  ⟨(some 77), (Op.move (Operand.tmp 1)), none, ann0⟩,
  ⟨(some 78), (Op.indexAddr 74 (Operand.tmp 76) (Operand.tmp 77)), none, ann0⟩,
  ⟨(some 79), (Op.load 3 (Operand.tmp 78)), none, ann0⟩,
  ⟨(some 80), (Op.move (Operand.tmp 0)), none, ann0⟩,
  ⟨(some 81), (Op.move (Operand.tmp 13)), none, ann0⟩,
  ⟨(some 82), (Op.indexAddr 74 (Operand.tmp 80) (Operand.tmp 81)), none, ann0⟩,
  ⟨(some 83), (Op.load 3 (Operand.tmp 82)), none, ann0⟩,
  ⟨(some 84), (Op.indexAddr 74 (Operand.tmp 72) (Operand.tmp 73)), none, ann0⟩,
  ⟨none, (Op.store 3 (Operand.tmp 84) (Operand.tmp 79)), none, ann0⟩,
  ⟨(some 85), (Op.indexAddr 74 (Operand.tmp 74) (Operand.tmp 75)), none, ann0⟩,
  ⟨none, (Op.store 3 (Operand.tmp 85) (Operand.tmp 83)), none, ann0⟩] (some [0, 0, 0, 0, 0, 0, 48, 112, 0, 0, 768, 1792, 4083, 8179, 16383, 32767])) (.tidy [13] z (z + 0)))
 (.seq (.reg [⟨(some 86), (Op.move (Operand.tmp 13)), none, ann0⟩,
  ⟨(some 10), (Op.assign (Operand.tmp 86)), none, ann0⟩,
  ⟨(some 11), (Op.assign (Operand.const (Value.bool true))), none, ann0⟩] none)
 .ret))
 .skip)) (.tidy [0, 1, 4, 12, 13] z (z + 0)))
 (.seq (.post (.reg [⟨(some 87), (Op.move (Operand.tmp 0)), none, ann0⟩,
  ⟨(some 88), (Op.move (Operand.tmp 12)), none, ann0⟩,
  ⟨(some 89), (Op.move (Operand.tmp 0)), none, ann0⟩,
  ⟨(some 90), (Op.move (Operand.tmp 13)), none, ann0⟩,
  ⟨(some 91), (Op.move (Operand.tmp 0)), none, ann0⟩,
  ⟨(some 92), (Op.move (Operand.tmp 13)), none, ann0⟩,
  ⟨(some 93), (Op.indexAddr 74 (Operand.tmp 91) (Operand.tmp 92)), none, ann0⟩,
  ⟨(some 94), (Op.load 3 (Operand.tmp 93)), none, ann0⟩,
  ⟨(some 95), (Op.move (Operand.tmp 0)), none, ann0⟩,
  ⟨(some 96), (Op.move (Operand.tmp 12)), none, ann0⟩,
  ⟨(some 97), (Op.indexAddr 74 (Operand.tmp 95) (Operand.tmp 96)), none, ann0⟩,
  ⟨(some 98), (Op.load 3 (Operand.tmp 97)), none, ann0⟩,
  ⟨(some 99), (Op.indexAddr 74 (Operand.tmp 87) (Operand.tmp 88)), none, ann0⟩,
  ⟨none, (Op.store 3 (Operand.tmp 99) (Operand.tmp 94)), none, ann0⟩,
  ⟨(some 100), (Op.indexAddr 74 (Operand.tmp 89) (Operand.tmp 90)), none, ann0⟩,
  ⟨none, (Op.store 3 (Operand.tmp 100) (Operand.tmp 98)), none, ann0⟩] (some [0, 0, 0, 0, 0, 0, 48, 112, 0, 0, 768, 1792, 4083, 8179, 16383, 32767])) (.tidy [0, 1, 4, 12, 13] z (z + 0)))
 (.seq (.reg [⟨(some 101), (Op.move (Operand.tmp 12)), none, ann0⟩,
  ⟨(some 102), (Op.binOp BinOp.add 3 (Operand.tmp 101) (Operand.const (Value.int IntKind.i64 1)) 3), none, ann0⟩,
  ⟨(some 12), (Op.assign (Operand.tmp 102)), none, ann0⟩] none)
 (.seq (.reg [⟨(some 103), (Op.move (Operand.tmp 13)), none, ann0⟩,
  ⟨(some 104), (Op.binOp BinOp.sub 3 (Operand.tmp 103) (Operand.const (Value.int IntKind.i64 1)) 3), none, ann0⟩,
  ⟨(some 13), (Op.assign (Operand.tmp 104)), none, ann0⟩] none)
 (.seq (.post (.block 4 (.pre (.tidy [0, 1, 4, 12, 13] z (z + 0)) (.loop (s66_3 z)))) (.tidy [0, 1, 13] z (z + 0)))
 (.seq (.post (.reg [⟨(some 163), (Op.move (Operand.tmp 0)), none, ann0⟩,
  ⟨(some 164), (Op.move (Operand.tmp 13)), none, ann0⟩,
  ⟨(some 165), (Op.move (Operand.tmp 0)), none, ann0⟩,
  ⟨(some 166), (Op.move (Operand.tmp 1)), none, ann0⟩,
  ⟨(some 167), (Op.move (Operand.tmp 0)), none, ann0⟩,
  ⟨(some 168), (Op.move (Operand.tmp 1)), none, ann0⟩,
  ⟨(some 169), (Op.indexAddr 74 (Operand.tmp 167) (Operand.tmp 168)), none, ann0⟩,
  ⟨(some 170), (Op.load 3 (Operand.tmp 169)), none, ann0⟩,
  ⟨(some 171), (Op.move (Operand.tmp 0)), none, ann0⟩,
  ⟨(some 172), (Op.move (Operand.tmp 13)), none, ann0⟩,
  ⟨(some 173), (Op.indexAddr 74 (Operand.tmp 171) (Operand.tmp 172)), none, ann0⟩,
  ⟨(some 174), (Op.load 3 (Operand.tmp 173)), none, ann0⟩,
  ⟨(some 175), (Op.indexAddr 74 (Operand.tmp 163) (Operand.tmp 164)), none, ann0⟩,
  ⟨none, (Op.store 3 (Operand.tmp 175) (Operand.tmp 170)), none, ann0⟩,
  ⟨(some 176), (Op.indexAddr 74 (Operand.tmp 165) (Operand.tmp 166)), none, ann0⟩,
  ⟨none, (Op.store 3 (Operand.tmp 176) (Operand.tmp 174)), none, ann0⟩] (some [0, 0, 0, 0, 0, 0, 48, 112, 0, 0, 768, 1792, 4083, 8179, 16383, 32767])) (.tidy [13] z (z + 0)))
 (.seq (.reg [⟨(some 177), (Op.move (Operand.tmp 13)), none, ann0⟩,
  ⟨(some 10), (Op.assign (Operand.tmp 177)), none, ann0⟩,
  ⟨(some 11), (Op.assign (Operand.const (Value.bool false))), none, ann0⟩] none)
 .ret))))))))))))⟩
theorem F66 (z : Nat) : FOk Try.prog 66 (s66 z) := by unfold FOk; kernel_rfl
def s67 (z : Nat) : SFn := ⟨1, 19, [(ResultVar.tmp 2)],
 (.seq (.reg [⟨(some 2), (Op.assign (Operand.const (Value.int IntKind.i64 0))), none, ann0⟩] none)
 (.seq (.post (.seq (.reg [⟨(some 3), (Op.move (Operand.tmp 0)), none, ann0⟩,
  ⟨(some 4), (Op.binOp BinOp.geq 22 (Operand.tmp 3) (Operand.const (Value.int IntKind.u32 65536)) 22), none, ann0⟩] none)
 (.cond (Operand.tmp 4) (.seq (.reg [⟨(some 5), (Op.move (Operand.tmp 0)), none, ann0⟩,
  ⟨(some 6), (Op.binOp BinOp.shr 22 (Operand.tmp 5) (Operand.const (Value.int IntKind.u64 16)) 85), none, ann0⟩,
  ⟨(some 0), (Op.assign (Operand.tmp 6)), none, ann0⟩] none)
 (.reg [⟨(some 2), (Op.assign (Operand.const (Value.int IntKind.i64 16))), none, ann0⟩] none))
 .skip)) (.tidy [0, 2] z (z + 0)))
 (.seq (.post (.seq (.reg [⟨(some 7), (Op.move (Operand.tmp 0)), none, ann0⟩,
  ⟨(some 8), (Op.binOp BinOp.geq 22 (Operand.tmp 7) (Operand.const (Value.int IntKind.u32 256)) 22), none, ann0⟩] none)
 (.cond (Operand.tmp 8) (.seq (.reg [⟨(some 9), (Op.move (Operand.tmp 0)), none, ann0⟩,
  ⟨(some 10), (Op.binOp BinOp.shr 22 (Operand.tmp 9) (Operand.const (Value.int IntKind.u64 8)) 85), none, ann0⟩,
  ⟨(some 0), (Op.assign (Operand.tmp 10)), none, ann0⟩] none)
 (.reg [⟨(some 11), (Op.move (Operand.tmp 2)), none, ann0⟩,
  ⟨(some 12), (Op.binOp BinOp.add 3 (Operand.tmp 11) (Operand.const (Value.int IntKind.i64 8)) 3), none, ann0⟩,
  ⟨(some 2), (Op.assign (Operand.tmp 12)), none, ann0⟩] none))
 .skip)) (.tidy [0, 2] z (z + 0)))
 (.seq (.reg [⟨(some 13), (Op.move (Operand.tmp 2)), none, ann0⟩,
  ⟨(some 14), (Op.move (Operand.tmp 0)), none, ann0⟩,
  ⟨(some 15), (Op.convert 22 5 (Operand.tmp 14)), none, ann0⟩,
  ⟨(some 16), (Op.index 9 (Operand.const (Value.string ⟨#[0, 1, 2, 2, 3, 3, 3, 3, 4, 4, 4, 4, 4, 4, 4, 4, 5, 5, 5, 5, 5, 5, 5, 5, 5, 5, 5, 5, 5, 5, 5, 5, 6, 6, 6, 6, 6, 6, 6, 6, 6, 6, 6, 6, 6, 6, 6, 6, 6, 6, 6, 6, 6, 6, 6, 6, 6, 6, 6, 6, 6, 6, 6, 6, 7, 7, 7, 7, 7, 7, 7, 7, 7, 7, 7, 7, 7, 7, 7, 7, 7, 7, 7, 7, 7, 7, 7, 7, 7, 7, 7, 7, 7, 7, 7, 7, 7, 7, 7, 7, 7, 7, 7, 7, 7, 7, 7, 7, 7, 7, 7, 7, 7, 7, 7, 7, 7, 7, 7, 7, 7, 7, 7, 7, 7, 7, 7, 7, 8, 8, 8, 8, 8, 8, 8, 8, 8, 8, 8, 8, 8, 8, 8, 8, 8, 8, 8, 8, 8, 8, 8, 8, 8, 8, 8, 8, 8, 8, 8, 8, 8, 8, 8, 8, 8, 8, 8, 8, 8, 8, 8, 8, 8, 8, 8, 8, 8, 8, 8, 8, 8, 8, 8, 8, 8, 8, 8, 8, 8, 8, 8, 8, 8, 8, 8, 8, 8, 8, 8, 8, 8, 8, 8, 8, 8, 8, 8, 8, 8, 8, 8, 8, 8, 8, 8, 8, 8, 8, 8, 8, 8, 8, 8, 8, 8, 8, 8, 8, 8, 8, 8, 8, 8, 8, 8, 8, 8, 8, 8, 8, 8, 8, 8, 8, 8, 8, 8, 8, 8, 8, 8, 8, 8, 8, 8, 8]⟩)) (Operand.tmp 15)), none, ann0⟩,
  ⟨(some 17), (Op.convert 5 3 (Operand.tmp 16)), none, ann0⟩,
  ⟨(some 18), (Op.binOp BinOp.add 3 (Operand.tmp 13) (Operand.tmp 17) 3), none, ann0⟩,
  ⟨(some 2), (Op.assign (Operand.tmp 18)), none, ann0⟩] none)
 .ret))))⟩
theorem F67 (z : Nat) : FOk Try.prog 67 (s67 z) := by unfold FOk; kernel_rfl
def s68 (z : Nat) : SFn := ⟨1, 25, [(ResultVar.tmp 2)],
 (.seq (.reg [⟨(some 2), (Op.assign (Operand.const (Value.int IntKind.i64 0))), none, ann0⟩] none)
 (.seq (.post (.seq (.reg [⟨(some 3), (Op.move (Operand.tmp 0)), none, ann0⟩,
  ⟨(some 4), (Op.binOp BinOp.geq 98 (Operand.tmp 3) (Operand.const (Value.int IntKind.u64 4294967296)) 98), none, ann0⟩] none)
 (.cond (Operand.tmp 4) (.seq (.reg [⟨(some 5), (Op.move (Operand.tmp 0)), none, ann0⟩,
  ⟨(some 6), (Op.binOp BinOp.shr 98 (Operand.tmp 5) (Operand.const (Value.int IntKind.u64 32)) 85), none, ann0⟩,
  ⟨(some 0), (Op.assign (Operand.tmp 6)), none, ann0⟩] none)
 (.reg [⟨(some 2), (Op.assign (Operand.const (Value.int IntKind.i64 32))), none, ann0⟩] none))
 .skip)) (.tidy [0, 2] z (z + 0)))
 (.seq (.post (.seq (.reg [⟨(some 7), (Op.move (Operand.tmp 0)), none, ann0⟩,
  ⟨(some 8), (Op.binOp BinOp.geq 98 (Operand.tmp 7) (Operand.const (Value.int IntKind.u64 65536)) 98), none, ann0⟩] none)
 (.cond (Operand.tmp 8) (.seq (.reg [⟨(some 9), (Op.move (Operand.tmp 0)), none, ann0⟩,
  ⟨(some 10), (Op.binOp BinOp.shr 98 (Operand.tmp 9) (Operand.const (Value.int IntKind.u64 16)) 85), none, ann0⟩,
  ⟨(some 0), (Op.assign (Operand.tmp 10)), none, ann0⟩] none)
 (.reg [⟨(some 11), (Op.move (Operand.tmp 2)), none, ann0⟩,
  ⟨(some 12), (Op.binOp BinOp.add 3 (Operand.tmp 11) (Operand.const (Value.int IntKind.i64 16)) 3), none, ann0⟩,
  ⟨(some 2), (Op.assign (Operand.tmp 12)), none, ann0⟩] none))
 .skip)) (.tidy [0, 2] z (z + 0)))
 (.seq (.post (.seq (.reg [⟨(some 13), (Op.move (Operand.tmp 0)), none, ann0⟩,
  ⟨(some 14), (Op.binOp BinOp.geq 98 (Operand.tmp 13) (Operand.const (Value.int IntKind.u64 256)) 98), none, ann0⟩] none)
 (.cond (Operand.tmp 14) (.seq (.reg [⟨(some 15), (Op.move (Operand.tmp 0)), none, ann0⟩,
  ⟨(some 16), (Op.binOp BinOp.shr 98 (Operand.tmp 15) (Operand.const (Value.int IntKind.u64 8)) 85), none, ann0⟩,
  ⟨(some 0), (Op.assign (Operand.tmp 16)), none, ann0⟩] none)
 (.reg [⟨(some 17), (Op.move (Operand.tmp 2)), none, ann0⟩,
  ⟨(some 18), (Op.binOp BinOp.add 3 (Operand.tmp 17) (Operand.const (Value.int IntKind.i64 8)) 3), none, ann0⟩,
  ⟨(some 2), (Op.assign (Operand.tmp 18)), none, ann0⟩] none))
 .skip)) (.tidy [0, 2] z (z + 0)))
 (.seq (.reg [⟨(some 19), (Op.move (Operand.tmp 2)), none, ann0⟩,
  ⟨(some 20), (Op.move (Operand.tmp 0)), none, ann0⟩,
  ⟨(some 21), (Op.convert 98 5 (Operand.tmp 20)), none, ann0⟩,
  ⟨(some 22), (Op.index 9 (Operand.const (Value.string ⟨#[0, 1, 2, 2, 3, 3, 3, 3, 4, 4, 4, 4, 4, 4, 4, 4, 5, 5, 5, 5, 5, 5, 5, 5, 5, 5, 5, 5, 5, 5, 5, 5, 6, 6, 6, 6, 6, 6, 6, 6, 6, 6, 6, 6, 6, 6, 6, 6, 6, 6, 6, 6, 6, 6, 6, 6, 6, 6, 6, 6, 6, 6, 6, 6, 7, 7, 7, 7, 7, 7, 7, 7, 7, 7, 7, 7, 7, 7, 7, 7, 7, 7, 7, 7, 7, 7, 7, 7, 7, 7, 7, 7, 7, 7, 7, 7, 7, 7, 7, 7, 7, 7, 7, 7, 7, 7, 7, 7, 7, 7, 7, 7, 7, 7, 7, 7, 7, 7, 7, 7, 7, 7, 7, 7, 7, 7, 7, 7, 8, 8, 8, 8, 8, 8, 8, 8, 8, 8, 8, 8, 8, 8, 8, 8, 8, 8, 8, 8, 8, 8, 8, 8, 8, 8, 8, 8, 8, 8, 8, 8, 8, 8, 8, 8, 8, 8, 8, 8, 8, 8, 8, 8, 8, 8, 8, 8, 8, 8, 8, 8, 8, 8, 8, 8, 8, 8, 8, 8, 8, 8, 8, 8, 8, 8, 8, 8, 8, 8, 8, 8, 8, 8, 8, 8, 8, 8, 8, 8, 8, 8, 8, 8, 8, 8, 8, 8, 8, 8, 8, 8, 8, 8, 8, 8, 8, 8, 8, 8, 8, 8, 8, 8, 8, 8, 8, 8, 8, 8, 8, 8, 8, 8, 8, 8, 8, 8, 8, 8, 8, 8, 8, 8, 8, 8, 8, 8]⟩)) (Operand.tmp 21)), none, ann0⟩,
  ⟨(some 23), (Op.convert 5 3 (Operand.tmp 22)), none, ann0⟩,
  ⟨(some 24), (Op.binOp BinOp.add 3 (Operand.tmp 19) (Operand.tmp 23) 3), none, ann0⟩,
  ⟨(some 2), (Op.assign (Operand.tmp 24)), none, ann0⟩] none)
 .ret)))))⟩
theorem F68 (z : Nat) : FOk Try.prog 68 (s68 z) := by unfold FOk; kernel_rfl
def c69_2 (z : Nat) : SC := .post (.seq (.post (.seq (.post (.reg [⟨(some 18), (Op.move (Operand.tmp 9)), none, ann0⟩,
  ⟨(some 19), (Op.move (Operand.tmp 1)), none, ann0⟩,
  ⟨(some 20), (Op.binOp BinOp.gtr 3 (Operand.tmp 18) (Operand.tmp 19) 3), none, ann0⟩,
  ⟨(some 21), (Op.move (Operand.tmp 20)), none, ann0⟩,
  ⟨(some 22), (Op.move (Operand.tmp 3)), (some (21, true)), ann0⟩,
  ⟨(some 23), (Op.move (Operand.tmp 0)), (some (21, true)), ann0⟩,
  ⟨(some 24), (Op.move (Operand.tmp 9)), (some (21, true)), ann0⟩,
  ⟨(some 25), (Op.indexAddr 26 (Operand.tmp 23) (Operand.tmp 24)), (some (21, true)), ann0⟩,
  ⟨(some 26), (Op.load 25 (Operand.tmp 25)), (some (21, true)), ann0⟩,
  ⟨(some 27), (Op.move (Operand.tmp 0)), (some (21, true)), ann0⟩,
  ⟨(some 28), (Op.move (Operand.tmp 9)), (some (21, true)), ann0⟩,
  ⟨(some 29), (Op.binOp BinOp.sub 3 (Operand.tmp 28) (Operand.const (Value.int IntKind.i64 1)) 3), (some (21, true)), ann0⟩,
  ⟨(some 30), (Op.indexAddr 26 (Operand.tmp 27) (Operand.tmp 29)), (some (21, true)), ann0⟩,
  ⟨(some 31), (Op.load 25 (Operand.tmp 30)), (some (21, true)), ann0⟩,
  ⟨(some 32), (Op.call { callee := (Callee.value (Operand.tmp 22)), args := #[(Operand.tmp 26), (Operand.tmp 31)], argTypes := #[25, 25] }), (some (21, true)), ann0⟩,
  ⟨(some 33), (Op.binOp BinOp.lss 3 (Operand.tmp 32) (Operand.const (Value.int IntKind.i64 0)) 3), (some (21, true)), ann0⟩,
  ⟨(some 34), (Op.pick (Operand.tmp 21) (Operand.tmp 33) (Operand.const (Value.bool false))), none, ann0⟩] (some [0, 0, 3, 7, 15, 15, 15, 111, 239, 15, 15, 1039, 3599, 7695, 16383, 32767, 65535])) (.tidy [0, 1, 2, 3, 8, 9, 34] z (z + 0)))
 (.cond (Operand.tmp 34) .skip
 (.exit 2))) (.tidy [0, 1, 2, 3, 8, 9] z (z + 0)))
 (.seq (.post (.block 3 (.reg [⟨(some 37), (Op.move (Operand.tmp 0)), none, ann0⟩,
  ⟨(some 38), (Op.move (Operand.tmp 9)), none, ann0⟩,
  ⟨(some 39), (Op.move (Operand.tmp 0)), none, ann0⟩,
  ⟨(some 40), (Op.move (Operand.tmp 9)), none, ann0⟩,
  ⟨(some 41), (Op.binOp BinOp.sub 3 (Operand.tmp 40) (Operand.const (Value.int IntKind.i64 1)) 3), none, ann0⟩,
  ⟨(some 42), (Op.move (Operand.tmp 0)), none, ann0⟩,
  ⟨(some 43), (Op.move (Operand.tmp 9)), none, ann0⟩,
  ⟨(some 44), (Op.binOp BinOp.sub 3 (Operand.tmp 43) (Operand.const (Value.int IntKind.i64 1)) 3), none, ann0⟩,
  ⟨(some 45), (Op.indexAddr 26 (Operand.tmp 42) (Operand.tmp 44)), none, ann0⟩,
  ⟨(some 46), (Op.load 25 (Operand.tmp 45)), none, ann0⟩,
  ⟨(some 47), (Op.move (Operand.tmp 0)), none, ann0⟩,
  ⟨(some 48), (Op.move (Operand.tmp 9)), none, ann0⟩,
  ⟨(some 49), (Op.indexAddr 26 (Operand.tmp 47) (Operand.tmp 48)), none, ann0⟩,
  ⟨(some 50), (Op.load 25 (Operand.tmp 49)), none, ann0⟩,
  ⟨(some 51), (Op.indexAddr 26 (Operand.tmp 37) (Operand.tmp 38)), none, ann0⟩,
  ⟨none, (Op.store 25 (Operand.tmp 51) (Operand.tmp 46)), none, ann0⟩,
  ⟨(some 52), (Op.indexAddr 26 (Operand.tmp 39) (Operand.tmp 41)), none, ann0⟩,
  ⟨none, (Op.store 25 (Operand.tmp 52) (Operand.tmp 50)), none, ann0⟩] (some [0, 0, 0, 0, 8, 0, 0, 64, 224, 480, 0, 0, 3072, 7168, 16355, 32739, 65535, 131071]))) (.tidy [0, 1, 2, 3, 8, 9] z (z + 0)))
 (.reg [⟨(some 35), (Op.move (Operand.tmp 9)), none, ann0⟩,
  ⟨(some 36), (Op.binOp BinOp.sub 3 (Operand.tmp 35) (Operand.const (Value.int IntKind.i64 1)) 3), none, ann0⟩,
  ⟨(some 9), (Op.assign (Operand.tmp 36)), none, ann0⟩] none))) (.tidy [0, 1, 2, 3, 8, 9] z (z + 0))
def s69_2 (z : Nat) : SC := c69_2 z
theorem e69_2 {C : Pg} {z : Nat} {st : St} {ks : List Fr} {K : Ex → St → Prop} : wpk C (s69_2 z) st ks K ↔ wpk C (c69_2 z) st ks K := Iff.rfl
def c69_1 (z : Nat) : SC := .post (.seq (.post (.seq (.reg [⟨(some 12), (Op.move (Operand.tmp 8)), none, ann0⟩,
  ⟨(some 13), (Op.move (Operand.tmp 2)), none, ann0⟩,
  ⟨(some 14), (Op.binOp BinOp.lss 3 (Operand.tmp 12) (Operand.tmp 13) 3), none, ann0⟩] none)
 (.cond (Operand.tmp 14) .skip
 (.exit 0))) (.tidy [0, 1, 2, 3, 8] z (z + 0)))
 (.seq (.post (.block 1 (.seq (.reg [⟨(some 17), (Op.move (Operand.tmp 8)), none, ann0⟩,
  ⟨(some 9), (Op.assign (Operand.tmp 17)), none, ann0⟩] none)
 (.post (.block 2 (.pre (.tidy [0, 1, 2, 3, 8, 9] z (z + 0)) (.loop (s69_2 z)))) (.tidy [0, 1, 2, 3, 8] z (z + 0))))) (.tidy [0, 1, 2, 3, 8] z (z + 0)))
 (.reg [⟨(some 15), (Op.move (Operand.tmp 8)), none, ann0⟩,
  ⟨(some 16), (Op.binOp BinOp.add 3 (Operand.tmp 15) (Operand.const (Value.int IntKind.i64 1)) 3), none, ann0⟩,
  ⟨(some 8), (Op.assign (Operand.tmp 16)), none, ann0⟩] none))) (.tidy [0, 1, 2, 3, 8] z (z + 0))
def s69_1 (z : Nat) : SC := c69_1 z
theorem e69_1 {C : Pg} {z : Nat} {st : St} {ks : List Fr} {K : Ex → St → Prop} : wpk C (s69_1 z) st ks K ↔ wpk C (c69_1 z) st ks K := Iff.rfl
def s69 (z : Nat) : SFn := ⟨4, 53, [],
 (.seq (.reg [⟨(some 10), (Op.move (Operand.tmp 1)), none, ann0⟩,
  ⟨(some 11), (Op.binOp BinOp.add 3 (Operand.tmp 10) (Operand.const (Value.int IntKind.i64 1)) 3), none, ann0⟩,
  ⟨(some 8), (Op.assign (Operand.tmp 11)), none, ann0⟩] none)
 (.post (.block 0 (.pre (.tidy [0, 1, 2, 3, 8] z (z + 0)) (.loop (s69_1 z)))) (.tidy [] z (z + 0))))⟩
theorem F69 (z : Nat) : FOk Try.prog 69 (s69 z) := by unfold FOk; kernel_rfl
def c77_1 (z : Nat) : SC := .post (.block 1 (.seq (.reg [⟨(some 13), (Op.move (Operand.tmp 10)), none, ann0⟩,
  ⟨(some 14), (Op.binOp BinOp.mul 3 (Operand.const (Value.int IntKind.i64 2)) (Operand.tmp 13) 3), none, ann0⟩,
  ⟨(some 15), (Op.binOp BinOp.add 3 (Operand.tmp 14) (Operand.const (Value.int IntKind.i64 1)) 3), none, ann0⟩,
  ⟨(some 11), (Op.assign (Operand.tmp 15)), none, ann0⟩] none)
 (.seq (.seq (.post (.reg [⟨(some 16), (Op.move (Operand.tmp 11)), none, ann0⟩,
  ⟨(some 17), (Op.move (Operand.tmp 2)), none, ann0⟩,
  ⟨(some 18), (Op.binOp BinOp.geq 3 (Operand.tmp 16) (Operand.tmp 17) 3), none, ann0⟩] none) (.tidy [0, 2, 3, 4, 10, 11, 18] z (z + 0)))
 (.cond (Operand.tmp 18) (.exit 0)
 .skip))
 (.seq (.post (.seq (.post (.reg [⟨(some 19), (Op.move (Operand.tmp 11)), none, ann0⟩,
  ⟨(some 20), (Op.binOp BinOp.add 3 (Operand.tmp 19) (Operand.const (Value.int IntKind.i64 1)) 3), none, ann0⟩,
  ⟨(some 21), (Op.move (Operand.tmp 2)), none, ann0⟩,
  ⟨(some 22), (Op.binOp BinOp.lss 3 (Operand.tmp 20) (Operand.tmp 21) 3), none, ann0⟩,
  ⟨(some 23), (Op.move (Operand.tmp 22)), none, ann0⟩,
  ⟨(some 24), (Op.move (Operand.tmp 4)), (some (23, true)), ann0⟩,
  ⟨(some 25), (Op.move (Operand.tmp 0)), (some (23, true)), ann0⟩,
  ⟨(some 26), (Op.move (Operand.tmp 3)), (some (23, true)), ann0⟩,
  ⟨(some 27), (Op.move (Operand.tmp 11)), (some (23, true)), ann0⟩,
  ⟨(some 28), (Op.binOp BinOp.add 3 (Operand.tmp 26) (Operand.tmp 27) 3), (some (23, true)), ann0⟩,
  ⟨(some 29), (Op.indexAddr 74 (Operand.tmp 25) (Operand.tmp 28)), (some (23, true)), ann0⟩,
  ⟨(some 30), (Op.load 3 (Operand.tmp 29)), (some (23, true)), ann0⟩,
  ⟨(some 31), (Op.move (Operand.tmp 0)), (some (23, true)), ann0⟩,
  ⟨(some 32), (Op.move (Operand.tmp 3)), (some (23, true)), ann0⟩,
  ⟨(some 33), (Op.move (Operand.tmp 11)), (some (23, true)), ann0⟩,
  ⟨(some 34), (Op.binOp BinOp.add 3 (Operand.tmp 32) (Operand.tmp 33) 3), (some (23, true)), ann0⟩,
  ⟨(some 35), (Op.binOp BinOp.add 3 (Operand.tmp 34) (Operand.const (Value.int IntKind.i64 1)) 3), (some (23, true)), ann0⟩,
  ⟨(some 36), (Op.indexAddr 74 (Operand.tmp 31) (Operand.tmp 35)), (some (23, true)), ann0⟩,
  ⟨(some 37), (Op.load 3 (Operand.tmp 36)), (some (23, true)), ann0⟩,
  ⟨(some 38), (Op.call { callee := (Callee.value (Operand.tmp 24)), args := #[(Operand.tmp 30), (Operand.tmp 37)], argTypes := #[3, 3] }), (some (23, true)), ann0⟩,
  ⟨(some 39), (Op.binOp BinOp.lss 3 (Operand.tmp 38) (Operand.const (Value.int IntKind.i64 0)) 3), (some (23, true)), ann0⟩,
  ⟨(some 40), (Op.pick (Operand.tmp 23) (Operand.tmp 39) (Operand.const (Value.bool false))), none, ann0⟩] (some [0, 1, 0, 7, 15, 31, 31, 31, 31, 415, 991, 2015, 31, 31, 31, 24607, 57375, 127007, 258079, 524287, 1048575, 2097151])) (.tidy [0, 2, 3, 4, 10, 11, 40] z (z + 0)))
 (.cond (Operand.tmp 40) (.reg [⟨(some 41), (Op.move (Operand.tmp 11)), none, ann0⟩,
  ⟨(some 42), (Op.binOp BinOp.add 3 (Operand.tmp 41) (Operand.const (Value.int IntKind.i64 1)) 3), none, ann0⟩,
  ⟨(some 11), (Op.assign (Operand.tmp 42)), none, ann0⟩] none)
 .skip)) (.tidy [0, 2, 3, 4, 10, 11] z (z + 0)))
 (.seq (.post (.seq (.post (.reg [⟨(some 43), (Op.move (Operand.tmp 4)), none, ann0⟩,
  ⟨(some 44), (Op.move (Operand.tmp 0)), none, ann0⟩,
  ⟨(some 45), (Op.move (Operand.tmp 3)), none, ann0⟩,
  ⟨(some 46), (Op.move (Operand.tmp 10)), none, ann0⟩,
  ⟨(some 47), (Op.binOp BinOp.add 3 (Operand.tmp 45) (Operand.tmp 46) 3), none, ann0⟩,
  ⟨(some 48), (Op.indexAddr 74 (Operand.tmp 44) (Operand.tmp 47)), none, ann0⟩,
  ⟨(some 49), (Op.load 3 (Operand.tmp 48)), none, ann0⟩,
  ⟨(some 50), (Op.move (Operand.tmp 0)), none, ann0⟩,
  ⟨(some 51), (Op.move (Operand.tmp 3)), none, ann0⟩,
  ⟨(some 52), (Op.move (Operand.tmp 11)), none, ann0⟩,
  ⟨(some 53), (Op.binOp BinOp.add 3 (Operand.tmp 51) (Operand.tmp 52) 3), none, ann0⟩,
  ⟨(some 54), (Op.indexAddr 74 (Operand.tmp 50) (Operand.tmp 53)), none, ann0⟩,
  ⟨(some 55), (Op.load 3 (Operand.tmp 54)), none, ann0⟩,
  ⟨(some 56), (Op.call { callee := (Callee.value (Operand.tmp 43)), args := #[(Operand.tmp 49), (Operand.tmp 55)], argTypes := #[3, 3] }), none, ann0⟩,
  ⟨(some 57), (Op.binOp BinOp.lss 3 (Operand.tmp 56) (Operand.const (Value.int IntKind.i64 0)) 3), none, ann0⟩,
  ⟨(some 58), (Op.unOp UnOp.not 4 (Operand.tmp 57)), none, ann0⟩] (some [0, 0, 0, 0, 12, 30, 62, 0, 0, 0, 768, 1920, 3968, 8191, 16383, 32767])) (.tidy [0, 2, 3, 4, 10, 11, 58] z (z + 0)))
 (.cond (Operand.tmp 58) .ret
 .skip)) (.tidy [0, 2, 3, 4, 10, 11] z (z + 0)))
 (.seq (.post (.reg [⟨(some 59), (Op.move (Operand.tmp 0)), none, ann0⟩,
  ⟨(some 60), (Op.move (Operand.tmp 3)), none, ann0⟩,
  ⟨(some 61), (Op.move (Operand.tmp 10)), none, ann0⟩,
  ⟨(some 62), (Op.binOp BinOp.add 3 (Operand.tmp 60) (Operand.tmp 61) 3), none, ann0⟩,
  ⟨(some 63), (Op.move (Operand.tmp 0)), none, ann0⟩,
  ⟨(some 64), (Op.move (Operand.tmp 3)), none, ann0⟩,
  ⟨(some 65), (Op.move (Operand.tmp 11)), none, ann0⟩,
  ⟨(some 66), (Op.binOp BinOp.add 3 (Operand.tmp 64) (Operand.tmp 65) 3), none, ann0⟩,
  ⟨(some 67), (Op.move (Operand.tmp 0)), none, ann0⟩,
  ⟨(some 68), (Op.move (Operand.tmp 3)), none, ann0⟩,
  ⟨(some 69), (Op.move (Operand.tmp 11)), none, ann0⟩,
  ⟨(some 70), (Op.binOp BinOp.add 3 (Operand.tmp 68) (Operand.tmp 69) 3), none, ann0⟩,
  ⟨(some 71), (Op.indexAddr 74 (Operand.tmp 67) (Operand.tmp 70)), none, ann0⟩,
  ⟨(some 72), (Op.load 3 (Operand.tmp 71)), none, ann0⟩,
  ⟨(some 73), (Op.move (Operand.tmp 0)), none, ann0⟩,
  ⟨(some 74), (Op.move (Operand.tmp 3)), none, ann0⟩,
  ⟨(some 75), (Op.move (Operand.tmp 10)), none, ann0⟩,
  ⟨(some 76), (Op.binOp BinOp.add 3 (Operand.tmp 74) (Operand.tmp 75) 3), none, ann0⟩,
  ⟨(some 77), (Op.indexAddr 74 (Operand.tmp 73) (Operand.tmp 76)), none, ann0⟩,
  ⟨(some 78), (Op.load 3 (Operand.tmp 77)), none, ann0⟩,
  ⟨(some 79), (Op.indexAddr 74 (Operand.tmp 59) (Operand.tmp 62)), none, ann0⟩,
  ⟨none, (Op.store 3 (Operand.tmp 79) (Operand.tmp 72)), none, ann0⟩,
  ⟨(some 80), (Op.indexAddr 74 (Operand.tmp 63) (Operand.tmp 66)), none, ann0⟩,
  ⟨none, (Op.store 3 (Operand.tmp 80) (Operand.tmp 78)), none, ann0⟩] (some [0, 0, 0, 6, 0, 0, 0, 96, 0, 0, 0, 1536, 3840, 7936, 0, 0, 0, 98304, 245760, 507904, 1048335, 2096911, 4194303, 8388607])) (.tidy [0, 2, 3, 4, 11] z (z + 0)))
 (.reg [⟨(some 81), (Op.move (Operand.tmp 11)), none, ann0⟩,
  ⟨(some 10), (Op.assign (Operand.tmp 81)), none, ann0⟩] none))))))) (.tidy [0, 2, 3, 4, 10] z (z + 0))
def s77_1 (z : Nat) : SC := c77_1 z
theorem e77_1 {C : Pg} {z : Nat} {st : St} {ks : List Fr} {K : Ex → St → Prop} : wpk C (s77_1 z) st ks K ↔ wpk C (c77_1 z) st ks K := Iff.rfl
def s77 (z : Nat) : SFn := ⟨5, 82, [],
 (.seq (.reg [⟨(some 12), (Op.move (Operand.tmp 1)), none, ann0⟩,
  ⟨(some 10), (Op.assign (Operand.tmp 12)), none, ann0⟩] none)
 (.post (.block 0 (.pre (.tidy [0, 2, 3, 4, 10] z (z + 0)) (.loop (s77_1 z)))) (.tidy [] z (z + 0))))⟩
theorem F77 (z : Nat) : FOk Try.prog 77 (s77 z) := by unfold FOk; kernel_rfl
def s78 (z : Nat) : SFn := ⟨1, 7, [(ResultVar.tmp 2)],
 (.seq (.reg [⟨(some 2), (Op.assign (Operand.const (Value.int IntKind.u64 0))), none, ann0⟩] none)
 (.seq (.reg [⟨(some 3), (Op.move (Operand.tmp 0)), none, ann0⟩,
  ⟨(some 4), (Op.convert 3 85 (Operand.tmp 3)), none, ann0⟩,
  ⟨(some 5), (Op.call { callee := (Callee.value (Operand.func 53)), args := #[(Operand.tmp 4)], argTypes := #[85] }), none, ann0⟩,
  ⟨(some 6), (Op.binOp BinOp.shl 85 (Operand.const (Value.int IntKind.u64 1)) (Operand.tmp 5) 3), none, ann0⟩,
  ⟨(some 2), (Op.assign (Operand.tmp 6)), none, ann0⟩] none)
 .ret))⟩
theorem F78 (z : Nat) : FOk Try.prog 78 (s78 z) := by unfold FOk; kernel_rfl
def s79 (z : Nat) : SFn := ⟨1, 33, [(ResultVar.tmp 2)],
 (.seq (.reg [⟨(some 2), (Op.assign (Operand.const (Value.int IntKind.u64 0))), none, ann0⟩] none)
 (.seq (.post (.reg [⟨(some 3), (Op.move (Operand.tmp 0)), none, ann0⟩,
  ⟨(some 4), (Op.nilCheck (Operand.tmp 3)), none, ann0⟩,
  ⟨(some 5), (Op.load 104 (Operand.tmp 4)), none, ann0⟩,
  ⟨(some 6), (Op.move (Operand.tmp 0)), none, ann0⟩,
  ⟨(some 7), (Op.nilCheck (Operand.tmp 6)), none, ann0⟩,
  ⟨(some 8), (Op.load 104 (Operand.tmp 7)), none, ann0⟩,
  ⟨(some 9), (Op.binOp BinOp.shl 104 (Operand.tmp 8) (Operand.const (Value.int IntKind.u64 13)) 85), none, ann0⟩,
  ⟨(some 10), (Op.binOp BinOp.xor 104 (Operand.tmp 5) (Operand.tmp 9) 104), none, ann0⟩,
  ⟨(some 11), (Op.nilCheck (Operand.tmp 3)), none, ann0⟩,
  ⟨none, (Op.store 104 (Operand.tmp 11) (Operand.tmp 10)), none, ann0⟩] (some [0, 1, 3, 0, 8, 24, 56, 127, 255, 511])) (.tidy [0] z (z + 0)))
 (.seq (.post (.reg [⟨(some 12), (Op.move (Operand.tmp 0)), none, ann0⟩,
  ⟨(some 13), (Op.nilCheck (Operand.tmp 12)), none, ann0⟩,
  ⟨(some 14), (Op.load 104 (Operand.tmp 13)), none, ann0⟩,
  ⟨(some 15), (Op.move (Operand.tmp 0)), none, ann0⟩,
  ⟨(some 16), (Op.nilCheck (Operand.tmp 15)), none, ann0⟩,
  ⟨(some 17), (Op.load 104 (Operand.tmp 16)), none, ann0⟩,
  ⟨(some 18), (Op.binOp BinOp.shr 104 (Operand.tmp 17) (Operand.const (Value.int IntKind.u64 7)) 85), none, ann0⟩,
  ⟨(some 19), (Op.binOp BinOp.xor 104 (Operand.tmp 14) (Operand.tmp 18) 104), none, ann0⟩,
  ⟨(some 20), (Op.nilCheck (Operand.tmp 12)), none, ann0⟩,
  ⟨none, (Op.store 104 (Operand.tmp 20) (Operand.tmp 19)), none, ann0⟩] (some [0, 1, 3, 0, 8, 24, 56, 127, 255, 511])) (.tidy [0] z (z + 0)))
 (.seq (.post (.reg [⟨(some 21), (Op.move (Operand.tmp 0)), none, ann0⟩,
  ⟨(some 22), (Op.nilCheck (Operand.tmp 21)), none, ann0⟩,
  ⟨(some 23), (Op.load 104 (Operand.tmp 22)), none, ann0⟩,
  ⟨(some 24), (Op.move (Operand.tmp 0)), none, ann0⟩,
  ⟨(some 25), (Op.nilCheck (Operand.tmp 24)), none, ann0⟩,
  ⟨(some 26), (Op.load 104 (Operand.tmp 25)), none, ann0⟩,
  ⟨(some 27), (Op.binOp BinOp.shl 104 (Operand.tmp 26) (Operand.const (Value.int IntKind.u64 17)) 85), none, ann0⟩,
  ⟨(some 28), (Op.binOp BinOp.xor 104 (Operand.tmp 23) (Operand.tmp 27) 104), none, ann0⟩,
  ⟨(some 29), (Op.nilCheck (Operand.tmp 21)), none, ann0⟩,
  ⟨none, (Op.store 104 (Operand.tmp 29) (Operand.tmp 28)), none, ann0⟩] (some [0, 1, 3, 0, 8, 24, 56, 127, 255, 511])) (.tidy [0] z (z + 0)))
 (.seq (.reg [⟨(some 30), (Op.move (Operand.tmp 0)), none, ann0⟩,
  ⟨(some 31), (Op.nilCheck (Operand.tmp 30)), none, ann0⟩,
  ⟨(some 32), (Op.load 104 (Operand.tmp 31)), none, ann0⟩,
  ⟨(some 2), (Op.assign (Operand.tmp 32)), none, ann0⟩] none)
 .ret)))))⟩
theorem F79 (z : Nat) : FOk Try.prog 79 (s79 z) := by unfold FOk; kernel_rfl
def s80 (z : Nat) : SFn := ⟨4, 18, [(ResultVar.tmp 8)],
 (.seq (.reg [⟨(some 8), (Op.assign (Operand.const (Value.int IntKind.i64 0))), none, ann0⟩] none)
 (.seq (.reg [⟨(some 9), (Op.move (Operand.tmp 0)), none, ann0⟩,
  ⟨(some 10), (Op.move (Operand.tmp 1)), none, ann0⟩,
  ⟨(some 11), (Op.binOp BinOp.sub 3 (Operand.tmp 10) (Operand.const (Value.int IntKind.i64 1)) 3), none, ann0⟩,
  ⟨(some 12), (Op.move (Operand.tmp 1)), none, ann0⟩,
  ⟨(some 13), (Op.move (Operand.tmp 1)), none, ann0⟩,
  ⟨(some 14), (Op.binOp BinOp.add 3 (Operand.tmp 13) (Operand.const (Value.int IntKind.i64 1)) 3), none, ann0⟩,
  ⟨(some 15), (Op.move (Operand.tmp 2)), none, ann0⟩,
  ⟨(some 16), (Op.move (Operand.tmp 3)), none, ann0⟩,
  ⟨(some 17), (Op.call { callee := (Callee.value (Operand.func 81)), args := #[(Operand.tmp 9), (Operand.tmp 11), (Operand.tmp 12), (Operand.tmp 14), (Operand.tmp 15), (Operand.tmp 16)], argTypes := #[74, 3, 3, 3, 108, 76] }), none, ann0⟩,
  ⟨(some 8), (Op.assign (Operand.tmp 17)), none, ann0⟩] none)
 .ret))⟩
theorem F80 (z : Nat) : FOk Try.prog 80 (s80 z) := by unfold FOk; kernel_rfl
def s81 (z : Nat) : SFn := ⟨6, 41, [(ResultVar.tmp 12)],
 (.seq (.reg [⟨(some 12), (Op.assign (Operand.const (Value.int IntKind.i64 0))), none, ann0⟩] none)
 (.seq (.post (.reg [⟨(some 14), (Op.move (Operand.tmp 0)), none, ann0⟩,
  ⟨(some 15), (Op.move (Operand.tmp 1)), none, ann0⟩,
  ⟨(some 16), (Op.move (Operand.tmp 2)), none, ann0⟩,
  ⟨(some 17), (Op.move (Operand.tmp 4)), none, ann0⟩,
  ⟨(some 18), (Op.move (Operand.tmp 5)), none, ann0⟩,
  ⟨(some 19), (Op.call { callee := (Callee.value (Operand.func 85)), args := #[(Operand.tmp 14), (Operand.tmp 15), (Operand.tmp 16), (Operand.tmp 17), (Operand.tmp 18)], argTypes := #[74, 3, 3, 108, 76] }), none, ann0⟩,
  ⟨(some 13), (Op.move (Operand.tmp 19)), none, ann0⟩,
  ⟨(some 20), (Op.extract (Operand.tmp 13) 0), none, ann0⟩,
  ⟨(some 21), (Op.extract (Operand.tmp 13) 1), none, ann0⟩,
  ⟨(some 1), (Op.assign (Operand.tmp 20)), none, ann0⟩,
  ⟨(some 2), (Op.assign (Operand.tmp 21)), none, ann0⟩] none) (.tidy [0, 1, 2, 3, 4, 5] z (z + 0)))
 (.seq (.post (.reg [⟨(some 23), (Op.move (Operand.tmp 0)), none, ann0⟩,
  ⟨(some 24), (Op.move (Operand.tmp 2)), none, ann0⟩,
  ⟨(some 25), (Op.move (Operand.tmp 3)), none, ann0⟩,
  ⟨(some 26), (Op.move (Operand.tmp 4)), none, ann0⟩,
  ⟨(some 27), (Op.move (Operand.tmp 5)), none, ann0⟩,
  ⟨(some 28), (Op.call { callee := (Callee.value (Operand.func 85)), args := #[(Operand.tmp 23), (Operand.tmp 24), (Operand.tmp 25), (Operand.tmp 26), (Operand.tmp 27)], argTypes := #[74, 3, 3, 108, 76] }), none, ann0⟩,
  ⟨(some 22), (Op.move (Operand.tmp 28)), none, ann0⟩,
  ⟨(some 29), (Op.extract (Operand.tmp 22) 0), none, ann0⟩,
  ⟨(some 30), (Op.extract (Operand.tmp 22) 1), none, ann0⟩,
  ⟨(some 2), (Op.assign (Operand.tmp 29)), none, ann0⟩,
  ⟨(some 3), (Op.assign (Operand.tmp 30)), none, ann0⟩] none) (.tidy [0, 1, 2, 4, 5] z (z + 0)))
 (.seq (.post (.reg [⟨(some 32), (Op.move (Operand.tmp 0)), none, ann0⟩,
  ⟨(some 33), (Op.move (Operand.tmp 1)), none, ann0⟩,
  ⟨(some 34), (Op.move (Operand.tmp 2)), none, ann0⟩,
  ⟨(some 35), (Op.move (Operand.tmp 4)), none, ann0⟩,
  ⟨(some 36), (Op.move (Operand.tmp 5)), none, ann0⟩,
  ⟨(some 37), (Op.call { callee := (Callee.value (Operand.func 85)), args := #[(Operand.tmp 32), (Operand.tmp 33), (Operand.tmp 34), (Operand.tmp 35), (Operand.tmp 36)], argTypes := #[74, 3, 3, 108, 76] }), none, ann0⟩,
  ⟨(some 31), (Op.move (Operand.tmp 37)), none, ann0⟩,
  ⟨(some 38), (Op.extract (Operand.tmp 31) 0), none, ann0⟩,
  ⟨(some 39), (Op.extract (Operand.tmp 31) 1), none, ann0⟩,
  ⟨(some 1), (Op.assign (Operand.tmp 38)), none, ann0⟩,
  ⟨(some 2), (Op.assign (Operand.tmp 39)), none, ann0⟩] none) (.tidy [2] z (z + 0)))
 (.seq (.reg [⟨(some 40), (Op.move (Operand.tmp 2)), none, ann0⟩,
  ⟨(some 12), (Op.assign (Operand.tmp 40)), none, ann0⟩] none)
 .ret)))))⟩
theorem F81 (z : Nat) : FOk Try.prog 81 (s81 z) := by unfold FOk; kernel_rfl
def s85 (z : Nat) : SFn := ⟨5, 32, [(ResultVar.tmp 10), (ResultVar.tmp 11)],
 (.seq (.reg [⟨(some 10), (Op.assign (Operand.const (Value.int IntKind.i64 0))), none, ann0⟩,
  ⟨(some 11), (Op.assign (Operand.const (Value.int IntKind.i64 0))), none, ann0⟩] none)
 (.seq (.post (.seq (.post (.reg [⟨(some 12), (Op.move (Operand.tmp 4)), none, ann0⟩,
  ⟨(some 13), (Op.move (Operand.tmp 0)), none, ann0⟩,
  ⟨(some 14), (Op.move (Operand.tmp 2)), none, ann0⟩,
  ⟨(some 15), (Op.indexAddr 74 (Operand.tmp 13) (Operand.tmp 14)), none, ann0⟩,
  ⟨(some 16), (Op.load 3 (Operand.tmp 15)), none, ann0⟩,
  ⟨(some 17), (Op.move (Operand.tmp 0)), none, ann0⟩,
  ⟨(some 18), (Op.move (Operand.tmp 1)), none, ann0⟩,
  ⟨(some 19), (Op.indexAddr 74 (Operand.tmp 17) (Operand.tmp 18)), none, ann0⟩,
  ⟨(some 20), (Op.load 3 (Operand.tmp 19)), none, ann0⟩,
  ⟨(some 21), (Op.call { callee := (Callee.value (Operand.tmp 12)), args := #[(Operand.tmp 16), (Operand.tmp 20)], argTypes := #[3, 3] }), none, ann0⟩,
  ⟨(some 22), (Op.binOp BinOp.lss 3 (Operand.tmp 21) (Operand.const (Value.int IntKind.i64 0)) 3), none, ann0⟩] (some [0, 0, 0, 6, 14, 0, 0, 96, 224, 511, 1023])) (.tidy [1, 2, 3, 22] z (z + 0)))
 (.cond (Operand.tmp 22) (.seq (.reg [⟨(some 23), (Op.move (Operand.tmp 3)), none, ann0⟩,
  ⟨(some 24), (Op.nilCheck (Operand.tmp 23)), none, ann0⟩,
  ⟨(some 25), (Op.load 3 (Operand.tmp 24)), none, ann0⟩,
  ⟨(some 26), (Op.binOp BinOp.add 3 (Operand.tmp 25) (Operand.const (Value.int IntKind.i64 1)) 3), none, ann0⟩,
  ⟨(some 27), (Op.nilCheck (Operand.tmp 23)), none, ann0⟩,
  ⟨none, (Op.store 3 (Operand.tmp 27) (Operand.tmp 26)), none, ann0⟩] none)
 (.seq (.reg [⟨(some 28), (Op.move (Operand.tmp 2)), none, ann0⟩,
  ⟨(some 29), (Op.move (Operand.tmp 1)), none, ann0⟩,
  ⟨(some 10), (Op.assign (Operand.tmp 28)), none, ann0⟩,
  ⟨(some 11), (Op.assign (Operand.tmp 29)), none, ann0⟩] none)
 .ret))
 .skip)) (.tidy [1, 2] z (z + 0)))
 (.seq (.reg [⟨(some 30), (Op.move (Operand.tmp 1)), none, ann0⟩,
  ⟨(some 31), (Op.move (Operand.tmp 2)), none, ann0⟩,
  ⟨(some 10), (Op.assign (Operand.tmp 30)), none, ann0⟩,
  ⟨(some 11), (Op.assign (Operand.tmp 31)), none, ann0⟩] none)
 .ret)))⟩
theorem F85 (z : Nat) : FOk Try.prog 85 (s85 z) := by unfold FOk; kernel_rfl
def AL (z : Nat) : List (Nat × SFn) := [(5, s5 z), (12, s12 z), (13, s13 z), (14, s14 z), (15, s15 z), (16, s16 z), (17, s17 z), (18, s18 z), (19, s19 z), (20, s20 z), (21, s21 z), (22, s22 z), (23, s23 z), (24, s24 z), (25, s25 z), (26, s26 z), (27, s27 z), (29, s29 z), (32, s32 z), (35, s35 z), (36, s36 z), (37, s37 z), (38, s38 z), (39, s39 z), (40, s40 z), (41, s41 z), (42, s42 z), (43, s43 z), (44, s44 z), (45, s45 z), (46, s46 z), (47, s47 z), (49, s49 z), (50, s50 z), (51, s51 z), (52, s52 z), (53, s53 z), (54, s54 z), (56, s56 z), (57, s57 z), (58, s58 z), (59, s59 z), (60, s60 z), (61, s61 z), (62, s62 z), (63, s63 z), (64, s64 z), (65, s65 z), (66, s66 z), (67, s67 z), (68, s68 z), (69, s69 z), (77, s77 z), (78, s78 z), (79, s79 z), (80, s80 z), (81, s81 z), (85, s85 z)]
def AA (f : FuncId) (_ : List AV) (obs : List AObj) : Option SFn := getF f (AL obs.length)
theorem AL_ok (z : Nat) : AllF Try.prog (AL z) := by
  simp only [AL, AllF]
  exact ⟨F5 z, F12 z, F13 z, F14 z, F15 z, F16 z, F17 z, F18 z, F19 z, F20 z, F21 z, F22 z, F23 z, F24 z, F25 z, F26 z, F27 z, F29 z, F32 z, F35 z, F36 z, F37 z, F38 z, F39 z, F40 z, F41 z, F42 z, F43 z, F44 z, F45 z, F46 z, F47 z, F49 z, F50 z, F51 z, F52 z, F53 z, F54 z, F56 z, F57 z, F58 z, F59 z, F60 z, F61 z, F62 z, F63 z, F64 z, F65 z, F66 z, F67 z, F68 z, F69 z, F77 z, F78 z, F79 z, F80 z, F81 z, F85 z, trivial⟩
theorem AA_ok (f : FuncId) (xs : List AV) (obs : List AObj) (s : SFn) (h : AA f xs obs = some s) : (Try.prog.funcs[f]?).bind slimFn = some (s.erase Try.prog) := getF_ok (AL_ok _) h
def LL : List (Nat × SLoop) := []
def LT (k : Nat) : Option SLoop := getLp k LL
theorem LT_ok (k : Nat) (l : SLoop) (h : LT k = some l) : loopS Try.prog k = some (l.erase Try.prog) := getLp_ok (t := LL) (by simp only [LL, AllL]) h
theorem A5 (xs : List AV) (obs : List AObj) : AA 5 xs obs = some (s5 obs.length) := rfl
theorem A12 (xs : List AV) (obs : List AObj) : AA 12 xs obs = some (s12 obs.length) := rfl
theorem A13 (xs : List AV) (obs : List AObj) : AA 13 xs obs = some (s13 obs.length) := rfl
theorem A14 (xs : List AV) (obs : List AObj) : AA 14 xs obs = some (s14 obs.length) := rfl
theorem A15 (xs : List AV) (obs : List AObj) : AA 15 xs obs = some (s15 obs.length) := rfl
theorem A16 (xs : List AV) (obs : List AObj) : AA 16 xs obs = some (s16 obs.length) := rfl
theorem A17 (xs : List AV) (obs : List AObj) : AA 17 xs obs = some (s17 obs.length) := rfl
theorem A18 (xs : List AV) (obs : List AObj) : AA 18 xs obs = some (s18 obs.length) := rfl
theorem A19 (xs : List AV) (obs : List AObj) : AA 19 xs obs = some (s19 obs.length) := rfl
theorem A20 (xs : List AV) (obs : List AObj) : AA 20 xs obs = some (s20 obs.length) := rfl
theorem A21 (xs : List AV) (obs : List AObj) : AA 21 xs obs = some (s21 obs.length) := rfl
theorem A22 (xs : List AV) (obs : List AObj) : AA 22 xs obs = some (s22 obs.length) := rfl
theorem A23 (xs : List AV) (obs : List AObj) : AA 23 xs obs = some (s23 obs.length) := rfl
theorem A24 (xs : List AV) (obs : List AObj) : AA 24 xs obs = some (s24 obs.length) := rfl
theorem A25 (xs : List AV) (obs : List AObj) : AA 25 xs obs = some (s25 obs.length) := rfl
theorem A26 (xs : List AV) (obs : List AObj) : AA 26 xs obs = some (s26 obs.length) := rfl
theorem A27 (xs : List AV) (obs : List AObj) : AA 27 xs obs = some (s27 obs.length) := rfl
theorem A29 (xs : List AV) (obs : List AObj) : AA 29 xs obs = some (s29 obs.length) := rfl
theorem A32 (xs : List AV) (obs : List AObj) : AA 32 xs obs = some (s32 obs.length) := rfl
theorem A35 (xs : List AV) (obs : List AObj) : AA 35 xs obs = some (s35 obs.length) := rfl
theorem A36 (xs : List AV) (obs : List AObj) : AA 36 xs obs = some (s36 obs.length) := rfl
theorem A37 (xs : List AV) (obs : List AObj) : AA 37 xs obs = some (s37 obs.length) := rfl
theorem A38 (xs : List AV) (obs : List AObj) : AA 38 xs obs = some (s38 obs.length) := rfl
theorem A39 (xs : List AV) (obs : List AObj) : AA 39 xs obs = some (s39 obs.length) := rfl
theorem A40 (xs : List AV) (obs : List AObj) : AA 40 xs obs = some (s40 obs.length) := rfl
theorem A41 (xs : List AV) (obs : List AObj) : AA 41 xs obs = some (s41 obs.length) := rfl
theorem A42 (xs : List AV) (obs : List AObj) : AA 42 xs obs = some (s42 obs.length) := rfl
theorem A43 (xs : List AV) (obs : List AObj) : AA 43 xs obs = some (s43 obs.length) := rfl
theorem A44 (xs : List AV) (obs : List AObj) : AA 44 xs obs = some (s44 obs.length) := rfl
theorem A45 (xs : List AV) (obs : List AObj) : AA 45 xs obs = some (s45 obs.length) := rfl
theorem A46 (xs : List AV) (obs : List AObj) : AA 46 xs obs = some (s46 obs.length) := rfl
theorem A47 (xs : List AV) (obs : List AObj) : AA 47 xs obs = some (s47 obs.length) := rfl
theorem A49 (xs : List AV) (obs : List AObj) : AA 49 xs obs = some (s49 obs.length) := rfl
theorem A50 (xs : List AV) (obs : List AObj) : AA 50 xs obs = some (s50 obs.length) := rfl
theorem A51 (xs : List AV) (obs : List AObj) : AA 51 xs obs = some (s51 obs.length) := rfl
theorem A52 (xs : List AV) (obs : List AObj) : AA 52 xs obs = some (s52 obs.length) := rfl
theorem A53 (xs : List AV) (obs : List AObj) : AA 53 xs obs = some (s53 obs.length) := rfl
theorem A54 (xs : List AV) (obs : List AObj) : AA 54 xs obs = some (s54 obs.length) := rfl
theorem A56 (xs : List AV) (obs : List AObj) : AA 56 xs obs = some (s56 obs.length) := rfl
theorem A57 (xs : List AV) (obs : List AObj) : AA 57 xs obs = some (s57 obs.length) := rfl
theorem A58 (xs : List AV) (obs : List AObj) : AA 58 xs obs = some (s58 obs.length) := rfl
theorem A59 (xs : List AV) (obs : List AObj) : AA 59 xs obs = some (s59 obs.length) := rfl
theorem A60 (xs : List AV) (obs : List AObj) : AA 60 xs obs = some (s60 obs.length) := rfl
theorem A61 (xs : List AV) (obs : List AObj) : AA 61 xs obs = some (s61 obs.length) := rfl
theorem A62 (xs : List AV) (obs : List AObj) : AA 62 xs obs = some (s62 obs.length) := rfl
theorem A63 (xs : List AV) (obs : List AObj) : AA 63 xs obs = some (s63 obs.length) := rfl
theorem A64 (xs : List AV) (obs : List AObj) : AA 64 xs obs = some (s64 obs.length) := rfl
theorem A65 (xs : List AV) (obs : List AObj) : AA 65 xs obs = some (s65 obs.length) := rfl
theorem A66 (xs : List AV) (obs : List AObj) : AA 66 xs obs = some (s66 obs.length) := rfl
theorem A67 (xs : List AV) (obs : List AObj) : AA 67 xs obs = some (s67 obs.length) := rfl
theorem A68 (xs : List AV) (obs : List AObj) : AA 68 xs obs = some (s68 obs.length) := rfl
theorem A69 (xs : List AV) (obs : List AObj) : AA 69 xs obs = some (s69 obs.length) := rfl
theorem A77 (xs : List AV) (obs : List AObj) : AA 77 xs obs = some (s77 obs.length) := rfl
theorem A78 (xs : List AV) (obs : List AObj) : AA 78 xs obs = some (s78 obs.length) := rfl
theorem A79 (xs : List AV) (obs : List AObj) : AA 79 xs obs = some (s79 obs.length) := rfl
theorem A80 (xs : List AV) (obs : List AObj) : AA 80 xs obs = some (s80 obs.length) := rfl
theorem A81 (xs : List AV) (obs : List AObj) : AA 81 xs obs = some (s81 obs.length) := rfl
theorem A85 (xs : List AV) (obs : List AObj) : AA 85 xs obs = some (s85 obs.length) := rfl
end Go.Proofs.YtdhbecdlablonaaV
