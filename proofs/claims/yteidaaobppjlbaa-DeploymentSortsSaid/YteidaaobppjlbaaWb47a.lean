/- Functions' code, with notes for the interpreter, and the facts that it is the program's: made by a program. -/
import Derived.Test.YteidaaobppjlbaaVC
import Derived.Test.YteidaaobppjlbaaProg
import Derived.KernelRfl
set_option linter.unusedVariables false
namespace Go.Proofs.YteidaaobppjlbaaV
open Go.RowKit

def c20_1 (z : Nat) : SC := .post (.seq (.reg [⟨(some 10), (Op.binOp BinOp.lss 3 (Operand.tmp 9) (Operand.tmp 8) 3), none, ann0⟩] none)
 (.seq (.cond (Operand.tmp 10) .skip
 (.exit 0))
 (.seq (.post (.block 1 (.seq (.reg [⟨(some 11), (Op.move (Operand.tmp 9)), none, ann0⟩,
  ⟨(some 12), (Op.indexAddr 22 (Operand.tmp 7) (Operand.tmp 9)), none, ann0⟩,
  ⟨(some 13), (Op.load 26 (Operand.tmp 12)), none, ann0⟩,
  ⟨(some 5), (Op.alloc 26), none, ⟨1, false, false⟩⟩,
  ⟨(some 4), (Op.assign (Operand.tmp 11)), none, ann0⟩,
  ⟨none, (Op.store 26 (Operand.tmp 5) (Operand.tmp 13)), none, ann0⟩] none)
 (.seq (.post (.reg [⟨(some 14), (Op.move (Operand.tmp 0)), none, ann0⟩,
  ⟨(some 15), (Op.move (Operand.tmp 4)), none, ann0⟩,
  ⟨(some 16), (Op.call { callee := (Callee.value (Operand.func 48)), args := #[(Operand.tmp 14), (Operand.tmp 15)], argTypes := #[22, 3] }), none, ann0⟩,
  ⟨(some 6), (Op.alloc 37), none, ⟨1, false, false⟩⟩,
  ⟨none, (Op.store 37 (Operand.tmp 6) (Operand.tmp 16)), none, ann0⟩] none) (.tidy [0, 3, 5, 6, 7, 8, 9] z (z + 3)))
 (.seq (.post (.reg [⟨(some 17), (Op.fieldAddr 26 (Operand.tmp 5) 1), none, ann0⟩,
  ⟨(some 18), (Op.load 3 (Operand.tmp 17)), none, ann0⟩,
  ⟨(some 19), (Op.binOp BinOp.eql 3 (Operand.tmp 18) (Operand.const (Value.int IntKind.i64 1)) 3), none, ann0⟩,
  ⟨(some 20), (Op.move (Operand.tmp 19)), none, ann0⟩,
  ⟨(some 21), (Op.load 37 (Operand.tmp 6)), (some (20, true)), ann0⟩,
  ⟨(some 22), (Op.build 37 #[]), (some (20, true)), ann0⟩,
  ⟨(some 23), (Op.binOp BinOp.neq 37 (Operand.tmp 21) (Operand.tmp 22) 37), (some (20, true)), ann0⟩,
  ⟨(some 24), (Op.pick (Operand.tmp 20) (Operand.tmp 23) (Operand.const (Value.bool false))), none, ann0⟩] none) (.tidy [0, 3, 5, 6, 7, 8, 9, 24] z (z + 3)))
 (.cond (Operand.tmp 24) (.reg [⟨(some 25), (Op.move (Operand.tmp 3)), none, ann0⟩,
  ⟨(some 26), (Op.fieldAddr 26 (Operand.tmp 5) 0), none, ann0⟩,
  ⟨(some 27), (Op.load 3 (Operand.tmp 26)), none, ann0⟩,
  ⟨(some 28), (Op.fieldAddr 26 (Operand.tmp 5) 3), none, ann0⟩,
  ⟨(some 29), (Op.load 9 (Operand.tmp 28)), none, ann0⟩,
  ⟨(some 30), (Op.fieldAddr 26 (Operand.tmp 5) 5), none, ann0⟩,
  ⟨(some 31), (Op.load 9 (Operand.tmp 30)), none, ann0⟩,
  ⟨(some 32), (Op.load 37 (Operand.tmp 6)), none, ann0⟩,
  ⟨(some 33), (Op.build 39 #[(0, (Operand.tmp 27)), (1, (Operand.tmp 29)), (2, (Operand.tmp 31)), (3, (Operand.tmp 32))]), none, ann0⟩,
  ⟨(some 34), (Op.buildSlice 32 1 #[(0, (Operand.tmp 33))]), none, ⟨1, true, false⟩⟩,
  ⟨(some 35), (Op.call { callee := (Callee.builtin Builtin.append), args := #[(Operand.tmp 25), (Operand.tmp 34)], argTypes := #[32, 32] }), none, ann0⟩,
  ⟨(some 3), (Op.assign (Operand.tmp 35)), none, ann0⟩] none)
 .skip))))) (.tidy [0, 3, 7, 8, 9] z (z + 4)))
 (.reg [⟨(some 36), (Op.binOp BinOp.add 3 (Operand.tmp 9) (Operand.const (Value.int IntKind.i64 1)) 3), none, ann0⟩,
  ⟨(some 9), (Op.move (Operand.tmp 36)), none, ann0⟩] none)))) (.tidy [0, 3, 7, 8, 9] z (z + 1))
def s20_1 (z : Nat) : SC := c20_1 z
theorem e20_1 {C : Pg} {z : Nat} {st : St} {ks : List Fr} {K : Ex → St → Prop} : wpk C (s20_1 z) st ks K ↔ wpk C (c20_1 z) st ks K := Iff.rfl
def s20 (z : Nat) : SFn := ⟨1, 38, [(ResultVar.tmp 2)],
 (.post (.seq (.reg [⟨(some 2), (Op.assign (Operand.const (Value.slice none 0 0))), none, ann0⟩] none)
 (.seq (.post (.reg [⟨(some 3), (Op.assign (Operand.const (Value.slice none 0 0))), none, ann0⟩] none) (.mkv 3 39 5))
 (.seq (.post (.seq (.reg [⟨(some 7), (Op.move (Operand.tmp 0)), none, ann0⟩,
  ⟨(some 8), (Op.call { callee := (Callee.builtin Builtin.len), args := #[(Operand.tmp 7)], argTypes := #[22] }), none, ann0⟩,
  ⟨(some 9), (Op.move (Operand.const (Value.int IntKind.i64 0))), none, ann0⟩] none)
 (.post (.block 0 (.pre (.tidy [0, 3, 7, 8, 9] z (z + 1)) (.loop (s20_1 z)))) (.tidy [3] z (z + 1)))) (.tidy [3] z (z + 1)))
 (.seq (.reg [⟨(some 37), (Op.move (Operand.tmp 3)), none, ann0⟩,
  ⟨(some 2), (Op.assign (Operand.tmp 37)), none, ann0⟩] none)
 .ret)))) (.frz 2))⟩
theorem F20 (z : Nat) : FOk Try.prog 20 (s20 z) := by unfold FOk; kernel_rfl
def c29_1 (z : Nat) : SC := .post (.seq (.reg [⟨(some 13), (Op.binOp BinOp.lss 3 (Operand.tmp 12) (Operand.tmp 11) 3), none, ann0⟩] none)
 (.seq (.cond (Operand.tmp 13) .skip
 (.exit 0))
 (.seq (.post (.block 1 (.seq (.reg [⟨(some 14), (Op.move (Operand.tmp 12)), none, ann0⟩,
  ⟨(some 15), (Op.indexAddr 22 (Operand.tmp 10) (Operand.tmp 12)), none, ann0⟩,
  ⟨(some 16), (Op.load 26 (Operand.tmp 15)), none, ann0⟩,
  ⟨(some 9), (Op.alloc 26), none, ⟨1, false, false⟩⟩,
  ⟨(some 8), (Op.assign (Operand.tmp 14)), none, ann0⟩,
  ⟨none, (Op.store 26 (Operand.tmp 9) (Operand.tmp 16)), none, ann0⟩] none)
 (.seq (.post (.reg [⟨(some 17), (Op.fieldAddr 26 (Operand.tmp 9) 1), none, ann0⟩,
  ⟨(some 18), (Op.load 3 (Operand.tmp 17)), none, ann0⟩,
  ⟨(some 19), (Op.binOp BinOp.eql 3 (Operand.tmp 18) (Operand.const (Value.int IntKind.i64 1)) 3), none, ann0⟩,
  ⟨(some 20), (Op.move (Operand.tmp 19)), none, ann0⟩,
  ⟨(some 21), (Op.fieldAddr 26 (Operand.tmp 9) 3), (some (20, true)), ann0⟩,
  ⟨(some 22), (Op.load 9 (Operand.tmp 21)), (some (20, true)), ann0⟩,
  ⟨(some 23), (Op.move (Operand.tmp 1)), (some (20, true)), ann0⟩,
  ⟨(some 24), (Op.binOp BinOp.eql 9 (Operand.tmp 22) (Operand.tmp 23) 9), (some (20, true)), ann0⟩,
  ⟨(some 25), (Op.pick (Operand.tmp 20) (Operand.tmp 24) (Operand.const (Value.bool false))), none, ann0⟩,
  ⟨(some 26), (Op.move (Operand.tmp 25)), none, ann0⟩,
  ⟨(some 27), (Op.move (Operand.tmp 0)), (some (26, true)), ann0⟩,
  ⟨(some 28), (Op.move (Operand.tmp 8)), (some (26, true)), ann0⟩,
  ⟨(some 29), (Op.call { callee := (Callee.value (Operand.func 48)), args := #[(Operand.tmp 27), (Operand.tmp 28)], argTypes := #[22, 3] }), (some (26, true)), ann0⟩,
  ⟨(some 30), (Op.move (Operand.tmp 2)), (some (26, true)), ann0⟩,
  ⟨(some 31), (Op.call { callee := (Callee.value (Operand.func 53)), args := #[(Operand.tmp 29), (Operand.tmp 30)], argTypes := #[37, 3] }), (some (26, true)), ann0⟩,
  ⟨(some 32), (Op.pick (Operand.tmp 26) (Operand.tmp 31) (Operand.const (Value.bool false))), none, ann0⟩] none) (.tidy [0, 1, 2, 6, 9, 10, 11, 12, 32] z (z + 2)))
 (.cond (Operand.tmp 32) (.seq (.reg [⟨(some 33), (Op.load 26 (Operand.tmp 9)), none, ann0⟩,
  ⟨none, (Op.store 26 (Operand.tmp 6) (Operand.tmp 33)), none, ann0⟩,
  ⟨(some 7), (Op.assign (Operand.const (Value.bool true))), none, ann0⟩] none)
 .ret)
 .skip)))) (.tidy [0, 1, 2, 6, 10, 11, 12] z (z + 2)))
 (.reg [⟨(some 34), (Op.binOp BinOp.add 3 (Operand.tmp 12) (Operand.const (Value.int IntKind.i64 1)) 3), none, ann0⟩,
  ⟨(some 12), (Op.move (Operand.tmp 34)), none, ann0⟩] none)))) (.tidy [0, 1, 2, 6, 10, 11, 12] z (z + 1))
def s29_1 (z : Nat) : SC := c29_1 z
theorem e29_1 {C : Pg} {z : Nat} {st : St} {ks : List Fr} {K : Ex → St → Prop} : wpk C (s29_1 z) st ks K ↔ wpk C (c29_1 z) st ks K := Iff.rfl
def s29 (z : Nat) : SFn := ⟨3, 36, [(ResultVar.cell 6 26), (ResultVar.tmp 7)],
 (.seq (.reg [⟨(some 6), (Op.alloc 26), none, ⟨1, false, false⟩⟩,
  ⟨(some 7), (Op.assign (Operand.const (Value.bool false))), none, ann0⟩] none)
 (.seq (.post (.seq (.reg [⟨(some 10), (Op.move (Operand.tmp 0)), none, ann0⟩,
  ⟨(some 11), (Op.call { callee := (Callee.builtin Builtin.len), args := #[(Operand.tmp 10)], argTypes := #[22] }), none, ann0⟩,
  ⟨(some 12), (Op.move (Operand.const (Value.int IntKind.i64 0))), none, ann0⟩] none)
 (.post (.block 0 (.pre (.tidy [0, 1, 2, 6, 10, 11, 12] z (z + 1)) (.loop (s29_1 z)))) (.tidy [6] z (z + 1)))) (.tidy [6] z (z + 1)))
 (.seq (.reg [⟨(some 35), (Op.build 26 #[]), none, ann0⟩,
  ⟨none, (Op.store 26 (Operand.tmp 6) (Operand.tmp 35)), none, ann0⟩,
  ⟨(some 7), (Op.assign (Operand.const (Value.bool false))), none, ann0⟩] none)
 .ret)))⟩
theorem F29 (z : Nat) : FOk Try.prog 29 (s29 z) := by unfold FOk; kernel_rfl
def c48_1 (z : Nat) : SC := .post (.seq (.reg [⟨(some 20), (Op.binOp BinOp.lss 3 (Operand.tmp 19) (Operand.tmp 18) 3), none, ann0⟩] none)
 (.seq (.cond (Operand.tmp 20) .skip
 (.exit 0))
 (.seq (.post (.block 1 (.seq (.reg [⟨(some 21), (Op.indexAddr 22 (Operand.tmp 17) (Operand.tmp 19)), none, ann0⟩,
  ⟨(some 22), (Op.load 26 (Operand.tmp 21)), none, ann0⟩,
  ⟨(some 7), (Op.alloc 26), none, ⟨1, false, false⟩⟩,
  ⟨none, (Op.store 26 (Operand.tmp 7) (Operand.tmp 22)), none, ann0⟩] none)
 (.seq (.post (.reg [⟨(some 23), (Op.load 26 (Operand.tmp 7)), none, ann0⟩,
  ⟨(some 24), (Op.call { callee := (Callee.value (Operand.func 58)), args := #[(Operand.tmp 23)], argTypes := #[26] }), none, ann0⟩,
  ⟨(some 25), (Op.move (Operand.tmp 0)), none, ann0⟩,
  ⟨(some 26), (Op.move (Operand.tmp 1)), none, ann0⟩,
  ⟨(some 27), (Op.indexAddr 22 (Operand.tmp 25) (Operand.tmp 26)), none, ann0⟩,
  ⟨(some 28), (Op.load 26 (Operand.tmp 27)), none, ann0⟩,
  ⟨(some 29), (Op.call { callee := (Callee.value (Operand.func 58)), args := #[(Operand.tmp 28)], argTypes := #[26] }), none, ann0⟩,
  ⟨(some 30), (Op.binOp BinOp.eql 116 (Operand.tmp 24) (Operand.tmp 29) 116), none, ann0⟩] (some [0, 1, 0, 0, 12, 28, 63, 127])) (.tidy [0, 1, 4, 5, 7, 17, 18, 19, 30] z (z + 3)))
 (.cond (Operand.tmp 30) (.seq (.reg [⟨(some 31), (Op.fieldAddr 26 (Operand.tmp 7) 2), none, ann0⟩,
  ⟨(some 32), (Op.load 3 (Operand.tmp 31)), none, ann0⟩,
  ⟨(some 33), (Op.fieldAddr 37 (Operand.tmp 5) 1), none, ann0⟩,
  ⟨none, (Op.store 3 (Operand.tmp 33) (Operand.tmp 32)), none, ann0⟩] none)
 (.exit 0))
 .skip)))) (.tidy [0, 1, 4, 5, 17, 18, 19] z (z + 3)))
 (.reg [⟨(some 34), (Op.binOp BinOp.add 3 (Operand.tmp 19) (Operand.const (Value.int IntKind.i64 1)) 3), none, ann0⟩,
  ⟨(some 19), (Op.move (Operand.tmp 34)), none, ann0⟩] none)))) (.tidy [0, 1, 4, 5, 17, 18, 19] z (z + 2))
def s48_1 (z : Nat) : SC := c48_1 z
theorem e48_1 {C : Pg} {z : Nat} {st : St} {ks : List Fr} {K : Ex → St → Prop} : wpk C (s48_1 z) st ks K ↔ wpk C (c48_1 z) st ks K := Iff.rfl
def s48 (z : Nat) : SFn := ⟨2, 42, [(ResultVar.cell 4 37)],
 (.seq (.reg [⟨(some 4), (Op.alloc 37), none, ⟨1, false, false⟩⟩] none)
 (.seq (.post (.reg [⟨(some 8), (Op.move (Operand.tmp 0)), none, ann0⟩,
  ⟨(some 9), (Op.move (Operand.tmp 1)), none, ann0⟩,
  ⟨(some 10), (Op.indexAddr 22 (Operand.tmp 8) (Operand.tmp 9)), none, ann0⟩,
  ⟨(some 11), (Op.fieldAddr 26 (Operand.tmp 10) 2), none, ann0⟩,
  ⟨(some 12), (Op.load 3 (Operand.tmp 11)), none, ann0⟩,
  ⟨(some 13), (Op.build 37 #[(0, (Operand.tmp 12)), (1, (Operand.const (Value.int IntKind.i64 1048577)))]), none, ann0⟩,
  ⟨(some 5), (Op.alloc 37), none, ⟨1, false, false⟩⟩,
  ⟨none, (Op.store 37 (Operand.tmp 5) (Operand.tmp 13)), none, ann0⟩] none) (.tidy [0, 1, 4, 5] z (z + 2)))
 (.seq (.post (.seq (.reg [⟨(some 14), (Op.move (Operand.tmp 0)), none, ann0⟩,
  ⟨(some 15), (Op.move (Operand.tmp 1)), none, ann0⟩,
  ⟨(some 16), (Op.binOp BinOp.add 3 (Operand.tmp 15) (Operand.const (Value.int IntKind.i64 1)) 3), none, ann0⟩,
  ⟨(some 17), (Op.slice 22 (Operand.tmp 14) (some (Operand.tmp 16)) none none), none, ann0⟩,
  ⟨(some 18), (Op.call { callee := (Callee.builtin Builtin.len), args := #[(Operand.tmp 17)], argTypes := #[22] }), none, ann0⟩,
  ⟨(some 19), (Op.move (Operand.const (Value.int IntKind.i64 0))), none, ann0⟩] none)
 (.post (.block 0 (.pre (.tidy [0, 1, 4, 5, 17, 18, 19] z (z + 2)) (.loop (s48_1 z)))) (.tidy [4, 5] z (z + 2)))) (.tidy [4, 5] z (z + 2)))
 (.seq (.post (.seq (.reg [⟨(some 35), (Op.fieldAddr 37 (Operand.tmp 5) 0), none, ann0⟩,
  ⟨(some 36), (Op.load 3 (Operand.tmp 35)), none, ann0⟩,
  ⟨(some 37), (Op.fieldAddr 37 (Operand.tmp 5) 1), none, ann0⟩,
  ⟨(some 38), (Op.load 3 (Operand.tmp 37)), none, ann0⟩,
  ⟨(some 39), (Op.binOp BinOp.geq 3 (Operand.tmp 36) (Operand.tmp 38) 3), none, ann0⟩] none)
 (.cond (Operand.tmp 39) (.seq (.reg [⟨(some 40), (Op.build 37 #[]), none, ann0⟩,
  ⟨none, (Op.store 37 (Operand.tmp 4) (Operand.tmp 40)), none, ann0⟩] none)
 .ret)
 .skip)) (.tidy [4, 5] z (z + 2)))
 (.seq (.reg [⟨(some 41), (Op.load 37 (Operand.tmp 5)), none, ann0⟩,
  ⟨none, (Op.store 37 (Operand.tmp 4) (Operand.tmp 41)), none, ann0⟩] none)
 .ret)))))⟩
theorem F48 (z : Nat) : FOk Try.prog 48 (s48 z) := by unfold FOk; kernel_rfl
def s53 (z : Nat) : SFn := ⟨2, 15, [(ResultVar.tmp 4)],
 (.seq (.reg [⟨(some 2), (Op.box 37 (Operand.tmp 0)), none, ⟨1, false, false⟩⟩,
  ⟨(some 4), (Op.assign (Operand.const (Value.bool false))), none, ann0⟩] none)
 (.seq (.reg [⟨(some 5), (Op.fieldAddr 37 (Operand.tmp 2) 0), none, ann0⟩,
  ⟨(some 6), (Op.load 3 (Operand.tmp 5)), none, ann0⟩,
  ⟨(some 7), (Op.move (Operand.tmp 1)), none, ann0⟩,
  ⟨(some 8), (Op.binOp BinOp.leq 3 (Operand.tmp 6) (Operand.tmp 7) 3), none, ann0⟩,
  ⟨(some 9), (Op.move (Operand.tmp 8)), none, ann0⟩,
  ⟨(some 10), (Op.move (Operand.tmp 1)), (some (9, true)), ann0⟩,
  ⟨(some 11), (Op.fieldAddr 37 (Operand.tmp 2) 1), (some (9, true)), ann0⟩,
  ⟨(some 12), (Op.load 3 (Operand.tmp 11)), (some (9, true)), ann0⟩,
  ⟨(some 13), (Op.binOp BinOp.lss 3 (Operand.tmp 10) (Operand.tmp 12) 3), (some (9, true)), ann0⟩,
  ⟨(some 14), (Op.pick (Operand.tmp 9) (Operand.tmp 13) (Operand.const (Value.bool false))), none, ann0⟩,
  ⟨(some 4), (Op.assign (Operand.tmp 14)), none, ann0⟩] none)
 .ret))⟩
theorem F53 (z : Nat) : FOk Try.prog 53 (s53 z) := by unfold FOk; kernel_rfl
def s58 (z : Nat) : SFn := ⟨1, 10, [(ResultVar.cell 2 116)],
 (.seq (.reg [⟨(some 1), (Op.box 26 (Operand.tmp 0)), none, ⟨1, false, false⟩⟩,
  ⟨(some 2), (Op.alloc 116), none, ⟨1, false, false⟩⟩] none)
 (.seq (.reg [⟨(some 3), (Op.fieldAddr 26 (Operand.tmp 1) 1), none, ann0⟩,
  ⟨(some 4), (Op.load 3 (Operand.tmp 3)), none, ann0⟩,
  ⟨(some 5), (Op.fieldAddr 26 (Operand.tmp 1) 3), none, ann0⟩,
  ⟨(some 6), (Op.load 9 (Operand.tmp 5)), none, ann0⟩,
  ⟨(some 7), (Op.fieldAddr 26 (Operand.tmp 1) 4), none, ann0⟩,
  ⟨(some 8), (Op.load 9 (Operand.tmp 7)), none, ann0⟩,
  ⟨(some 9), (Op.build 116 #[(0, (Operand.tmp 4)), (1, (Operand.tmp 6)), (2, (Operand.tmp 8))]), none, ann0⟩,
  ⟨none, (Op.store 116 (Operand.tmp 2) (Operand.tmp 9)), none, ann0⟩] none)
 .ret))⟩
theorem F58 (z : Nat) : FOk Try.prog 58 (s58 z) := by unfold FOk; kernel_rfl
def s65 (z : Nat) : SFn := ⟨1, 6, [(ResultVar.tmp 2)],
 (.seq (.reg [⟨(some 2), (Op.assign (Operand.const (Value.bool false))), none, ann0⟩] none)
 (.seq (.reg [⟨(some 3), (Op.move (Operand.tmp 0)), none, ann0⟩,
  ⟨(some 4), (Op.move (Operand.tmp 0)), none, ann0⟩,
  ⟨(some 5), (Op.binOp BinOp.neq 3 (Operand.tmp 3) (Operand.tmp 4) 3), none, ann0⟩,
  ⟨(some 2), (Op.assign (Operand.tmp 5)), none, ann0⟩] none)
 .ret))⟩
theorem F65 (z : Nat) : FOk Try.prog 65 (s65 z) := by unfold FOk; kernel_rfl
def s66 (z : Nat) : SFn := ⟨1, 6, [(ResultVar.tmp 2)],
 (.seq (.reg [⟨(some 2), (Op.assign (Operand.const (Value.bool false))), none, ann0⟩] none)
 (.seq (.reg [⟨(some 3), (Op.move (Operand.tmp 0)), none, ann0⟩,
  ⟨(some 4), (Op.move (Operand.tmp 0)), none, ann0⟩,
  ⟨(some 5), (Op.binOp BinOp.neq 9 (Operand.tmp 3) (Operand.tmp 4) 9), none, ann0⟩,
  ⟨(some 2), (Op.assign (Operand.tmp 5)), none, ann0⟩] none)
 .ret))⟩
theorem F66 (z : Nat) : FOk Try.prog 66 (s66 z) := by unfold FOk; kernel_rfl
def s41 (z : Nat) : SFn := ⟨2, 20, [(ResultVar.tmp 4)],
 (.seq (.reg [⟨(some 4), (Op.assign (Operand.const (Value.int IntKind.i64 0))), none, ann0⟩] none)
 (.seq (.reg [⟨(some 7), (Op.move (Operand.tmp 0)), none, ann0⟩,
  ⟨(some 8), (Op.call { callee := (Callee.value (Operand.func 65)), args := #[(Operand.tmp 7)], argTypes := #[3] }), none, ann0⟩,
  ⟨(some 5), (Op.assign (Operand.tmp 8)), none, ann0⟩] none)
 (.seq (.reg [⟨(some 9), (Op.move (Operand.tmp 1)), none, ann0⟩,
  ⟨(some 10), (Op.call { callee := (Callee.value (Operand.func 65)), args := #[(Operand.tmp 9)], argTypes := #[3] }), none, ann0⟩,
  ⟨(some 6), (Op.assign (Operand.tmp 10)), none, ann0⟩] none)
 (.seq (.seq (.reg [⟨(some 11), (Op.move (Operand.tmp 5)), none, ann0⟩] none)
 (.cond (Operand.tmp 11) (.seq (.post (.seq (.reg [⟨(some 12), (Op.move (Operand.tmp 6)), none, ann0⟩] none)
 (.cond (Operand.tmp 12) (.seq (.reg [⟨(some 4), (Op.assign (Operand.const (Value.int IntKind.i64 0))), none, ann0⟩] none)
 .ret)
 .skip)) (.tidy [] z (z + 0)))
 (.seq (.reg [⟨(some 4), (Op.assign (Operand.const (Value.int IntKind.i64 (-1)))), none, ann0⟩] none)
 .ret))
 .skip))
 (.seq (.seq (.reg [⟨(some 13), (Op.move (Operand.tmp 6)), none, ann0⟩] none)
 (.cond (Operand.tmp 13) (.seq (.reg [⟨(some 4), (Op.assign (Operand.const (Value.int IntKind.i64 1))), none, ann0⟩] none)
 .ret)
 .skip))
 (.seq (.seq (.post (.reg [⟨(some 14), (Op.move (Operand.tmp 0)), none, ann0⟩,
  ⟨(some 15), (Op.move (Operand.tmp 1)), none, ann0⟩,
  ⟨(some 16), (Op.binOp BinOp.lss 3 (Operand.tmp 14) (Operand.tmp 15) 3), none, ann0⟩] none) (.tidy [0, 1, 16] z (z + 0)))
 (.cond (Operand.tmp 16) (.seq (.reg [⟨(some 4), (Op.assign (Operand.const (Value.int IntKind.i64 (-1)))), none, ann0⟩] none)
 .ret)
 .skip))
 (.seq (.seq (.post (.reg [⟨(some 17), (Op.move (Operand.tmp 0)), none, ann0⟩,
  ⟨(some 18), (Op.move (Operand.tmp 1)), none, ann0⟩,
  ⟨(some 19), (Op.binOp BinOp.gtr 3 (Operand.tmp 17) (Operand.tmp 18) 3), none, ann0⟩] none) (.tidy [19] z (z + 0)))
 (.cond (Operand.tmp 19) (.seq (.reg [⟨(some 4), (Op.assign (Operand.const (Value.int IntKind.i64 1))), none, ann0⟩] none)
 .ret)
 .skip))
 (.seq (.reg [⟨(some 4), (Op.assign (Operand.const (Value.int IntKind.i64 0))), none, ann0⟩] none)
 .ret))))))))⟩
theorem F41 (z : Nat) : FOk Try.prog 41 (s41 z) := by unfold FOk; kernel_rfl
def s42 (z : Nat) : SFn := ⟨2, 20, [(ResultVar.tmp 4)],
 (.seq (.reg [⟨(some 4), (Op.assign (Operand.const (Value.int IntKind.i64 0))), none, ann0⟩] none)
 (.seq (.reg [⟨(some 7), (Op.move (Operand.tmp 0)), none, ann0⟩,
  ⟨(some 8), (Op.call { callee := (Callee.value (Operand.func 66)), args := #[(Operand.tmp 7)], argTypes := #[9] }), none, ann0⟩,
  ⟨(some 5), (Op.assign (Operand.tmp 8)), none, ann0⟩] none)
 (.seq (.reg [⟨(some 9), (Op.move (Operand.tmp 1)), none, ann0⟩,
  ⟨(some 10), (Op.call { callee := (Callee.value (Operand.func 66)), args := #[(Operand.tmp 9)], argTypes := #[9] }), none, ann0⟩,
  ⟨(some 6), (Op.assign (Operand.tmp 10)), none, ann0⟩] none)
 (.seq (.seq (.reg [⟨(some 11), (Op.move (Operand.tmp 5)), none, ann0⟩] none)
 (.cond (Operand.tmp 11) (.seq (.post (.seq (.reg [⟨(some 12), (Op.move (Operand.tmp 6)), none, ann0⟩] none)
 (.cond (Operand.tmp 12) (.seq (.reg [⟨(some 4), (Op.assign (Operand.const (Value.int IntKind.i64 0))), none, ann0⟩] none)
 .ret)
 .skip)) (.tidy [] z (z + 0)))
 (.seq (.reg [⟨(some 4), (Op.assign (Operand.const (Value.int IntKind.i64 (-1)))), none, ann0⟩] none)
 .ret))
 .skip))
 (.seq (.seq (.reg [⟨(some 13), (Op.move (Operand.tmp 6)), none, ann0⟩] none)
 (.cond (Operand.tmp 13) (.seq (.reg [⟨(some 4), (Op.assign (Operand.const (Value.int IntKind.i64 1))), none, ann0⟩] none)
 .ret)
 .skip))
 (.seq (.seq (.post (.reg [⟨(some 14), (Op.move (Operand.tmp 0)), none, ann0⟩,
  ⟨(some 15), (Op.move (Operand.tmp 1)), none, ann0⟩,
  ⟨(some 16), (Op.binOp BinOp.lss 9 (Operand.tmp 14) (Operand.tmp 15) 9), none, ann0⟩] none) (.tidy [0, 1, 16] z (z + 0)))
 (.cond (Operand.tmp 16) (.seq (.reg [⟨(some 4), (Op.assign (Operand.const (Value.int IntKind.i64 (-1)))), none, ann0⟩] none)
 .ret)
 .skip))
 (.seq (.seq (.post (.reg [⟨(some 17), (Op.move (Operand.tmp 0)), none, ann0⟩,
  ⟨(some 18), (Op.move (Operand.tmp 1)), none, ann0⟩,
  ⟨(some 19), (Op.binOp BinOp.gtr 9 (Operand.tmp 17) (Operand.tmp 18) 9), none, ann0⟩] none) (.tidy [19] z (z + 0)))
 (.cond (Operand.tmp 19) (.seq (.reg [⟨(some 4), (Op.assign (Operand.const (Value.int IntKind.i64 1))), none, ann0⟩] none)
 .ret)
 .skip))
 (.seq (.reg [⟨(some 4), (Op.assign (Operand.const (Value.int IntKind.i64 0))), none, ann0⟩] none)
 .ret))))))))⟩
theorem F42 (z : Nat) : FOk Try.prog 42 (s42 z) := by unfold FOk; kernel_rfl
def c40_1 (z : Nat) : SC := .post (.seq (.reg [⟨(some 9), (Op.binOp BinOp.lss 3 (Operand.tmp 8) (Operand.tmp 7) 3), none, ann0⟩] none)
 (.seq (.cond (Operand.tmp 9) .skip
 (.exit 0))
 (.seq (.post (.block 1 (.seq (.reg [⟨(some 10), (Op.indexAddr 54 (Operand.tmp 6) (Operand.tmp 8)), none, ann0⟩,
  ⟨(some 11), (Op.load 3 (Operand.tmp 10)), none, ann0⟩,
  ⟨(some 5), (Op.assign (Operand.tmp 11)), none, ann0⟩] none)
 (.seq (.reg [⟨(some 12), (Op.move (Operand.tmp 5)), none, ann0⟩,
  ⟨(some 13), (Op.move (Operand.tmp 3)), none, ann0⟩,
  ⟨(some 14), (Op.binOp BinOp.neq 3 (Operand.tmp 12) (Operand.tmp 13) 3), none, ann0⟩] none)
 (.cond (Operand.tmp 14) (.seq (.reg [⟨(some 15), (Op.move (Operand.tmp 5)), none, ann0⟩,
  ⟨(some 2), (Op.assign (Operand.tmp 15)), none, ann0⟩] none)
 .ret)
 .skip)))) (.tidy [3, 6, 7, 8] z (z + 0)))
 (.reg [⟨(some 16), (Op.binOp BinOp.add 3 (Operand.tmp 8) (Operand.const (Value.int IntKind.i64 1)) 3), none, ann0⟩,
  ⟨(some 8), (Op.move (Operand.tmp 16)), none, ann0⟩] none)))) (.tidy [3, 6, 7, 8] z (z + 0))
def s40_1 (z : Nat) : SC := c40_1 z
theorem e40_1 {C : Pg} {z : Nat} {st : St} {ks : List Fr} {K : Ex → St → Prop} : wpk C (s40_1 z) st ks K ↔ wpk C (c40_1 z) st ks K := Iff.rfl
def s40 (z : Nat) : SFn := ⟨1, 18, [(ResultVar.tmp 2)],
 (.seq (.reg [⟨(some 2), (Op.assign (Operand.const (Value.int IntKind.i64 0))), none, ann0⟩] none)
 (.seq (.reg [⟨(some 3), (Op.assign (Operand.const (Value.int IntKind.i64 0))), none, ann0⟩] none)
 (.seq (.post (.seq (.reg [⟨(some 6), (Op.move (Operand.tmp 0)), none, ann0⟩,
  ⟨(some 7), (Op.call { callee := (Callee.builtin Builtin.len), args := #[(Operand.tmp 6)], argTypes := #[54] }), none, ann0⟩,
  ⟨(some 8), (Op.move (Operand.const (Value.int IntKind.i64 0))), none, ann0⟩] none)
 (.post (.block 0 (.pre (.tidy [3, 6, 7, 8] z (z + 0)) (.loop (s40_1 z)))) (.tidy [3] z (z + 0)))) (.tidy [3] z (z + 0)))
 (.seq (.reg [⟨(some 17), (Op.move (Operand.tmp 3)), none, ann0⟩,
  ⟨(some 2), (Op.assign (Operand.tmp 17)), none, ann0⟩] none)
 .ret))))⟩
theorem F40 (z : Nat) : FOk Try.prog 40 (s40 z) := by unfold FOk; kernel_rfl
def s15 (z : Nat) : SFn := ⟨2, 37, [(ResultVar.tmp 4)],
 (.seq (.reg [⟨(some 2), (Op.box 26 (Operand.tmp 0)), none, ⟨1, false, false⟩⟩,
  ⟨(some 3), (Op.box 26 (Operand.tmp 1)), none, ⟨1, false, false⟩⟩,
  ⟨(some 4), (Op.assign (Operand.const (Value.int IntKind.i64 0))), none, ann0⟩] none)
 (.seq (.reg [⟨(some 5), (Op.fieldAddr 26 (Operand.tmp 2) 2), none, ann0⟩,
  ⟨(some 6), (Op.load 3 (Operand.tmp 5)), none, ann0⟩,
  ⟨(some 7), (Op.fieldAddr 26 (Operand.tmp 3) 2), none, ann0⟩,
  ⟨(some 8), (Op.load 3 (Operand.tmp 7)), none, ann0⟩,
  ⟨(some 9), (Op.call { callee := (Callee.value (Operand.func 41)), args := #[(Operand.tmp 6), (Operand.tmp 8)], argTypes := #[3, 3] }), none, ann0⟩,
  ⟨(some 10), (Op.fieldAddr 26 (Operand.tmp 2) 0), none, ann0⟩,
  ⟨(some 11), (Op.load 3 (Operand.tmp 10)), none, ann0⟩,
  ⟨(some 12), (Op.fieldAddr 26 (Operand.tmp 3) 0), none, ann0⟩,
  ⟨(some 13), (Op.load 3 (Operand.tmp 12)), none, ann0⟩,
  ⟨(some 14), (Op.call { callee := (Callee.value (Operand.func 41)), args := #[(Operand.tmp 11), (Operand.tmp 13)], argTypes := #[3, 3] }), none, ann0⟩,
  ⟨(some 15), (Op.fieldAddr 26 (Operand.tmp 2) 1), none, ann0⟩,
  ⟨(some 16), (Op.load 3 (Operand.tmp 15)), none, ann0⟩,
  ⟨(some 17), (Op.fieldAddr 26 (Operand.tmp 3) 1), none, ann0⟩,
  ⟨(some 18), (Op.load 3 (Operand.tmp 17)), none, ann0⟩,
  ⟨(some 19), (Op.call { callee := (Callee.value (Operand.func 41)), args := #[(Operand.tmp 16), (Operand.tmp 18)], argTypes := #[3, 3] }), none, ann0⟩,
  ⟨(some 20), (Op.fieldAddr 26 (Operand.tmp 2) 3), none, ann0⟩,
  ⟨(some 21), (Op.load 9 (Operand.tmp 20)), none, ann0⟩,
  ⟨(some 22), (Op.fieldAddr 26 (Operand.tmp 3) 3), none, ann0⟩,
  ⟨(some 23), (Op.load 9 (Operand.tmp 22)), none, ann0⟩,
  ⟨(some 24), (Op.call { callee := (Callee.value (Operand.func 42)), args := #[(Operand.tmp 21), (Operand.tmp 23)], argTypes := #[9, 9] }), none, ann0⟩,
  ⟨(some 25), (Op.fieldAddr 26 (Operand.tmp 2) 4), none, ann0⟩,
  ⟨(some 26), (Op.load 9 (Operand.tmp 25)), none, ann0⟩,
  ⟨(some 27), (Op.fieldAddr 26 (Operand.tmp 3) 4), none, ann0⟩,
  ⟨(some 28), (Op.load 9 (Operand.tmp 27)), none, ann0⟩,
  ⟨(some 29), (Op.call { callee := (Callee.value (Operand.func 42)), args := #[(Operand.tmp 26), (Operand.tmp 28)], argTypes := #[9, 9] }), none, ann0⟩,
  ⟨(some 30), (Op.fieldAddr 26 (Operand.tmp 2) 5), none, ann0⟩,
  ⟨(some 31), (Op.load 9 (Operand.tmp 30)), none, ann0⟩,
  ⟨(some 32), (Op.fieldAddr 26 (Operand.tmp 3) 5), none, ann0⟩,
  ⟨(some 33), (Op.load 9 (Operand.tmp 32)), none, ann0⟩,
  ⟨(some 34), (Op.call { callee := (Callee.value (Operand.func 42)), args := #[(Operand.tmp 31), (Operand.tmp 33)], argTypes := #[9, 9] }), none, ann0⟩,
  ⟨(some 35), (Op.buildSlice 54 6 #[(0, (Operand.tmp 9)), (1, (Operand.tmp 14)), (2, (Operand.tmp 19)), (3, (Operand.tmp 24)), (4, (Operand.tmp 29)), (5, (Operand.tmp 34))]), none, ⟨1, true, false⟩⟩,
  ⟨(some 36), (Op.call { callee := (Callee.value (Operand.func 40)), args := #[(Operand.tmp 35)], argTypes := #[54] }), none, ann0⟩,
  ⟨(some 4), (Op.assign (Operand.tmp 36)), none, ann0⟩] (some [0, 1, 0, 4, 15, 0, 32, 0, 128, 511, 0, 1024, 0, 4096, 16383, 0, 32768, 0, 131072, 524287, 0, 1048576, 0, 4194304, 16777215, 0, 33554432, 0, 134217728, 536870911, 1073741823, 2147483647, 4294967295]))
 .ret))⟩
theorem F15 (z : Nat) : FOk Try.prog 15 (s15 z) := by unfold FOk; kernel_rfl
def c67_1 (z : Nat) : SC := .post (.seq (.reg [⟨(some 11), (Op.binOp BinOp.lss 3 (Operand.tmp 10) (Operand.tmp 9) 3), none, ann0⟩] none)
 (.seq (.cond (Operand.tmp 11) .skip
 (.exit 0))
 (.seq (.post (.block 1 (.seq (.reg [⟨(some 12), (Op.move (Operand.tmp 10)), none, ann0⟩,
  ⟨(some 7), (Op.assign (Operand.tmp 12)), none, ann0⟩] none)
 (.seq (.post (.reg [⟨(some 13), (Op.move (Operand.tmp 0)), none, ann0⟩,
  ⟨(some 14), (Op.move (Operand.tmp 7)), none, ann0⟩,
  ⟨(some 15), (Op.index 9 (Operand.tmp 13) (Operand.tmp 14)), none, ann0⟩,
  ⟨(some 16), (Op.move (Operand.tmp 1)), none, ann0⟩,
  ⟨(some 17), (Op.binOp BinOp.lss 5 (Operand.tmp 15) (Operand.tmp 16) 5), none, ann0⟩,
  ⟨(some 18), (Op.move (Operand.tmp 17)), none, ann0⟩,
  ⟨(some 19), (Op.move (Operand.tmp 0)), (some (18, false)), ann0⟩,
  ⟨(some 20), (Op.move (Operand.tmp 7)), (some (18, false)), ann0⟩,
  ⟨(some 21), (Op.index 9 (Operand.tmp 19) (Operand.tmp 20)), (some (18, false)), ann0⟩,
  ⟨(some 22), (Op.move (Operand.tmp 2)), (some (18, false)), ann0⟩,
  ⟨(some 23), (Op.binOp BinOp.gtr 5 (Operand.tmp 21) (Operand.tmp 22) 5), (some (18, false)), ann0⟩,
  ⟨(some 24), (Op.pick (Operand.tmp 18) (Operand.const (Value.bool true)) (Operand.tmp 23)), none, ann0⟩] none) (.tidy [0, 1, 2, 9, 10, 24] z (z + 0)))
 (.cond (Operand.tmp 24) (.seq (.reg [⟨(some 6), (Op.assign (Operand.const (Value.bool false))), none, ann0⟩] none)
 .ret)
 .skip)))) (.tidy [0, 1, 2, 9, 10] z (z + 0)))
 (.reg [⟨(some 25), (Op.binOp BinOp.add 3 (Operand.tmp 10) (Operand.const (Value.int IntKind.i64 1)) 3), none, ann0⟩,
  ⟨(some 10), (Op.move (Operand.tmp 25)), none, ann0⟩] none)))) (.tidy [0, 1, 2, 9, 10] z (z + 0))
def s67_1 (z : Nat) : SC := c67_1 z
theorem e67_1 {C : Pg} {z : Nat} {st : St} {ks : List Fr} {K : Ex → St → Prop} : wpk C (s67_1 z) st ks K ↔ wpk C (c67_1 z) st ks K := Iff.rfl
def s67 (z : Nat) : SFn := ⟨3, 26, [(ResultVar.tmp 6)],
 (.seq (.reg [⟨(some 6), (Op.assign (Operand.const (Value.bool false))), none, ann0⟩] none)
 (.seq (.post (.seq (.reg [⟨(some 8), (Op.move (Operand.tmp 0)), none, ann0⟩,
  ⟨(some 9), (Op.call { callee := (Callee.builtin Builtin.len), args := #[(Operand.tmp 8)], argTypes := #[9] }), none, ann0⟩,
  ⟨(some 10), (Op.move (Operand.const (Value.int IntKind.i64 0))), none, ann0⟩] none)
 (.post (.block 0 (.pre (.tidy [0, 1, 2, 9, 10] z (z + 0)) (.loop (s67_1 z)))) (.tidy [] z (z + 0)))) (.tidy [] z (z + 0)))
 (.seq (.reg [⟨(some 6), (Op.assign (Operand.const (Value.bool true))), none, ann0⟩] none)
 .ret)))⟩
theorem F67 (z : Nat) : FOk Try.prog 67 (s67 z) := by unfold FOk; kernel_rfl
def s46 (z : Nat) : SFn := ⟨1, 14, [(ResultVar.tmp 2)],
 (.seq (.reg [⟨(some 2), (Op.assign (Operand.const (Value.bool false))), none, ann0⟩] none)
 (.seq (.reg [⟨(some 3), (Op.move (Operand.tmp 0)), none, ann0⟩,
  ⟨(some 4), (Op.binOp BinOp.neq 9 (Operand.tmp 3) (Operand.const (Value.string ⟨#[]⟩)) 9), none, ann0⟩,
  ⟨(some 5), (Op.move (Operand.tmp 4)), none, ann0⟩,
  ⟨(some 6), (Op.move (Operand.tmp 0)), (some (5, true)), ann0⟩,
  ⟨(some 7), (Op.call { callee := (Callee.builtin Builtin.len), args := #[(Operand.tmp 6)], argTypes := #[9] }), (some (5, true)), ann0⟩,
  ⟨(some 8), (Op.binOp BinOp.leq 3 (Operand.tmp 7) (Operand.const (Value.int IntKind.i64 64)) 3), (some (5, true)), ann0⟩,
  ⟨(some 9), (Op.pick (Operand.tmp 5) (Operand.tmp 8) (Operand.const (Value.bool false))), none, ann0⟩,
  ⟨(some 10), (Op.move (Operand.tmp 9)), none, ann0⟩,
  ⟨(some 11), (Op.move (Operand.tmp 0)), (some (10, true)), ann0⟩,
  ⟨(some 12), (Op.call { callee := (Callee.value (Operand.func 67)), args := #[(Operand.tmp 11), (Operand.const (Value.int IntKind.u8 33)), (Operand.const (Value.int IntKind.u8 126))], argTypes := #[9, 5, 5] }), (some (10, true)), ann0⟩,
  ⟨(some 13), (Op.pick (Operand.tmp 10) (Operand.tmp 12) (Operand.const (Value.bool false))), none, ann0⟩,
  ⟨(some 2), (Op.assign (Operand.tmp 13)), none, ann0⟩] none)
 .ret))⟩
theorem F46 (z : Nat) : FOk Try.prog 46 (s46 z) := by unfold FOk; kernel_rfl
def s45 (z : Nat) : SFn := ⟨1, 53, [(ResultVar.tmp 2)],
 (.seq (.reg [⟨(some 1), (Op.box 26 (Operand.tmp 0)), none, ⟨1, false, false⟩⟩,
  ⟨(some 2), (Op.assign (Operand.const (Value.int IntKind.i64 0))), none, ann0⟩] none)
 (.seq (.reg [⟨(some 5), (Op.fieldAddr 26 (Operand.tmp 1) 4), none, ann0⟩,
  ⟨(some 6), (Op.load 9 (Operand.tmp 5)), none, ann0⟩,
  ⟨(some 7), (Op.fieldAddr 26 (Operand.tmp 1) 5), none, ann0⟩,
  ⟨(some 8), (Op.load 9 (Operand.tmp 7)), none, ann0⟩,
  ⟨(some 3), (Op.assign (Operand.tmp 6)), none, ann0⟩,
  ⟨(some 4), (Op.assign (Operand.tmp 8)), none, ann0⟩] (some [0, 1, 0, 4, 3, 31]))
 (.seq (.seq (.post (.reg [⟨(some 9), (Op.fieldAddr 26 (Operand.tmp 1) 1), none, ann0⟩,
  ⟨(some 10), (Op.load 3 (Operand.tmp 9)), none, ann0⟩,
  ⟨(some 11), (Op.binOp BinOp.eql 3 (Operand.tmp 10) (Operand.const (Value.int IntKind.i64 1)) 3), none, ann0⟩] none) (.tidy [1, 3, 4, 11] z (z + 1)))
 (.cond (Operand.tmp 11) (.reg [⟨(some 12), (Op.move (Operand.tmp 4)), none, ann0⟩,
  ⟨(some 13), (Op.move (Operand.tmp 3)), none, ann0⟩,
  ⟨(some 3), (Op.assign (Operand.tmp 12)), none, ann0⟩,
  ⟨(some 4), (Op.assign (Operand.tmp 13)), none, ann0⟩] none)
 .skip))
 (.seq (.post (.block 0 (.seq (.post (.reg [⟨(some 15), (Op.fieldAddr 26 (Operand.tmp 1) 0), none, ann0⟩,
  ⟨(some 16), (Op.load 3 (Operand.tmp 15)), none, ann0⟩,
  ⟨(some 17), (Op.binOp BinOp.lss 3 (Operand.tmp 16) (Operand.const (Value.int IntKind.i64 1)) 3), none, ann0⟩,
  ⟨(some 18), (Op.move (Operand.tmp 17)), none, ann0⟩,
  ⟨(some 19), (Op.fieldAddr 26 (Operand.tmp 1) 0), (some (18, false)), ann0⟩,
  ⟨(some 20), (Op.load 3 (Operand.tmp 19)), (some (18, false)), ann0⟩,
  ⟨(some 21), (Op.binOp BinOp.gtr 3 (Operand.tmp 20) (Operand.const (Value.int IntKind.i64 1099511627776)) 3), (some (18, false)), ann0⟩,
  ⟨(some 22), (Op.pick (Operand.tmp 18) (Operand.const (Value.bool true)) (Operand.tmp 21)), none, ann0⟩,
  ⟨(some 14), (Op.assign (Operand.tmp 22)), none, ann0⟩] none) (.tidy [1, 3, 4, 14] z (z + 1)))
 (.cond (Operand.tmp 14) (.seq (.reg [⟨(some 2), (Op.assign (Operand.const (Value.int IntKind.i64 2))), none, ann0⟩] none)
 .ret)
 (.seq (.post (.reg [⟨(some 24), (Op.fieldAddr 26 (Operand.tmp 1) 1), none, ann0⟩,
  ⟨(some 25), (Op.load 3 (Operand.tmp 24)), none, ann0⟩,
  ⟨(some 26), (Op.binOp BinOp.lss 3 (Operand.tmp 25) (Operand.const (Value.int IntKind.i64 1)) 3), none, ann0⟩,
  ⟨(some 27), (Op.move (Operand.tmp 26)), none, ann0⟩,
  ⟨(some 28), (Op.fieldAddr 26 (Operand.tmp 1) 1), (some (27, false)), ann0⟩,
  ⟨(some 29), (Op.load 3 (Operand.tmp 28)), (some (27, false)), ann0⟩,
  ⟨(some 30), (Op.binOp BinOp.gtr 3 (Operand.tmp 29) (Operand.const (Value.int IntKind.i64 3)) 3), (some (27, false)), ann0⟩,
  ⟨(some 31), (Op.pick (Operand.tmp 27) (Operand.const (Value.bool true)) (Operand.tmp 30)), none, ann0⟩,
  ⟨(some 23), (Op.assign (Operand.tmp 31)), none, ann0⟩] none) (.tidy [1, 3, 4, 23] z (z + 1)))
 (.cond (Operand.tmp 23) (.seq (.reg [⟨(some 2), (Op.assign (Operand.const (Value.int IntKind.i64 12))), none, ann0⟩] none)
 .ret)
 (.seq (.post (.reg [⟨(some 33), (Op.fieldAddr 26 (Operand.tmp 1) 2), none, ann0⟩,
  ⟨(some 34), (Op.load 3 (Operand.tmp 33)), none, ann0⟩,
  ⟨(some 35), (Op.binOp BinOp.lss 3 (Operand.tmp 34) (Operand.const (Value.int IntKind.i64 0)) 3), none, ann0⟩,
  ⟨(some 36), (Op.move (Operand.tmp 35)), none, ann0⟩,
  ⟨(some 37), (Op.fieldAddr 26 (Operand.tmp 1) 2), (some (36, false)), ann0⟩,
  ⟨(some 38), (Op.load 3 (Operand.tmp 37)), (some (36, false)), ann0⟩,
  ⟨(some 39), (Op.binOp BinOp.gtr 3 (Operand.tmp 38) (Operand.const (Value.int IntKind.i64 1048576)) 3), (some (36, false)), ann0⟩,
  ⟨(some 40), (Op.pick (Operand.tmp 36) (Operand.const (Value.bool true)) (Operand.tmp 39)), none, ann0⟩,
  ⟨(some 32), (Op.assign (Operand.tmp 40)), none, ann0⟩] none) (.tidy [1, 3, 4, 32] z (z + 1)))
 (.cond (Operand.tmp 32) (.seq (.reg [⟨(some 2), (Op.assign (Operand.const (Value.int IntKind.i64 32))), none, ann0⟩] none)
 .ret)
 (.seq (.reg [⟨(some 42), (Op.fieldAddr 26 (Operand.tmp 1) 3), none, ann0⟩,
  ⟨(some 43), (Op.load 9 (Operand.tmp 42)), none, ann0⟩,
  ⟨(some 44), (Op.call { callee := (Callee.value (Operand.func 46)), args := #[(Operand.tmp 43)], argTypes := #[9] }), none, ann0⟩,
  ⟨(some 45), (Op.unOp UnOp.not 4 (Operand.tmp 44)), none, ann0⟩,
  ⟨(some 41), (Op.assign (Operand.tmp 45)), none, ann0⟩] none)
 (.cond (Operand.tmp 41) (.seq (.reg [⟨(some 2), (Op.assign (Operand.const (Value.int IntKind.i64 11))), none, ann0⟩] none)
 .ret)
 (.seq (.post (.reg [⟨(some 47), (Op.move (Operand.tmp 4)), none, ann0⟩,
  ⟨(some 48), (Op.binOp BinOp.neq 9 (Operand.tmp 47) (Operand.const (Value.string ⟨#[]⟩)) 9), none, ann0⟩,
  ⟨(some 46), (Op.assign (Operand.tmp 48)), none, ann0⟩] none) (.tidy [3, 46] z (z + 1)))
 (.cond (Operand.tmp 46) (.seq (.reg [⟨(some 2), (Op.assign (Operand.const (Value.int IntKind.i64 3))), none, ann0⟩] none)
 .ret)
 (.seq (.reg [⟨(some 50), (Op.move (Operand.tmp 3)), none, ann0⟩,
  ⟨(some 51), (Op.call { callee := (Callee.value (Operand.func 46)), args := #[(Operand.tmp 50)], argTypes := #[9] }), none, ann0⟩,
  ⟨(some 52), (Op.unOp UnOp.not 4 (Operand.tmp 51)), none, ann0⟩,
  ⟨(some 49), (Op.assign (Operand.tmp 52)), none, ann0⟩] none)
 (.cond (Operand.tmp 49) (.seq (.reg [⟨(some 2), (Op.assign (Operand.const (Value.int IntKind.i64 11))), none, ann0⟩] none)
 .ret)
 .skip))))))))))))) (.tidy [] z (z + 1)))
 (.seq (.reg [⟨(some 2), (Op.assign (Operand.const (Value.int IntKind.i64 0))), none, ann0⟩] none)
 .ret)))))⟩
theorem F45 (z : Nat) : FOk Try.prog 45 (s45 z) := by unfold FOk; kernel_rfl
def c17_1 (z : Nat) : SC := .post (.seq (.reg [⟨(some 14), (Op.binOp BinOp.lss 3 (Operand.tmp 13) (Operand.tmp 12) 3), none, ann0⟩] none)
 (.seq (.cond (Operand.tmp 14) .skip
 (.exit 0))
 (.seq (.post (.block 1 (.seq (.reg [⟨(some 15), (Op.move (Operand.tmp 13)), none, ann0⟩,
  ⟨(some 16), (Op.indexAddr 22 (Operand.tmp 11) (Operand.tmp 13)), none, ann0⟩,
  ⟨(some 17), (Op.load 26 (Operand.tmp 16)), none, ann0⟩,
  ⟨(some 5), (Op.alloc 26), none, ⟨1, false, false⟩⟩,
  ⟨(some 4), (Op.assign (Operand.tmp 15)), none, ann0⟩,
  ⟨none, (Op.store 26 (Operand.tmp 5) (Operand.tmp 17)), none, ann0⟩] none)
 (.seq (.post (.seq (.post (.reg [⟨(some 18), (Op.load 26 (Operand.tmp 5)), none, ann0⟩,
  ⟨(some 19), (Op.call { callee := (Callee.value (Operand.func 45)), args := #[(Operand.tmp 18)], argTypes := #[26] }), none, ann0⟩,
  ⟨(some 6), (Op.assign (Operand.tmp 19)), none, ann0⟩] none) (.tidy [0, 3, 4, 5, 6, 11, 12, 13] z (z + 2)))
 (.seq (.reg [⟨(some 20), (Op.move (Operand.tmp 6)), none, ann0⟩,
  ⟨(some 21), (Op.binOp BinOp.neq 27 (Operand.tmp 20) (Operand.const (Value.int IntKind.i64 0)) 27), none, ann0⟩] none)
 (.cond (Operand.tmp 21) (.seq (.reg [⟨(some 22), (Op.move (Operand.tmp 6)), none, ann0⟩,
  ⟨(some 2), (Op.assign (Operand.tmp 22)), none, ann0⟩] none)
 .ret)
 .skip))) (.tidy [0, 3, 4, 5, 11, 12, 13] z (z + 2)))
 (.seq (.post (.block 2 (.seq (.post (.reg [⟨(some 24), (Op.move (Operand.tmp 4)), none, ann0⟩,
  ⟨(some 25), (Op.binOp BinOp.gtr 3 (Operand.tmp 24) (Operand.const (Value.int IntKind.i64 0)) 3), none, ann0⟩,
  ⟨(some 26), (Op.move (Operand.tmp 25)), none, ann0⟩,
  ⟨(some 27), (Op.load 26 (Operand.tmp 5)), (some (26, true)), ann0⟩,
  ⟨(some 28), (Op.move (Operand.tmp 0)), (some (26, true)), ann0⟩,
  ⟨(some 29), (Op.move (Operand.tmp 4)), (some (26, true)), ann0⟩,
  ⟨(some 30), (Op.binOp BinOp.sub 3 (Operand.tmp 29) (Operand.const (Value.int IntKind.i64 1)) 3), (some (26, true)), ann0⟩,
  ⟨(some 31), (Op.indexAddr 22 (Operand.tmp 28) (Operand.tmp 30)), (some (26, true)), ann0⟩,
  ⟨(some 32), (Op.load 26 (Operand.tmp 31)), (some (26, true)), ann0⟩,
  ⟨(some 33), (Op.call { callee := (Callee.value (Operand.func 15)), args := #[(Operand.tmp 27), (Operand.tmp 32)], argTypes := #[26, 26] }), (some (26, true)), ann0⟩,
  ⟨(some 34), (Op.binOp BinOp.lss 3 (Operand.tmp 33) (Operand.const (Value.int IntKind.i64 0)) 3), (some (26, true)), ann0⟩,
  ⟨(some 35), (Op.pick (Operand.tmp 26) (Operand.tmp 34) (Operand.const (Value.bool false))), none, ann0⟩,
  ⟨(some 23), (Op.assign (Operand.tmp 35)), none, ann0⟩] (some [0, 1, 3, 7, 7, 7, 39, 119, 247, 511, 1023, 2047, 4095])) (.tidy [0, 3, 5, 11, 12, 13, 23] z (z + 2)))
 (.cond (Operand.tmp 23) (.seq (.reg [⟨(some 2), (Op.assign (Operand.const (Value.int IntKind.i64 8))), none, ann0⟩] none)
 .ret)
 (.seq (.reg [⟨(some 37), (Op.move (Operand.tmp 3)), none, ann0⟩,
  ⟨(some 38), (Op.fieldAddr 26 (Operand.tmp 5) 0), none, ann0⟩,
  ⟨(some 39), (Op.load 3 (Operand.tmp 38)), none, ann0⟩,
  ⟨(some 40), (Op.lookup 73 (Operand.tmp 37) (Operand.tmp 39) false), none, ann0⟩,
  ⟨(some 36), (Op.assign (Operand.tmp 40)), none, ann0⟩] none)
 (.cond (Operand.tmp 36) (.seq (.reg [⟨(some 2), (Op.assign (Operand.const (Value.int IntKind.i64 9))), none, ann0⟩] none)
 .ret)
 .skip))))) (.tidy [0, 3, 5, 11, 12, 13] z (z + 2)))
 (.reg [⟨(some 41), (Op.move (Operand.tmp 3)), none, ann0⟩,
  ⟨(some 42), (Op.fieldAddr 26 (Operand.tmp 5) 0), none, ann0⟩,
  ⟨(some 43), (Op.load 3 (Operand.tmp 42)), none, ann0⟩,
  ⟨none, (Op.mapUpdate 73 (Operand.tmp 41) (Operand.tmp 43) (Operand.const (Value.bool true))), none, ann0⟩] none))))) (.tidy [0, 3, 11, 12, 13] z (z + 2)))
 (.reg [⟨(some 44), (Op.binOp BinOp.add 3 (Operand.tmp 13) (Operand.const (Value.int IntKind.i64 1)) 3), none, ann0⟩,
  ⟨(some 13), (Op.move (Operand.tmp 44)), none, ann0⟩] none)))) (.tidy [0, 3, 11, 12, 13] z (z + 1))
def s17_1 (z : Nat) : SC := c17_1 z
theorem e17_1 {C : Pg} {z : Nat} {st : St} {ks : List Fr} {K : Ex → St → Prop} : wpk C (s17_1 z) st ks K ↔ wpk C (c17_1 z) st ks K := Iff.rfl
def s17 (z : Nat) : SFn := ⟨1, 45, [(ResultVar.tmp 2)],
 (.seq (.reg [⟨(some 2), (Op.assign (Operand.const (Value.int IntKind.i64 0))), none, ann0⟩] none)
 (.seq (.post (.seq (.reg [⟨(some 7), (Op.move (Operand.tmp 0)), none, ann0⟩,
  ⟨(some 8), (Op.call { callee := (Callee.builtin Builtin.len), args := #[(Operand.tmp 7)], argTypes := #[22] }), none, ann0⟩,
  ⟨(some 9), (Op.binOp BinOp.gtr 3 (Operand.tmp 8) (Operand.const (Value.int IntKind.i64 256)) 3), none, ann0⟩] none)
 (.cond (Operand.tmp 9) (.seq (.reg [⟨(some 2), (Op.assign (Operand.const (Value.int IntKind.i64 6))), none, ann0⟩] none)
 .ret)
 .skip)) (.tidy [0] z (z + 0)))
 (.seq (.reg [⟨(some 10), (Op.makeMap 73 none), none, ⟨1, false, false⟩⟩,
  ⟨(some 3), (Op.assign (Operand.tmp 10)), none, ann0⟩] none)
 (.seq (.post (.seq (.reg [⟨(some 11), (Op.move (Operand.tmp 0)), none, ann0⟩,
  ⟨(some 12), (Op.call { callee := (Callee.builtin Builtin.len), args := #[(Operand.tmp 11)], argTypes := #[22] }), none, ann0⟩,
  ⟨(some 13), (Op.move (Operand.const (Value.int IntKind.i64 0))), none, ann0⟩] none)
 (.post (.block 0 (.pre (.tidy [0, 3, 11, 12, 13] z (z + 1)) (.loop (s17_1 z)))) (.tidy [] z (z + 1)))) (.tidy [] z (z + 1)))
 (.seq (.reg [⟨(some 2), (Op.assign (Operand.const (Value.int IntKind.i64 0))), none, ann0⟩] none)
 .ret)))))⟩
theorem F17 (z : Nat) : FOk Try.prog 17 (s17 z) := by unfold FOk; kernel_rfl
def s14 (z : Nat) : SFn := ⟨0, 47, [(ResultVar.tmp 0)],
 (.seq (.reg [⟨(some 0), (Op.assign (Operand.const (Value.bool false))), none, ann0⟩] none)
 (.seq (.reg [⟨(some 5), (Op.build 26 #[(0, (Operand.const (Value.int IntKind.i64 1))), (1, (Operand.const (Value.int IntKind.i64 1))), (2, (Operand.const (Value.int IntKind.i64 3))), (3, (Operand.const (Value.string ⟨#[97, 112, 105]⟩))), (5, (Operand.const (Value.string ⟨#[118, 49]⟩)))]), none, ann0⟩,
  ⟨(some 6), (Op.build 26 #[(0, (Operand.const (Value.int IntKind.i64 2))), (1, (Operand.const (Value.int IntKind.i64 1))), (2, (Operand.const (Value.int IntKind.i64 7))), (3, (Operand.const (Value.string ⟨#[97, 112, 105]⟩))), (5, (Operand.const (Value.string ⟨#[118, 50]⟩)))]), none, ann0⟩,
  ⟨(some 7), (Op.build 26 #[(0, (Operand.const (Value.int IntKind.i64 3))), (1, (Operand.const (Value.int IntKind.i64 1))), (2, (Operand.const (Value.int IntKind.i64 7))), (3, (Operand.const (Value.string ⟨#[97, 112, 105]⟩))), (5, (Operand.const (Value.string ⟨#[118, 51]⟩)))]), none, ann0⟩,
  ⟨(some 8), (Op.buildSlice 22 3 #[(0, (Operand.tmp 5)), (1, (Operand.tmp 6)), (2, (Operand.tmp 7))]), none, ⟨1, true, false⟩⟩,
  ⟨(some 1), (Op.assign (Operand.tmp 8)), none, ann0⟩] none)
 (.seq (.post (.reg [⟨(some 9), (Op.move (Operand.tmp 1)), none, ann0⟩,
  ⟨(some 10), (Op.call { callee := (Callee.value (Operand.func 20)), args := #[(Operand.tmp 9)], argTypes := #[22] }), none, ann0⟩,
  ⟨(some 2), (Op.assign (Operand.tmp 10)), none, ann0⟩] none) (.tidy [1, 2] z (z + 1)))
 (.seq (.reg [⟨(some 12), (Op.move (Operand.tmp 1)), none, ann0⟩,
  ⟨(some 13), (Op.call { callee := (Callee.value (Operand.func 29)), args := #[(Operand.tmp 12), (Operand.const (Value.string ⟨#[97, 112, 105]⟩)), (Operand.const (Value.int IntKind.i64 6))], argTypes := #[22, 9, 3] }), none, ann0⟩,
  ⟨(some 11), (Op.move (Operand.tmp 13)), none, ann0⟩,
  ⟨(some 14), (Op.extract (Operand.tmp 11) 0), none, ann0⟩,
  ⟨(some 15), (Op.extract (Operand.tmp 11) 1), none, ann0⟩,
  ⟨(some 3), (Op.alloc 26), none, ⟨1, false, false⟩⟩,
  ⟨none, (Op.store 26 (Operand.tmp 3) (Operand.tmp 14)), none, ann0⟩,
  ⟨(some 4), (Op.assign (Operand.tmp 15)), none, ann0⟩] none)
 (.seq (.reg [⟨(some 16), (Op.move (Operand.tmp 1)), none, ann0⟩,
  ⟨(some 17), (Op.call { callee := (Callee.value (Operand.func 17)), args := #[(Operand.tmp 16)], argTypes := #[22] }), none, ann0⟩,
  ⟨(some 18), (Op.binOp BinOp.eql 27 (Operand.tmp 17) (Operand.const (Value.int IntKind.i64 0)) 27), none, ann0⟩,
  ⟨(some 19), (Op.move (Operand.tmp 18)), none, ann0⟩,
  ⟨(some 20), (Op.move (Operand.tmp 2)), (some (19, true)), ann0⟩,
  ⟨(some 21), (Op.call { callee := (Callee.builtin Builtin.len), args := #[(Operand.tmp 20)], argTypes := #[32] }), (some (19, true)), ann0⟩,
  ⟨(some 22), (Op.binOp BinOp.eql 3 (Operand.tmp 21) (Operand.const (Value.int IntKind.i64 2)) 3), (some (19, true)), ann0⟩,
  ⟨(some 23), (Op.pick (Operand.tmp 19) (Operand.tmp 22) (Operand.const (Value.bool false))), none, ann0⟩,
  ⟨(some 24), (Op.move (Operand.tmp 23)), none, ann0⟩,
  ⟨(some 25), (Op.move (Operand.tmp 2)), (some (24, true)), ann0⟩,
  ⟨(some 26), (Op.indexAddr 32 (Operand.tmp 25) (Operand.const (Value.int IntKind.i64 0))), (some (24, true)), ann0⟩,
  ⟨(some 27), (Op.fieldAddr 39 (Operand.tmp 26) 3), (some (24, true)), ann0⟩,
  ⟨(some 28), (Op.load 37 (Operand.tmp 27)), (some (24, true)), ann0⟩,
  ⟨(some 29), (Op.build 37 #[(0, (Operand.const (Value.int IntKind.i64 3))), (1, (Operand.const (Value.int IntKind.i64 7)))]), (some (24, true)), ann0⟩,
  ⟨(some 30), (Op.binOp BinOp.eql 37 (Operand.tmp 28) (Operand.tmp 29) 37), (some (24, true)), ann0⟩,
  ⟨(some 31), (Op.pick (Operand.tmp 24) (Operand.tmp 30) (Operand.const (Value.bool false))), none, ann0⟩,
  ⟨(some 32), (Op.move (Operand.tmp 31)), none, ann0⟩,
  ⟨(some 33), (Op.move (Operand.tmp 2)), (some (32, true)), ann0⟩,
  ⟨(some 34), (Op.indexAddr 32 (Operand.tmp 33) (Operand.const (Value.int IntKind.i64 1))), (some (32, true)), ann0⟩,
  ⟨(some 35), (Op.fieldAddr 39 (Operand.tmp 34) 0), (some (32, true)), ann0⟩,
  ⟨(some 36), (Op.load 3 (Operand.tmp 35)), (some (32, true)), ann0⟩,
  ⟨(some 37), (Op.binOp BinOp.eql 3 (Operand.tmp 36) (Operand.const (Value.int IntKind.i64 3)) 3), (some (32, true)), ann0⟩,
  ⟨(some 38), (Op.pick (Operand.tmp 32) (Operand.tmp 37) (Operand.const (Value.bool false))), none, ann0⟩,
  ⟨(some 39), (Op.move (Operand.tmp 38)), none, ann0⟩,
  ⟨(some 40), (Op.move (Operand.tmp 4)), (some (39, true)), ann0⟩,
  ⟨(some 41), (Op.pick (Operand.tmp 39) (Operand.tmp 40) (Operand.const (Value.bool false))), none, ann0⟩,
  ⟨(some 42), (Op.move (Operand.tmp 41)), none, ann0⟩,
  ⟨(some 43), (Op.fieldAddr 26 (Operand.tmp 3) 5), (some (42, true)), ann0⟩,
  ⟨(some 44), (Op.load 9 (Operand.tmp 43)), (some (42, true)), ann0⟩,
  ⟨(some 45), (Op.binOp BinOp.eql 9 (Operand.tmp 44) (Operand.const (Value.string ⟨#[118, 49]⟩)) 9), (some (42, true)), ann0⟩,
  ⟨(some 46), (Op.pick (Operand.tmp 42) (Operand.tmp 45) (Operand.const (Value.bool false))), none, ann0⟩,
  ⟨(some 0), (Op.assign (Operand.tmp 46)), none, ann0⟩] none)
 .ret)))))⟩
theorem F14 (z : Nat) : FOk Try.prog 14 (s14 z) := by unfold FOk; kernel_rfl
def s43 (z : Nat) : SFn := ⟨2, 11, [(ResultVar.tmp 4)],
 (.seq (.reg [⟨(some 4), (Op.assign (Operand.const (Value.int IntKind.i64 0))), none, ann0⟩] none)
 (.seq (.post (.seq (.reg [⟨(some 5), (Op.move (Operand.tmp 0)), none, ann0⟩,
  ⟨(some 6), (Op.move (Operand.tmp 1)), none, ann0⟩,
  ⟨(some 7), (Op.binOp BinOp.lss 3 (Operand.tmp 5) (Operand.tmp 6) 3), none, ann0⟩] none)
 (.cond (Operand.tmp 7) (.seq (.reg [⟨(some 4), (Op.assign (Operand.const (Value.int IntKind.i64 (-1)))), none, ann0⟩] none)
 .ret)
 .skip)) (.tidy [0, 1] z (z + 0)))
 (.seq (.post (.seq (.reg [⟨(some 8), (Op.move (Operand.tmp 0)), none, ann0⟩,
  ⟨(some 9), (Op.move (Operand.tmp 1)), none, ann0⟩,
  ⟨(some 10), (Op.binOp BinOp.gtr 3 (Operand.tmp 8) (Operand.tmp 9) 3), none, ann0⟩] none)
 (.cond (Operand.tmp 10) (.seq (.reg [⟨(some 4), (Op.assign (Operand.const (Value.int IntKind.i64 1))), none, ann0⟩] none)
 .ret)
 .skip)) (.tidy [] z (z + 0)))
 (.seq (.reg [⟨(some 4), (Op.assign (Operand.const (Value.int IntKind.i64 0))), none, ann0⟩] none)
 .ret))))⟩
theorem F43 (z : Nat) : FOk Try.prog 43 (s43 z) := by unfold FOk; kernel_rfl
def s44 (z : Nat) : SFn := ⟨2, 11, [(ResultVar.tmp 4)],
 (.seq (.reg [⟨(some 4), (Op.assign (Operand.const (Value.int IntKind.i64 0))), none, ann0⟩] none)
 (.seq (.post (.seq (.reg [⟨(some 5), (Op.move (Operand.tmp 0)), none, ann0⟩,
  ⟨(some 6), (Op.move (Operand.tmp 1)), none, ann0⟩,
  ⟨(some 7), (Op.binOp BinOp.lss 9 (Operand.tmp 5) (Operand.tmp 6) 9), none, ann0⟩] none)
 (.cond (Operand.tmp 7) (.seq (.reg [⟨(some 4), (Op.assign (Operand.const (Value.int IntKind.i64 (-1)))), none, ann0⟩] none)
 .ret)
 .skip)) (.tidy [0, 1] z (z + 0)))
 (.seq (.post (.seq (.reg [⟨(some 8), (Op.move (Operand.tmp 0)), none, ann0⟩,
  ⟨(some 9), (Op.move (Operand.tmp 1)), none, ann0⟩,
  ⟨(some 10), (Op.binOp BinOp.gtr 9 (Operand.tmp 8) (Operand.tmp 9) 9), none, ann0⟩] none)
 (.cond (Operand.tmp 10) (.seq (.reg [⟨(some 4), (Op.assign (Operand.const (Value.int IntKind.i64 1))), none, ann0⟩] none)
 .ret)
 .skip)) (.tidy [] z (z + 0)))
 (.seq (.reg [⟨(some 4), (Op.assign (Operand.const (Value.int IntKind.i64 0))), none, ann0⟩] none)
 .ret))))⟩
theorem F44 (z : Nat) : FOk Try.prog 44 (s44 z) := by unfold FOk; kernel_rfl
def c16_1 (z : Nat) : SC := .post (.seq (.post (.seq (.reg [⟨(some 38), (Op.move (Operand.tmp 6)), none, ann0⟩,
  ⟨(some 39), (Op.move (Operand.tmp 5)), none, ann0⟩,
  ⟨(some 40), (Op.call { callee := (Callee.builtin Builtin.len), args := #[(Operand.tmp 39)], argTypes := #[54] }), none, ann0⟩,
  ⟨(some 41), (Op.binOp BinOp.lss 3 (Operand.tmp 38) (Operand.tmp 40) 3), none, ann0⟩] none)
 (.cond (Operand.tmp 41) .skip
 (.exit 0))) (.tidy [5, 6] z (z + 3)))
 (.seq (.post (.block 1 (.seq (.reg [⟨(some 44), (Op.move (Operand.tmp 5)), none, ann0⟩,
  ⟨(some 45), (Op.move (Operand.tmp 6)), none, ann0⟩,
  ⟨(some 46), (Op.indexAddr 54 (Operand.tmp 44) (Operand.tmp 45)), none, ann0⟩,
  ⟨(some 47), (Op.load 3 (Operand.tmp 46)), none, ann0⟩,
  ⟨(some 48), (Op.binOp BinOp.neq 3 (Operand.tmp 47) (Operand.const (Value.int IntKind.i64 0)) 3), none, ann0⟩] none)
 (.cond (Operand.tmp 48) (.seq (.reg [⟨(some 49), (Op.move (Operand.tmp 5)), none, ann0⟩,
  ⟨(some 50), (Op.move (Operand.tmp 6)), none, ann0⟩,
  ⟨(some 51), (Op.indexAddr 54 (Operand.tmp 49) (Operand.tmp 50)), none, ann0⟩,
  ⟨(some 52), (Op.load 3 (Operand.tmp 51)), none, ann0⟩,
  ⟨(some 4), (Op.assign (Operand.tmp 52)), none, ann0⟩] none)
 .ret)
 .skip))) (.tidy [5, 6] z (z + 3)))
 (.reg [⟨(some 42), (Op.move (Operand.tmp 6)), none, ann0⟩,
  ⟨(some 43), (Op.binOp BinOp.add 3 (Operand.tmp 42) (Operand.const (Value.int IntKind.i64 1)) 3), none, ann0⟩,
  ⟨(some 6), (Op.assign (Operand.tmp 43)), none, ann0⟩] none))) (.tidy [5, 6] z (z + 3))
def s16_1 (z : Nat) : SC := c16_1 z
theorem e16_1 {C : Pg} {z : Nat} {st : St} {ks : List Fr} {K : Ex → St → Prop} : wpk C (s16_1 z) st ks K ↔ wpk C (c16_1 z) st ks K := Iff.rfl
def s16 (z : Nat) : SFn := ⟨2, 53, [(ResultVar.tmp 4)],
 (.seq (.reg [⟨(some 2), (Op.box 26 (Operand.tmp 0)), none, ⟨1, false, false⟩⟩,
  ⟨(some 3), (Op.box 26 (Operand.tmp 1)), none, ⟨1, false, false⟩⟩,
  ⟨(some 4), (Op.assign (Operand.const (Value.int IntKind.i64 0))), none, ann0⟩] none)
 (.seq (.post (.reg [⟨(some 7), (Op.fieldAddr 26 (Operand.tmp 2) 2), none, ann0⟩,
  ⟨(some 8), (Op.load 3 (Operand.tmp 7)), none, ann0⟩,
  ⟨(some 9), (Op.fieldAddr 26 (Operand.tmp 3) 2), none, ann0⟩,
  ⟨(some 10), (Op.load 3 (Operand.tmp 9)), none, ann0⟩,
  ⟨(some 11), (Op.call { callee := (Callee.value (Operand.func 43)), args := #[(Operand.tmp 8), (Operand.tmp 10)], argTypes := #[3, 3] }), none, ann0⟩,
  ⟨(some 12), (Op.fieldAddr 26 (Operand.tmp 2) 0), none, ann0⟩,
  ⟨(some 13), (Op.load 3 (Operand.tmp 12)), none, ann0⟩,
  ⟨(some 14), (Op.fieldAddr 26 (Operand.tmp 3) 0), none, ann0⟩,
  ⟨(some 15), (Op.load 3 (Operand.tmp 14)), none, ann0⟩,
  ⟨(some 16), (Op.call { callee := (Callee.value (Operand.func 43)), args := #[(Operand.tmp 13), (Operand.tmp 15)], argTypes := #[3, 3] }), none, ann0⟩,
  ⟨(some 17), (Op.fieldAddr 26 (Operand.tmp 2) 1), none, ann0⟩,
  ⟨(some 18), (Op.load 3 (Operand.tmp 17)), none, ann0⟩,
  ⟨(some 19), (Op.fieldAddr 26 (Operand.tmp 3) 1), none, ann0⟩,
  ⟨(some 20), (Op.load 3 (Operand.tmp 19)), none, ann0⟩,
  ⟨(some 21), (Op.call { callee := (Callee.value (Operand.func 43)), args := #[(Operand.tmp 18), (Operand.tmp 20)], argTypes := #[3, 3] }), none, ann0⟩,
  ⟨(some 22), (Op.fieldAddr 26 (Operand.tmp 2) 3), none, ann0⟩,
  ⟨(some 23), (Op.load 9 (Operand.tmp 22)), none, ann0⟩,
  ⟨(some 24), (Op.fieldAddr 26 (Operand.tmp 3) 3), none, ann0⟩,
  ⟨(some 25), (Op.load 9 (Operand.tmp 24)), none, ann0⟩,
  ⟨(some 26), (Op.call { callee := (Callee.value (Operand.func 44)), args := #[(Operand.tmp 23), (Operand.tmp 25)], argTypes := #[9, 9] }), none, ann0⟩,
  ⟨(some 27), (Op.fieldAddr 26 (Operand.tmp 2) 4), none, ann0⟩,
  ⟨(some 28), (Op.load 9 (Operand.tmp 27)), none, ann0⟩,
  ⟨(some 29), (Op.fieldAddr 26 (Operand.tmp 3) 4), none, ann0⟩,
  ⟨(some 30), (Op.load 9 (Operand.tmp 29)), none, ann0⟩,
  ⟨(some 31), (Op.call { callee := (Callee.value (Operand.func 44)), args := #[(Operand.tmp 28), (Operand.tmp 30)], argTypes := #[9, 9] }), none, ann0⟩,
  ⟨(some 32), (Op.fieldAddr 26 (Operand.tmp 2) 5), none, ann0⟩,
  ⟨(some 33), (Op.load 9 (Operand.tmp 32)), none, ann0⟩,
  ⟨(some 34), (Op.fieldAddr 26 (Operand.tmp 3) 5), none, ann0⟩,
  ⟨(some 35), (Op.load 9 (Operand.tmp 34)), none, ann0⟩,
  ⟨(some 36), (Op.call { callee := (Callee.value (Operand.func 44)), args := #[(Operand.tmp 33), (Operand.tmp 35)], argTypes := #[9, 9] }), none, ann0⟩,
  ⟨(some 37), (Op.buildSlice 54 6 #[(0, (Operand.tmp 11)), (1, (Operand.tmp 16)), (2, (Operand.tmp 21)), (3, (Operand.tmp 26)), (4, (Operand.tmp 31)), (5, (Operand.tmp 36))]), none, ⟨1, true, false⟩⟩,
  ⟨(some 5), (Op.assign (Operand.tmp 37)), none, ann0⟩] (some [0, 1, 0, 4, 15, 0, 32, 0, 128, 511, 0, 1024, 0, 4096, 16383, 0, 32768, 0, 131072, 524287, 0, 1048576, 0, 4194304, 16777215, 0, 33554432, 0, 134217728, 536870911, 1073741823, 2147483647])) (.tidy [5] z (z + 3)))
 (.seq (.post (.seq (.reg [⟨(some 6), (Op.assign (Operand.const (Value.int IntKind.i64 0))), none, ann0⟩] none)
 (.post (.block 0 (.pre (.tidy [5, 6] z (z + 3)) (.loop (s16_1 z)))) (.tidy [] z (z + 3)))) (.tidy [] z (z + 3)))
 (.seq (.reg [⟨(some 4), (Op.assign (Operand.const (Value.int IntKind.i64 0))), none, ann0⟩] none)
 .ret))))⟩
theorem F16 (z : Nat) : FOk Try.prog 16 (s16 z) := by unfold FOk; kernel_rfl
def c18_2 (z : Nat) : SC := .post (.seq (.seq (.reg [⟨(some 84), (Op.move (Operand.tmp 7)), none, ann0⟩,
  ⟨(some 85), (Op.move (Operand.tmp 3)), none, ann0⟩,
  ⟨(some 86), (Op.binOp BinOp.lss 3 (Operand.tmp 84) (Operand.tmp 85) 3), none, ann0⟩] none)
 (.cond (Operand.tmp 86) .skip
 (.exit 3)))
 (.seq (.post (.block 4 (.seq (.post (.reg [⟨(some 89), (Op.move (Operand.tmp 0)), none, ann0⟩,
  ⟨(some 90), (Op.move (Operand.tmp 7)), none, ann0⟩,
  ⟨(some 91), (Op.indexAddr 22 (Operand.tmp 89) (Operand.tmp 90)), none, ann0⟩,
  ⟨(some 92), (Op.fieldAddr 26 (Operand.tmp 91) 0), none, ann0⟩,
  ⟨(some 93), (Op.load 3 (Operand.tmp 92)), none, ann0⟩,
  ⟨(some 94), (Op.fieldAddr 26 (Operand.tmp 4) 0), none, ann0⟩,
  ⟨(some 95), (Op.load 3 (Operand.tmp 94)), none, ann0⟩,
  ⟨(some 96), (Op.binOp BinOp.eql 3 (Operand.tmp 93) (Operand.tmp 95) 3), none, ann0⟩] (some [0, 0, 3, 7, 15, 0, 32, 127])) (.tidy [0, 3, 4, 7, 96] z (z + 1)))
 (.cond (Operand.tmp 96) (.seq (.reg [⟨(some 2), (Op.assign (Operand.const (Value.int IntKind.i64 9))), none, ann0⟩] none)
 .ret)
 .skip))) (.tidy [0, 3, 4, 7] z (z + 1)))
 (.reg [⟨(some 87), (Op.move (Operand.tmp 7)), none, ann0⟩,
  ⟨(some 88), (Op.binOp BinOp.add 3 (Operand.tmp 87) (Operand.const (Value.int IntKind.i64 1)) 3), none, ann0⟩,
  ⟨(some 7), (Op.assign (Operand.tmp 88)), none, ann0⟩] none))) (.tidy [0, 3, 4, 7] z (z + 1))
def s18_2 (z : Nat) : SC := c18_2 z
theorem e18_2 {C : Pg} {z : Nat} {st : St} {ks : List Fr} {K : Ex → St → Prop} : wpk C (s18_2 z) st ks K ↔ wpk C (c18_2 z) st ks K := Iff.rfl
def c18_1 (z : Nat) : SC := .post (.seq (.post (.seq (.reg [⟨(some 11), (Op.move (Operand.tmp 3)), none, ann0⟩,
  ⟨(some 12), (Op.move (Operand.tmp 0)), none, ann0⟩,
  ⟨(some 13), (Op.call { callee := (Callee.builtin Builtin.len), args := #[(Operand.tmp 12)], argTypes := #[22] }), none, ann0⟩,
  ⟨(some 14), (Op.binOp BinOp.lss 3 (Operand.tmp 11) (Operand.tmp 13) 3), none, ann0⟩] none)
 (.cond (Operand.tmp 14) .skip
 (.exit 0))) (.tidy [0, 3] z (z + 0)))
 (.seq (.post (.block 1 (.seq (.reg [⟨(some 17), (Op.move (Operand.tmp 0)), none, ann0⟩,
  ⟨(some 18), (Op.move (Operand.tmp 3)), none, ann0⟩,
  ⟨(some 19), (Op.indexAddr 22 (Operand.tmp 17) (Operand.tmp 18)), none, ann0⟩,
  ⟨(some 20), (Op.load 26 (Operand.tmp 19)), none, ann0⟩,
  ⟨(some 4), (Op.alloc 26), none, ⟨1, false, false⟩⟩,
  ⟨none, (Op.store 26 (Operand.tmp 4) (Operand.tmp 20)), none, ann0⟩] none)
 (.seq (.post (.reg [⟨(some 21), (Op.fieldAddr 26 (Operand.tmp 4) 4), none, ann0⟩,
  ⟨(some 22), (Op.load 9 (Operand.tmp 21)), none, ann0⟩,
  ⟨(some 23), (Op.fieldAddr 26 (Operand.tmp 4) 5), none, ann0⟩,
  ⟨(some 24), (Op.load 9 (Operand.tmp 23)), none, ann0⟩,
  ⟨(some 5), (Op.assign (Operand.tmp 22)), none, ann0⟩,
  ⟨(some 6), (Op.assign (Operand.tmp 24)), none, ann0⟩] (some [0, 1, 0, 4, 3, 31])) (.tidy [0, 3, 4, 5, 6] z (z + 1)))
 (.seq (.post (.seq (.reg [⟨(some 25), (Op.fieldAddr 26 (Operand.tmp 4) 1), none, ann0⟩,
  ⟨(some 26), (Op.load 3 (Operand.tmp 25)), none, ann0⟩,
  ⟨(some 27), (Op.binOp BinOp.eql 3 (Operand.tmp 26) (Operand.const (Value.int IntKind.i64 1)) 3), none, ann0⟩] none)
 (.cond (Operand.tmp 27) (.reg [⟨(some 28), (Op.fieldAddr 26 (Operand.tmp 4) 5), none, ann0⟩,
  ⟨(some 29), (Op.load 9 (Operand.tmp 28)), none, ann0⟩,
  ⟨(some 30), (Op.fieldAddr 26 (Operand.tmp 4) 4), none, ann0⟩,
  ⟨(some 31), (Op.load 9 (Operand.tmp 30)), none, ann0⟩,
  ⟨(some 5), (Op.assign (Operand.tmp 29)), none, ann0⟩,
  ⟨(some 6), (Op.assign (Operand.tmp 31)), none, ann0⟩] (some [0, 1, 0, 4, 3, 31]))
 .skip)) (.tidy [0, 3, 4, 5, 6] z (z + 1)))
 (.seq (.post (.block 2 (.seq (.post (.reg [⟨(some 33), (Op.fieldAddr 26 (Operand.tmp 4) 0), none, ann0⟩,
  ⟨(some 34), (Op.load 3 (Operand.tmp 33)), none, ann0⟩,
  ⟨(some 35), (Op.binOp BinOp.lss 3 (Operand.tmp 34) (Operand.const (Value.int IntKind.i64 1)) 3), none, ann0⟩,
  ⟨(some 36), (Op.move (Operand.tmp 35)), none, ann0⟩,
  ⟨(some 37), (Op.fieldAddr 26 (Operand.tmp 4) 0), (some (36, false)), ann0⟩,
  ⟨(some 38), (Op.load 3 (Operand.tmp 37)), (some (36, false)), ann0⟩,
  ⟨(some 39), (Op.binOp BinOp.gtr 3 (Operand.tmp 38) (Operand.const (Value.int IntKind.i64 1099511627776)) 3), (some (36, false)), ann0⟩,
  ⟨(some 40), (Op.pick (Operand.tmp 36) (Operand.const (Value.bool true)) (Operand.tmp 39)), none, ann0⟩,
  ⟨(some 32), (Op.assign (Operand.tmp 40)), none, ann0⟩] none) (.tidy [0, 3, 4, 5, 6, 32] z (z + 1)))
 (.cond (Operand.tmp 32) (.seq (.reg [⟨(some 2), (Op.assign (Operand.const (Value.int IntKind.i64 2))), none, ann0⟩] none)
 .ret)
 (.seq (.post (.reg [⟨(some 42), (Op.fieldAddr 26 (Operand.tmp 4) 1), none, ann0⟩,
  ⟨(some 43), (Op.load 3 (Operand.tmp 42)), none, ann0⟩,
  ⟨(some 44), (Op.binOp BinOp.lss 3 (Operand.tmp 43) (Operand.const (Value.int IntKind.i64 1)) 3), none, ann0⟩,
  ⟨(some 45), (Op.move (Operand.tmp 44)), none, ann0⟩,
  ⟨(some 46), (Op.fieldAddr 26 (Operand.tmp 4) 1), (some (45, false)), ann0⟩,
  ⟨(some 47), (Op.load 3 (Operand.tmp 46)), (some (45, false)), ann0⟩,
  ⟨(some 48), (Op.binOp BinOp.gtr 3 (Operand.tmp 47) (Operand.const (Value.int IntKind.i64 3)) 3), (some (45, false)), ann0⟩,
  ⟨(some 49), (Op.pick (Operand.tmp 45) (Operand.const (Value.bool true)) (Operand.tmp 48)), none, ann0⟩,
  ⟨(some 41), (Op.assign (Operand.tmp 49)), none, ann0⟩] none) (.tidy [0, 3, 4, 5, 6, 41] z (z + 1)))
 (.cond (Operand.tmp 41) (.seq (.reg [⟨(some 2), (Op.assign (Operand.const (Value.int IntKind.i64 12))), none, ann0⟩] none)
 .ret)
 (.seq (.post (.reg [⟨(some 51), (Op.fieldAddr 26 (Operand.tmp 4) 2), none, ann0⟩,
  ⟨(some 52), (Op.load 3 (Operand.tmp 51)), none, ann0⟩,
  ⟨(some 53), (Op.binOp BinOp.lss 3 (Operand.tmp 52) (Operand.const (Value.int IntKind.i64 0)) 3), none, ann0⟩,
  ⟨(some 54), (Op.move (Operand.tmp 53)), none, ann0⟩,
  ⟨(some 55), (Op.fieldAddr 26 (Operand.tmp 4) 2), (some (54, false)), ann0⟩,
  ⟨(some 56), (Op.load 3 (Operand.tmp 55)), (some (54, false)), ann0⟩,
  ⟨(some 57), (Op.binOp BinOp.gtr 3 (Operand.tmp 56) (Operand.const (Value.int IntKind.i64 1048576)) 3), (some (54, false)), ann0⟩,
  ⟨(some 58), (Op.pick (Operand.tmp 54) (Operand.const (Value.bool true)) (Operand.tmp 57)), none, ann0⟩,
  ⟨(some 50), (Op.assign (Operand.tmp 58)), none, ann0⟩] none) (.tidy [0, 3, 4, 5, 6, 50] z (z + 1)))
 (.cond (Operand.tmp 50) (.seq (.reg [⟨(some 2), (Op.assign (Operand.const (Value.int IntKind.i64 32))), none, ann0⟩] none)
 .ret)
 (.seq (.reg [⟨(some 60), (Op.fieldAddr 26 (Operand.tmp 4) 3), none, ann0⟩,
  ⟨(some 61), (Op.load 9 (Operand.tmp 60)), none, ann0⟩,
  ⟨(some 62), (Op.call { callee := (Callee.value (Operand.func 46)), args := #[(Operand.tmp 61)], argTypes := #[9] }), none, ann0⟩,
  ⟨(some 63), (Op.unOp UnOp.not 4 (Operand.tmp 62)), none, ann0⟩,
  ⟨(some 59), (Op.assign (Operand.tmp 63)), none, ann0⟩] none)
 (.cond (Operand.tmp 59) (.seq (.reg [⟨(some 2), (Op.assign (Operand.const (Value.int IntKind.i64 11))), none, ann0⟩] none)
 .ret)
 (.seq (.post (.reg [⟨(some 65), (Op.move (Operand.tmp 6)), none, ann0⟩,
  ⟨(some 66), (Op.binOp BinOp.neq 9 (Operand.tmp 65) (Operand.const (Value.string ⟨#[]⟩)) 9), none, ann0⟩,
  ⟨(some 64), (Op.assign (Operand.tmp 66)), none, ann0⟩] none) (.tidy [0, 3, 4, 5, 64] z (z + 1)))
 (.cond (Operand.tmp 64) (.seq (.reg [⟨(some 2), (Op.assign (Operand.const (Value.int IntKind.i64 3))), none, ann0⟩] none)
 .ret)
 (.seq (.reg [⟨(some 68), (Op.move (Operand.tmp 5)), none, ann0⟩,
  ⟨(some 69), (Op.call { callee := (Callee.value (Operand.func 46)), args := #[(Operand.tmp 68)], argTypes := #[9] }), none, ann0⟩,
  ⟨(some 70), (Op.unOp UnOp.not 4 (Operand.tmp 69)), none, ann0⟩,
  ⟨(some 67), (Op.assign (Operand.tmp 70)), none, ann0⟩] none)
 (.cond (Operand.tmp 67) (.seq (.reg [⟨(some 2), (Op.assign (Operand.const (Value.int IntKind.i64 11))), none, ann0⟩] none)
 .ret)
 (.seq (.post (.reg [⟨(some 72), (Op.move (Operand.tmp 3)), none, ann0⟩,
  ⟨(some 73), (Op.binOp BinOp.gtr 3 (Operand.tmp 72) (Operand.const (Value.int IntKind.i64 0)) 3), none, ann0⟩,
  ⟨(some 74), (Op.move (Operand.tmp 73)), none, ann0⟩,
  ⟨(some 75), (Op.move (Operand.tmp 0)), (some (74, true)), ann0⟩,
  ⟨(some 76), (Op.move (Operand.tmp 3)), (some (74, true)), ann0⟩,
  ⟨(some 77), (Op.binOp BinOp.sub 3 (Operand.tmp 76) (Operand.const (Value.int IntKind.i64 1)) 3), (some (74, true)), ann0⟩,
  ⟨(some 78), (Op.indexAddr 22 (Operand.tmp 75) (Operand.tmp 77)), (some (74, true)), ann0⟩,
  ⟨(some 79), (Op.load 26 (Operand.tmp 78)), (some (74, true)), ann0⟩,
  ⟨(some 80), (Op.load 26 (Operand.tmp 4)), (some (74, true)), ann0⟩,
  ⟨(some 81), (Op.call { callee := (Callee.value (Operand.func 16)), args := #[(Operand.tmp 79), (Operand.tmp 80)], argTypes := #[26, 26] }), (some (74, true)), ann0⟩,
  ⟨(some 82), (Op.binOp BinOp.gtr 3 (Operand.tmp 81) (Operand.const (Value.int IntKind.i64 0)) 3), (some (74, true)), ann0⟩,
  ⟨(some 83), (Op.pick (Operand.tmp 74) (Operand.tmp 82) (Operand.const (Value.bool false))), none, ann0⟩,
  ⟨(some 71), (Op.assign (Operand.tmp 83)), none, ann0⟩] (some [0, 1, 3, 7, 7, 23, 63, 127, 7, 511, 1023, 2047, 4095])) (.tidy [0, 3, 4, 71] z (z + 1)))
 (.cond (Operand.tmp 71) (.seq (.reg [⟨(some 2), (Op.assign (Operand.const (Value.int IntKind.i64 8))), none, ann0⟩] none)
 .ret)
 .skip))))))))))))))) (.tidy [0, 3, 4] z (z + 1)))
 (.seq (.reg [⟨(some 7), (Op.assign (Operand.const (Value.int IntKind.i64 0))), none, ann0⟩] none)
 (.post (.block 3 (.pre (.tidy [0, 3, 4, 7] z (z + 1)) (.loop (s18_2 z)))) (.tidy [0, 3] z (z + 1))))))))) (.tidy [0, 3] z (z + 1)))
 (.reg [⟨(some 15), (Op.move (Operand.tmp 3)), none, ann0⟩,
  ⟨(some 16), (Op.binOp BinOp.add 3 (Operand.tmp 15) (Operand.const (Value.int IntKind.i64 1)) 3), none, ann0⟩,
  ⟨(some 3), (Op.assign (Operand.tmp 16)), none, ann0⟩] none))) (.tidy [0, 3] z (z + 0))
def s18_1 (z : Nat) : SC := c18_1 z
theorem e18_1 {C : Pg} {z : Nat} {st : St} {ks : List Fr} {K : Ex → St → Prop} : wpk C (s18_1 z) st ks K ↔ wpk C (c18_1 z) st ks K := Iff.rfl
def s18 (z : Nat) : SFn := ⟨1, 97, [(ResultVar.tmp 2)],
 (.seq (.reg [⟨(some 2), (Op.assign (Operand.const (Value.int IntKind.i64 0))), none, ann0⟩] none)
 (.seq (.post (.seq (.reg [⟨(some 8), (Op.move (Operand.tmp 0)), none, ann0⟩,
  ⟨(some 9), (Op.call { callee := (Callee.builtin Builtin.len), args := #[(Operand.tmp 8)], argTypes := #[22] }), none, ann0⟩,
  ⟨(some 10), (Op.binOp BinOp.gtr 3 (Operand.tmp 9) (Operand.const (Value.int IntKind.i64 256)) 3), none, ann0⟩] none)
 (.cond (Operand.tmp 10) (.seq (.reg [⟨(some 2), (Op.assign (Operand.const (Value.int IntKind.i64 6))), none, ann0⟩] none)
 .ret)
 .skip)) (.tidy [0] z (z + 0)))
 (.seq (.post (.seq (.reg [⟨(some 3), (Op.assign (Operand.const (Value.int IntKind.i64 0))), none, ann0⟩] none)
 (.post (.block 0 (.pre (.tidy [0, 3] z (z + 0)) (.loop (s18_1 z)))) (.tidy [] z (z + 0)))) (.tidy [] z (z + 0)))
 (.seq (.reg [⟨(some 2), (Op.assign (Operand.const (Value.int IntKind.i64 0))), none, ann0⟩] none)
 .ret))))⟩
theorem F18 (z : Nat) : FOk Try.prog 18 (s18 z) := by unfold FOk; kernel_rfl
def c39_2 (z : Nat) : SC := .post (.seq (.post (.seq (.post (.reg [⟨(some 12), (Op.move (Operand.tmp 5)), none, ann0⟩,
  ⟨(some 13), (Op.move (Operand.tmp 3)), none, ann0⟩,
  ⟨(some 14), (Op.call { callee := (Callee.builtin Builtin.len), args := #[(Operand.tmp 13)], argTypes := #[22] }), none, ann0⟩,
  ⟨(some 15), (Op.binOp BinOp.lss 3 (Operand.tmp 12) (Operand.tmp 14) 3), none, ann0⟩,
  ⟨(some 16), (Op.move (Operand.tmp 15)), none, ann0⟩,
  ⟨(some 17), (Op.move (Operand.tmp 3)), (some (16, true)), ann0⟩,
  ⟨(some 18), (Op.move (Operand.tmp 5)), (some (16, true)), ann0⟩,
  ⟨(some 19), (Op.indexAddr 22 (Operand.tmp 17) (Operand.tmp 18)), (some (16, true)), ann0⟩,
  ⟨(some 20), (Op.load 26 (Operand.tmp 19)), (some (16, true)), ann0⟩,
  ⟨(some 21), (Op.move (Operand.tmp 0)), (some (16, true)), ann0⟩,
  ⟨(some 22), (Op.move (Operand.tmp 4)), (some (16, true)), ann0⟩,
  ⟨(some 23), (Op.indexAddr 22 (Operand.tmp 21) (Operand.tmp 22)), (some (16, true)), ann0⟩,
  ⟨(some 24), (Op.load 26 (Operand.tmp 23)), (some (16, true)), ann0⟩,
  ⟨(some 25), (Op.call { callee := (Callee.value (Operand.func 16)), args := #[(Operand.tmp 20), (Operand.tmp 24)], argTypes := #[26, 26] }), (some (16, true)), ann0⟩,
  ⟨(some 26), (Op.binOp BinOp.lss 3 (Operand.tmp 25) (Operand.const (Value.int IntKind.i64 0)) 3), (some (16, true)), ann0⟩,
  ⟨(some 27), (Op.pick (Operand.tmp 16) (Operand.tmp 26) (Operand.const (Value.bool false))), none, ann0⟩] (some [0, 0, 2, 7, 15, 31, 31, 127, 255, 31, 31, 1567, 3615, 8191, 16383, 32767])) (.tidy [0, 3, 4, 5, 27] z (z + 0)))
 (.cond (Operand.tmp 27) .skip
 (.exit 2))) (.tidy [0, 3, 4, 5] z (z + 0)))
 (.block 3 (.reg [⟨(some 28), (Op.move (Operand.tmp 5)), none, ann0⟩,
  ⟨(some 29), (Op.binOp BinOp.add 3 (Operand.tmp 28) (Operand.const (Value.int IntKind.i64 1)) 3), none, ann0⟩,
  ⟨(some 5), (Op.assign (Operand.tmp 29)), none, ann0⟩] none))) (.tidy [0, 3, 4, 5] z (z + 0))
def s39_2 (z : Nat) : SC := c39_2 z
theorem e39_2 {C : Pg} {z : Nat} {st : St} {ks : List Fr} {K : Ex → St → Prop} : wpk C (s39_2 z) st ks K ↔ wpk C (c39_2 z) st ks K := Iff.rfl
def c39_1 (z : Nat) : SC := .post (.seq (.post (.seq (.reg [⟨(some 6), (Op.move (Operand.tmp 4)), none, ann0⟩,
  ⟨(some 7), (Op.move (Operand.tmp 0)), none, ann0⟩,
  ⟨(some 8), (Op.call { callee := (Callee.builtin Builtin.len), args := #[(Operand.tmp 7)], argTypes := #[22] }), none, ann0⟩,
  ⟨(some 9), (Op.binOp BinOp.lss 3 (Operand.tmp 6) (Operand.tmp 8) 3), none, ann0⟩] none)
 (.cond (Operand.tmp 9) .skip
 (.exit 0))) (.tidy [0, 3, 4] z (z + 0)))
 (.seq (.post (.block 1 (.seq (.reg [⟨(some 5), (Op.assign (Operand.const (Value.int IntKind.i64 0))), none, ann0⟩] none)
 (.seq (.post (.block 2 (.pre (.tidy [0, 3, 4, 5] z (z + 0)) (.loop (s39_2 z)))) (.tidy [0, 3, 4, 5] z (z + 0)))
 (.seq (.post (.reg [⟨(some 30), (Op.move (Operand.tmp 5)), none, ann0⟩,
  ⟨(some 31), (Op.move (Operand.tmp 3)), none, ann0⟩,
  ⟨(some 32), (Op.call { callee := (Callee.builtin Builtin.len), args := #[(Operand.tmp 31)], argTypes := #[22] }), none, ann0⟩,
  ⟨(some 33), (Op.binOp BinOp.eql 3 (Operand.tmp 30) (Operand.tmp 32) 3), none, ann0⟩,
  ⟨(some 34), (Op.move (Operand.tmp 33)), none, ann0⟩,
  ⟨(some 35), (Op.move (Operand.tmp 3)), (some (34, false)), ann0⟩,
  ⟨(some 36), (Op.move (Operand.tmp 5)), (some (34, false)), ann0⟩,
  ⟨(some 37), (Op.indexAddr 22 (Operand.tmp 35) (Operand.tmp 36)), (some (34, false)), ann0⟩,
  ⟨(some 38), (Op.load 26 (Operand.tmp 37)), (some (34, false)), ann0⟩,
  ⟨(some 39), (Op.move (Operand.tmp 0)), (some (34, false)), ann0⟩,
  ⟨(some 40), (Op.move (Operand.tmp 4)), (some (34, false)), ann0⟩,
  ⟨(some 41), (Op.indexAddr 22 (Operand.tmp 39) (Operand.tmp 40)), (some (34, false)), ann0⟩,
  ⟨(some 42), (Op.load 26 (Operand.tmp 41)), (some (34, false)), ann0⟩,
  ⟨(some 43), (Op.binOp BinOp.neq 26 (Operand.tmp 38) (Operand.tmp 42) 26), (some (34, false)), ann0⟩,
  ⟨(some 44), (Op.pick (Operand.tmp 34) (Operand.const (Value.bool true)) (Operand.tmp 43)), none, ann0⟩] (some [0, 0, 2, 7, 15, 31, 31, 127, 255, 31, 31, 1567, 3615, 8191, 16383])) (.tidy [0, 3, 4, 5, 44] z (z + 0)))
 (.cond (Operand.tmp 44) (.post (.reg [⟨(some 45), (Op.buildSlice 22 0 #[]), none, ⟨1, false, false⟩⟩,
  ⟨(some 46), (Op.move (Operand.tmp 3)), none, ann0⟩,
  ⟨(some 47), (Op.move (Operand.tmp 5)), none, ann0⟩,
  ⟨(some 48), (Op.slice 22 (Operand.tmp 46) none (some (Operand.tmp 47)) none), none, ann0⟩,
  ⟨(some 49), (Op.call { callee := (Callee.builtin Builtin.append), args := #[(Operand.tmp 45), (Operand.tmp 48)], argTypes := #[22, 22] }), none, ann0⟩,
  ⟨(some 50), (Op.move (Operand.tmp 0)), none, ann0⟩,
  ⟨(some 51), (Op.move (Operand.tmp 4)), none, ann0⟩,
  ⟨(some 52), (Op.indexAddr 22 (Operand.tmp 50) (Operand.tmp 51)), none, ann0⟩,
  ⟨(some 53), (Op.load 26 (Operand.tmp 52)), none, ann0⟩,
  ⟨(some 54), (Op.buildSlice 22 1 #[(0, (Operand.tmp 53))]), none, ⟨1, true, false⟩⟩,
  ⟨(some 55), (Op.call { callee := (Callee.builtin Builtin.append), args := #[(Operand.tmp 49), (Operand.tmp 54)], argTypes := #[22, 22] }), none, ann0⟩,
  ⟨(some 56), (Op.move (Operand.tmp 3)), none, ann0⟩,
  ⟨(some 57), (Op.move (Operand.tmp 5)), none, ann0⟩,
  ⟨(some 58), (Op.slice 22 (Operand.tmp 56) (some (Operand.tmp 57)) none none), none, ann0⟩,
  ⟨(some 59), (Op.call { callee := (Callee.builtin Builtin.append), args := #[(Operand.tmp 55), (Operand.tmp 58)], argTypes := #[22, 22] }), none, ann0⟩,
  ⟨(some 3), (Op.assign (Operand.tmp 59)), none, ann0⟩] (some [0, 0, 0, 6, 15, 0, 0, 96, 224, 480, 1023, 0, 0, 6144, 16383, 32767])) (.frz 3))
 .skip))))) (.tidy [0, 3, 4] z (z + 2)))
 (.reg [⟨(some 10), (Op.move (Operand.tmp 4)), none, ann0⟩,
  ⟨(some 11), (Op.binOp BinOp.add 3 (Operand.tmp 10) (Operand.const (Value.int IntKind.i64 1)) 3), none, ann0⟩,
  ⟨(some 4), (Op.assign (Operand.tmp 11)), none, ann0⟩] none))) (.tidy [0, 3, 4] z (z + 0))
def s39_1 (z : Nat) : SC := c39_1 z
theorem e39_1 {C : Pg} {z : Nat} {st : St} {ks : List Fr} {K : Ex → St → Prop} : wpk C (s39_1 z) st ks K ↔ wpk C (c39_1 z) st ks K := Iff.rfl
def s39 (z : Nat) : SFn := ⟨1, 61, [(ResultVar.tmp 2)],
 (.post (.seq (.reg [⟨(some 2), (Op.assign (Operand.const (Value.slice none 0 0))), none, ann0⟩] none)
 (.seq (.reg [⟨(some 3), (Op.assign (Operand.const (Value.slice none 0 0))), none, ann0⟩] none)
 (.seq (.post (.seq (.reg [⟨(some 4), (Op.assign (Operand.const (Value.int IntKind.i64 0))), none, ann0⟩] none)
 (.post (.block 0 (.pre (.tidy [0, 3, 4] z (z + 0)) (.loop (s39_1 z)))) (.tidy [3] z (z + 0)))) (.tidy [3] z (z + 0)))
 (.seq (.reg [⟨(some 60), (Op.move (Operand.tmp 3)), none, ann0⟩,
  ⟨(some 2), (Op.assign (Operand.tmp 60)), none, ann0⟩] none)
 .ret)))) (.frz 2))⟩
theorem F39 (z : Nat) : FOk Try.prog 39 (s39 z) := by unfold FOk; kernel_rfl
def s47 (z : Nat) : SFn := ⟨2, 43, [(ResultVar.cell 4 26)],
 (.seq (.reg [⟨(some 2), (Op.box 99 (Operand.tmp 0)), none, ⟨1, false, false⟩⟩,
  ⟨(some 4), (Op.alloc 26), none, ⟨1, false, false⟩⟩] none)
 (.seq (.reg [⟨(some 7), (Op.buildSlice 66 4 #[(0, (Operand.const (Value.string ⟨#[97, 112, 105]⟩))), (1, (Operand.const (Value.string ⟨#[100, 98]⟩))), (2, (Operand.const (Value.string ⟨#[119, 101, 98]⟩))), (3, (Operand.const (Value.string ⟨#[99, 97, 99, 104, 101]⟩)))]), none, ⟨1, true, false⟩⟩,
  ⟨(some 5), (Op.assign (Operand.tmp 7)), none, ann0⟩] none)
 (.seq (.post (.reg [⟨(some 8), (Op.move (Operand.tmp 1)), none, ann0⟩,
  ⟨(some 9), (Op.fieldAddr 99 (Operand.tmp 2) 0), none, ann0⟩,
  ⟨(some 10), (Op.load 5 (Operand.tmp 9)), none, ann0⟩,
  ⟨(some 11), (Op.binOp BinOp.rem 5 (Operand.tmp 10) (Operand.const (Value.int IntKind.u8 3)) 5), none, ann0⟩,
  ⟨(some 12), (Op.convert 5 3 (Operand.tmp 11)), none, ann0⟩,
  ⟨(some 13), (Op.binOp BinOp.add 3 (Operand.const (Value.int IntKind.i64 1)) (Operand.tmp 12) 3), none, ann0⟩,
  ⟨(some 14), (Op.fieldAddr 99 (Operand.tmp 2) 1), none, ann0⟩,
  ⟨(some 15), (Op.load 5 (Operand.tmp 14)), none, ann0⟩,
  ⟨(some 16), (Op.binOp BinOp.rem 5 (Operand.tmp 15) (Operand.const (Value.int IntKind.u8 64)) 5), none, ann0⟩,
  ⟨(some 17), (Op.convert 5 3 (Operand.tmp 16)), none, ann0⟩,
  ⟨(some 18), (Op.move (Operand.tmp 5)), none, ann0⟩,
  ⟨(some 19), (Op.fieldAddr 99 (Operand.tmp 2) 2), none, ann0⟩,
  ⟨(some 20), (Op.load 5 (Operand.tmp 19)), none, ann0⟩,
  ⟨(some 21), (Op.binOp BinOp.rem 5 (Operand.tmp 20) (Operand.const (Value.int IntKind.u8 4)) 5), none, ann0⟩,
  ⟨(some 22), (Op.indexAddr 66 (Operand.tmp 18) (Operand.tmp 21)), none, ann0⟩,
  ⟨(some 23), (Op.load 9 (Operand.tmp 22)), none, ann0⟩,
  ⟨(some 24), (Op.build 26 #[(0, (Operand.tmp 8)), (1, (Operand.tmp 13)), (2, (Operand.tmp 17)), (3, (Operand.tmp 23))]), none, ann0⟩,
  ⟨(some 6), (Op.alloc 26), none, ⟨1, false, false⟩⟩,
  ⟨none, (Op.store 26 (Operand.tmp 6) (Operand.tmp 24)), none, ann0⟩] (some [0, 0, 2, 6, 14, 30, 0, 64, 192, 448, 0, 0, 2048, 6144, 15360, 31744, 65535, 0, 262143])) (.tidy [2, 4, 5, 6] z (z + 4)))
 (.seq (.post (.seq (.reg [⟨(some 25), (Op.fieldAddr 26 (Operand.tmp 6) 1), none, ann0⟩,
  ⟨(some 26), (Op.load 3 (Operand.tmp 25)), none, ann0⟩,
  ⟨(some 27), (Op.binOp BinOp.eql 3 (Operand.tmp 26) (Operand.const (Value.int IntKind.i64 1)) 3), none, ann0⟩] none)
 (.cond (Operand.tmp 27) (.reg [⟨(some 28), (Op.buildSlice 66 3 #[(0, (Operand.const (Value.string ⟨#[118, 49]⟩))), (1, (Operand.const (Value.string ⟨#[118, 50]⟩))), (2, (Operand.const (Value.string ⟨#[118, 51]⟩)))]), none, ⟨1, true, false⟩⟩,
  ⟨(some 29), (Op.fieldAddr 99 (Operand.tmp 2) 4), none, ann0⟩,
  ⟨(some 30), (Op.load 5 (Operand.tmp 29)), none, ann0⟩,
  ⟨(some 31), (Op.binOp BinOp.rem 5 (Operand.tmp 30) (Operand.const (Value.int IntKind.u8 3)) 5), none, ann0⟩,
  ⟨(some 32), (Op.indexAddr 66 (Operand.tmp 28) (Operand.tmp 31)), none, ann0⟩,
  ⟨(some 33), (Op.load 9 (Operand.tmp 32)), none, ann0⟩,
  ⟨(some 34), (Op.fieldAddr 26 (Operand.tmp 6) 5), none, ann0⟩,
  ⟨none, (Op.store 9 (Operand.tmp 34) (Operand.tmp 33)), none, ann0⟩] none)
 (.reg [⟨(some 35), (Op.move (Operand.tmp 5)), none, ann0⟩,
  ⟨(some 36), (Op.fieldAddr 99 (Operand.tmp 2) 3), none, ann0⟩,
  ⟨(some 37), (Op.load 5 (Operand.tmp 36)), none, ann0⟩,
  ⟨(some 38), (Op.binOp BinOp.rem 5 (Operand.tmp 37) (Operand.const (Value.int IntKind.u8 4)) 5), none, ann0⟩,
  ⟨(some 39), (Op.indexAddr 66 (Operand.tmp 35) (Operand.tmp 38)), none, ann0⟩,
  ⟨(some 40), (Op.load 9 (Operand.tmp 39)), none, ann0⟩,
  ⟨(some 41), (Op.fieldAddr 26 (Operand.tmp 6) 4), none, ann0⟩,
  ⟨none, (Op.store 9 (Operand.tmp 41) (Operand.tmp 40)), none, ann0⟩] none))) (.tidy [4, 6] z (z + 5)))
 (.seq (.reg [⟨(some 42), (Op.load 26 (Operand.tmp 6)), none, ann0⟩,
  ⟨none, (Op.store 26 (Operand.tmp 4) (Operand.tmp 42)), none, ann0⟩] none)
 .ret)))))⟩
theorem F47 (z : Nat) : FOk Try.prog 47 (s47 z) := by unfold FOk; kernel_rfl
def c19_1 (z : Nat) : SC := .post (.seq (.post (.seq (.post (.reg [⟨(some 5), (Op.move (Operand.tmp 4)), none, ann0⟩,
  ⟨(some 6), (Op.move (Operand.tmp 0)), none, ann0⟩,
  ⟨(some 7), (Op.call { callee := (Callee.builtin Builtin.len), args := #[(Operand.tmp 6)], argTypes := #[30] }), none, ann0⟩,
  ⟨(some 8), (Op.binOp BinOp.lss 3 (Operand.tmp 5) (Operand.tmp 7) 3), none, ann0⟩,
  ⟨(some 9), (Op.move (Operand.tmp 8)), none, ann0⟩,
  ⟨(some 10), (Op.move (Operand.tmp 4)), (some (9, true)), ann0⟩,
  ⟨(some 11), (Op.binOp BinOp.lss 3 (Operand.tmp 10) (Operand.const (Value.int IntKind.i64 12)) 3), (some (9, true)), ann0⟩,
  ⟨(some 12), (Op.pick (Operand.tmp 9) (Operand.tmp 11) (Operand.const (Value.bool false))), none, ann0⟩] none) (.tidy [0, 3, 4, 12] z (z + 1)))
 (.cond (Operand.tmp 12) .skip
 (.exit 0))) (.tidy [0, 3, 4] z (z + 1)))
 (.seq (.post (.block 1 (.reg [⟨(some 15), (Op.move (Operand.tmp 3)), none, ann0⟩,
  ⟨(some 16), (Op.move (Operand.tmp 0)), none, ann0⟩,
  ⟨(some 17), (Op.move (Operand.tmp 4)), none, ann0⟩,
  ⟨(some 18), (Op.indexAddr 30 (Operand.tmp 16) (Operand.tmp 17)), none, ann0⟩,
  ⟨(some 19), (Op.load 99 (Operand.tmp 18)), none, ann0⟩,
  ⟨(some 20), (Op.move (Operand.tmp 4)), none, ann0⟩,
  ⟨(some 21), (Op.binOp BinOp.add 3 (Operand.tmp 20) (Operand.const (Value.int IntKind.i64 1)) 3), none, ann0⟩,
  ⟨(some 22), (Op.call { callee := (Callee.value (Operand.func 47)), args := #[(Operand.tmp 19), (Operand.tmp 21)], argTypes := #[99, 3] }), none, ann0⟩,
  ⟨(some 23), (Op.buildSlice 22 1 #[(0, (Operand.tmp 22))]), none, ⟨1, true, false⟩⟩,
  ⟨(some 24), (Op.call { callee := (Callee.builtin Builtin.append), args := #[(Operand.tmp 15), (Operand.tmp 23)], argTypes := #[22, 22] }), none, ann0⟩,
  ⟨(some 3), (Op.assign (Operand.tmp 24)), none, ann0⟩] none)) (.tidy [0, 3, 4] z (z + 2)))
 (.reg [⟨(some 13), (Op.move (Operand.tmp 4)), none, ann0⟩,
  ⟨(some 14), (Op.binOp BinOp.add 3 (Operand.tmp 13) (Operand.const (Value.int IntKind.i64 1)) 3), none, ann0⟩,
  ⟨(some 4), (Op.assign (Operand.tmp 14)), none, ann0⟩] none))) (.tidy [0, 3, 4] z (z + 1))
def s19_1 (z : Nat) : SC := c19_1 z
theorem e19_1 {C : Pg} {z : Nat} {st : St} {ks : List Fr} {K : Ex → St → Prop} : wpk C (s19_1 z) st ks K ↔ wpk C (c19_1 z) st ks K := Iff.rfl
def s19 (z : Nat) : SFn := ⟨1, 27, [(ResultVar.tmp 2)],
 (.post (.seq (.reg [⟨(some 2), (Op.assign (Operand.const (Value.slice none 0 0))), none, ann0⟩] none)
 (.seq (.post (.reg [⟨(some 3), (Op.assign (Operand.const (Value.slice none 0 0))), none, ann0⟩] none) (.mkv 3 26 6))
 (.seq (.post (.seq (.reg [⟨(some 4), (Op.assign (Operand.const (Value.int IntKind.i64 0))), none, ann0⟩] none)
 (.post (.post (.block 0 (.pre (.tidy [0, 3, 4] z (z + 1)) (.loop (s19_1 z)))) (.tidy [3] z (z + 1))) (.frz 3))) (.tidy [3] z (z + 1)))
 (.seq (.reg [⟨(some 25), (Op.move (Operand.tmp 3)), none, ann0⟩,
  ⟨(some 26), (Op.call { callee := (Callee.value (Operand.func 39)), args := #[(Operand.tmp 25)], argTypes := #[22] }), none, ann0⟩,
  ⟨(some 2), (Op.assign (Operand.tmp 26)), none, ann0⟩] none)
 .ret)))) (.frz 2))⟩
theorem F19 (z : Nat) : FOk Try.prog 19 (s19 z) := by unfold FOk; kernel_rfl
def c33_1 (z : Nat) : SC := .post (.seq (.post (.seq (.reg [⟨(some 11), (Op.move (Operand.tmp 5)), none, ann0⟩,
  ⟨(some 12), (Op.move (Operand.tmp 0)), none, ann0⟩,
  ⟨(some 13), (Op.call { callee := (Callee.builtin Builtin.len), args := #[(Operand.tmp 12)], argTypes := #[22] }), none, ann0⟩,
  ⟨(some 14), (Op.binOp BinOp.lss 3 (Operand.tmp 11) (Operand.tmp 13) 3), none, ann0⟩] none)
 (.cond (Operand.tmp 14) .skip
 (.exit 0))) (.tidy [0, 1, 5] z (z + 0)))
 (.seq (.post (.block 1 (.seq (.post (.reg [⟨(some 17), (Op.move (Operand.tmp 0)), none, ann0⟩,
  ⟨(some 18), (Op.move (Operand.tmp 5)), none, ann0⟩,
  ⟨(some 19), (Op.indexAddr 22 (Operand.tmp 17) (Operand.tmp 18)), none, ann0⟩,
  ⟨(some 20), (Op.load 26 (Operand.tmp 19)), none, ann0⟩,
  ⟨(some 21), (Op.move (Operand.tmp 1)), none, ann0⟩,
  ⟨(some 22), (Op.move (Operand.tmp 5)), none, ann0⟩,
  ⟨(some 23), (Op.indexAddr 22 (Operand.tmp 21) (Operand.tmp 22)), none, ann0⟩,
  ⟨(some 24), (Op.load 26 (Operand.tmp 23)), none, ann0⟩,
  ⟨(some 25), (Op.binOp BinOp.neq 26 (Operand.tmp 20) (Operand.tmp 24) 26), none, ann0⟩] (some [0, 0, 3, 7, 0, 0, 48, 112, 255])) (.tidy [0, 1, 5, 25] z (z + 0)))
 (.cond (Operand.tmp 25) (.seq (.reg [⟨(some 4), (Op.assign (Operand.const (Value.bool false))), none, ann0⟩] none)
 .ret)
 .skip))) (.tidy [0, 1, 5] z (z + 0)))
 (.reg [⟨(some 15), (Op.move (Operand.tmp 5)), none, ann0⟩,
  ⟨(some 16), (Op.binOp BinOp.add 3 (Operand.tmp 15) (Operand.const (Value.int IntKind.i64 1)) 3), none, ann0⟩,
  ⟨(some 5), (Op.assign (Operand.tmp 16)), none, ann0⟩] none))) (.tidy [0, 1, 5] z (z + 0))
def s33_1 (z : Nat) : SC := c33_1 z
theorem e33_1 {C : Pg} {z : Nat} {st : St} {ks : List Fr} {K : Ex → St → Prop} : wpk C (s33_1 z) st ks K ↔ wpk C (c33_1 z) st ks K := Iff.rfl
def s33 (z : Nat) : SFn := ⟨2, 26, [(ResultVar.tmp 4)],
 (.seq (.reg [⟨(some 4), (Op.assign (Operand.const (Value.bool false))), none, ann0⟩] none)
 (.seq (.post (.seq (.reg [⟨(some 6), (Op.move (Operand.tmp 0)), none, ann0⟩,
  ⟨(some 7), (Op.call { callee := (Callee.builtin Builtin.len), args := #[(Operand.tmp 6)], argTypes := #[22] }), none, ann0⟩,
  ⟨(some 8), (Op.move (Operand.tmp 1)), none, ann0⟩,
  ⟨(some 9), (Op.call { callee := (Callee.builtin Builtin.len), args := #[(Operand.tmp 8)], argTypes := #[22] }), none, ann0⟩,
  ⟨(some 10), (Op.binOp BinOp.neq 3 (Operand.tmp 7) (Operand.tmp 9) 3), none, ann0⟩] none)
 (.cond (Operand.tmp 10) (.seq (.reg [⟨(some 4), (Op.assign (Operand.const (Value.bool false))), none, ann0⟩] none)
 .ret)
 .skip)) (.tidy [0, 1] z (z + 0)))
 (.seq (.post (.seq (.reg [⟨(some 5), (Op.assign (Operand.const (Value.int IntKind.i64 0))), none, ann0⟩] none)
 (.post (.block 0 (.pre (.tidy [0, 1, 5] z (z + 0)) (.loop (s33_1 z)))) (.tidy [] z (z + 0)))) (.tidy [] z (z + 0)))
 (.seq (.reg [⟨(some 4), (Op.assign (Operand.const (Value.bool true))), none, ann0⟩] none)
 .ret))))⟩
theorem F33 (z : Nat) : FOk Try.prog 33 (s33 z) := by unfold FOk; kernel_rfl
def s93 (z : Nat) : SFn := ⟨1, 19, [(ResultVar.tmp 2)],
 (.seq (.reg [⟨(some 2), (Op.assign (Operand.const (Value.int IntKind.i64 0))), none, ann0⟩] none)
 (.seq (.post (.seq (.reg [⟨(some 3), (Op.move (Operand.tmp 0)), none, ann0⟩,
  ⟨(some 4), (Op.binOp BinOp.geq 148 (Operand.tmp 3) (Operand.const (Value.int IntKind.u32 65536)) 148), none, ann0⟩] none)
 (.cond (Operand.tmp 4) (.seq (.reg [⟨(some 5), (Op.move (Operand.tmp 0)), none, ann0⟩,
  ⟨(some 6), (Op.binOp BinOp.shr 148 (Operand.tmp 5) (Operand.const (Value.int IntKind.u64 16)) 110), none, ann0⟩,
  ⟨(some 0), (Op.assign (Operand.tmp 6)), none, ann0⟩] none)
 (.reg [⟨(some 2), (Op.assign (Operand.const (Value.int IntKind.i64 16))), none, ann0⟩] none))
 .skip)) (.tidy [0, 2] z (z + 0)))
 (.seq (.post (.seq (.reg [⟨(some 7), (Op.move (Operand.tmp 0)), none, ann0⟩,
  ⟨(some 8), (Op.binOp BinOp.geq 148 (Operand.tmp 7) (Operand.const (Value.int IntKind.u32 256)) 148), none, ann0⟩] none)
 (.cond (Operand.tmp 8) (.seq (.reg [⟨(some 9), (Op.move (Operand.tmp 0)), none, ann0⟩,
  ⟨(some 10), (Op.binOp BinOp.shr 148 (Operand.tmp 9) (Operand.const (Value.int IntKind.u64 8)) 110), none, ann0⟩,
  ⟨(some 0), (Op.assign (Operand.tmp 10)), none, ann0⟩] none)
 (.reg [⟨(some 11), (Op.move (Operand.tmp 2)), none, ann0⟩,
  ⟨(some 12), (Op.binOp BinOp.add 3 (Operand.tmp 11) (Operand.const (Value.int IntKind.i64 8)) 3), none, ann0⟩,
  ⟨(some 2), (Op.assign (Operand.tmp 12)), none, ann0⟩] none))
 .skip)) (.tidy [0, 2] z (z + 0)))
 (.seq (.reg [⟨(some 13), (Op.move (Operand.tmp 2)), none, ann0⟩,
  ⟨(some 14), (Op.move (Operand.tmp 0)), none, ann0⟩,
  ⟨(some 15), (Op.convert 148 5 (Operand.tmp 14)), none, ann0⟩,
  ⟨(some 16), (Op.index 9 (Operand.const (Value.string ⟨#[0, 1, 2, 2, 3, 3, 3, 3, 4, 4, 4, 4, 4, 4, 4, 4, 5, 5, 5, 5, 5, 5, 5, 5, 5, 5, 5, 5, 5, 5, 5, 5, 6, 6, 6, 6, 6, 6, 6, 6, 6, 6, 6, 6, 6, 6, 6, 6, 6, 6, 6, 6, 6, 6, 6, 6, 6, 6, 6, 6, 6, 6, 6, 6, 7, 7, 7, 7, 7, 7, 7, 7, 7, 7, 7, 7, 7, 7, 7, 7, 7, 7, 7, 7, 7, 7, 7, 7, 7, 7, 7, 7, 7, 7, 7, 7, 7, 7, 7, 7, 7, 7, 7, 7, 7, 7, 7, 7, 7, 7, 7, 7, 7, 7, 7, 7, 7, 7, 7, 7, 7, 7, 7, 7, 7, 7, 7, 7, 8, 8, 8, 8, 8, 8, 8, 8, 8, 8, 8, 8, 8, 8, 8, 8, 8, 8, 8, 8, 8, 8, 8, 8, 8, 8, 8, 8, 8, 8, 8, 8, 8, 8, 8, 8, 8, 8, 8, 8, 8, 8, 8, 8, 8, 8, 8, 8, 8, 8, 8, 8, 8, 8, 8, 8, 8, 8, 8, 8, 8, 8, 8, 8, 8, 8, 8, 8, 8, 8, 8, 8, 8, 8, 8, 8, 8, 8, 8, 8, 8, 8, 8, 8, 8, 8, 8, 8, 8, 8, 8, 8, 8, 8, 8, 8, 8, 8, 8, 8, 8, 8, 8, 8, 8, 8, 8, 8, 8, 8, 8, 8, 8, 8, 8, 8, 8, 8, 8, 8, 8, 8, 8, 8, 8, 8, 8, 8]⟩)) (Operand.tmp 15)), none, ann0⟩,
  ⟨(some 17), (Op.convert 5 3 (Operand.tmp 16)), none, ann0⟩,
  ⟨(some 18), (Op.binOp BinOp.add 3 (Operand.tmp 13) (Operand.tmp 17) 3), none, ann0⟩,
  ⟨(some 2), (Op.assign (Operand.tmp 18)), none, ann0⟩] none)
 .ret))))⟩
theorem F93 (z : Nat) : FOk Try.prog 93 (s93 z) := by unfold FOk; kernel_rfl
def s94 (z : Nat) : SFn := ⟨1, 25, [(ResultVar.tmp 2)],
 (.seq (.reg [⟨(some 2), (Op.assign (Operand.const (Value.int IntKind.i64 0))), none, ann0⟩] none)
 (.seq (.post (.seq (.reg [⟨(some 3), (Op.move (Operand.tmp 0)), none, ann0⟩,
  ⟨(some 4), (Op.binOp BinOp.geq 150 (Operand.tmp 3) (Operand.const (Value.int IntKind.u64 4294967296)) 150), none, ann0⟩] none)
 (.cond (Operand.tmp 4) (.seq (.reg [⟨(some 5), (Op.move (Operand.tmp 0)), none, ann0⟩,
  ⟨(some 6), (Op.binOp BinOp.shr 150 (Operand.tmp 5) (Operand.const (Value.int IntKind.u64 32)) 110), none, ann0⟩,
  ⟨(some 0), (Op.assign (Operand.tmp 6)), none, ann0⟩] none)
 (.reg [⟨(some 2), (Op.assign (Operand.const (Value.int IntKind.i64 32))), none, ann0⟩] none))
 .skip)) (.tidy [0, 2] z (z + 0)))
 (.seq (.post (.seq (.reg [⟨(some 7), (Op.move (Operand.tmp 0)), none, ann0⟩,
  ⟨(some 8), (Op.binOp BinOp.geq 150 (Operand.tmp 7) (Operand.const (Value.int IntKind.u64 65536)) 150), none, ann0⟩] none)
 (.cond (Operand.tmp 8) (.seq (.reg [⟨(some 9), (Op.move (Operand.tmp 0)), none, ann0⟩,
  ⟨(some 10), (Op.binOp BinOp.shr 150 (Operand.tmp 9) (Operand.const (Value.int IntKind.u64 16)) 110), none, ann0⟩,
  ⟨(some 0), (Op.assign (Operand.tmp 10)), none, ann0⟩] none)
 (.reg [⟨(some 11), (Op.move (Operand.tmp 2)), none, ann0⟩,
  ⟨(some 12), (Op.binOp BinOp.add 3 (Operand.tmp 11) (Operand.const (Value.int IntKind.i64 16)) 3), none, ann0⟩,
  ⟨(some 2), (Op.assign (Operand.tmp 12)), none, ann0⟩] none))
 .skip)) (.tidy [0, 2] z (z + 0)))
 (.seq (.post (.seq (.reg [⟨(some 13), (Op.move (Operand.tmp 0)), none, ann0⟩,
  ⟨(some 14), (Op.binOp BinOp.geq 150 (Operand.tmp 13) (Operand.const (Value.int IntKind.u64 256)) 150), none, ann0⟩] none)
 (.cond (Operand.tmp 14) (.seq (.reg [⟨(some 15), (Op.move (Operand.tmp 0)), none, ann0⟩,
  ⟨(some 16), (Op.binOp BinOp.shr 150 (Operand.tmp 15) (Operand.const (Value.int IntKind.u64 8)) 110), none, ann0⟩,
  ⟨(some 0), (Op.assign (Operand.tmp 16)), none, ann0⟩] none)
 (.reg [⟨(some 17), (Op.move (Operand.tmp 2)), none, ann0⟩,
  ⟨(some 18), (Op.binOp BinOp.add 3 (Operand.tmp 17) (Operand.const (Value.int IntKind.i64 8)) 3), none, ann0⟩,
  ⟨(some 2), (Op.assign (Operand.tmp 18)), none, ann0⟩] none))
 .skip)) (.tidy [0, 2] z (z + 0)))
 (.seq (.reg [⟨(some 19), (Op.move (Operand.tmp 2)), none, ann0⟩,
  ⟨(some 20), (Op.move (Operand.tmp 0)), none, ann0⟩,
  ⟨(some 21), (Op.convert 150 5 (Operand.tmp 20)), none, ann0⟩,
  ⟨(some 22), (Op.index 9 (Operand.const (Value.string ⟨#[0, 1, 2, 2, 3, 3, 3, 3, 4, 4, 4, 4, 4, 4, 4, 4, 5, 5, 5, 5, 5, 5, 5, 5, 5, 5, 5, 5, 5, 5, 5, 5, 6, 6, 6, 6, 6, 6, 6, 6, 6, 6, 6, 6, 6, 6, 6, 6, 6, 6, 6, 6, 6, 6, 6, 6, 6, 6, 6, 6, 6, 6, 6, 6, 7, 7, 7, 7, 7, 7, 7, 7, 7, 7, 7, 7, 7, 7, 7, 7, 7, 7, 7, 7, 7, 7, 7, 7, 7, 7, 7, 7, 7, 7, 7, 7, 7, 7, 7, 7, 7, 7, 7, 7, 7, 7, 7, 7, 7, 7, 7, 7, 7, 7, 7, 7, 7, 7, 7, 7, 7, 7, 7, 7, 7, 7, 7, 7, 8, 8, 8, 8, 8, 8, 8, 8, 8, 8, 8, 8, 8, 8, 8, 8, 8, 8, 8, 8, 8, 8, 8, 8, 8, 8, 8, 8, 8, 8, 8, 8, 8, 8, 8, 8, 8, 8, 8, 8, 8, 8, 8, 8, 8, 8, 8, 8, 8, 8, 8, 8, 8, 8, 8, 8, 8, 8, 8, 8, 8, 8, 8, 8, 8, 8, 8, 8, 8, 8, 8, 8, 8, 8, 8, 8, 8, 8, 8, 8, 8, 8, 8, 8, 8, 8, 8, 8, 8, 8, 8, 8, 8, 8, 8, 8, 8, 8, 8, 8, 8, 8, 8, 8, 8, 8, 8, 8, 8, 8, 8, 8, 8, 8, 8, 8, 8, 8, 8, 8, 8, 8, 8, 8, 8, 8, 8, 8]⟩)) (Operand.tmp 21)), none, ann0⟩,
  ⟨(some 23), (Op.convert 5 3 (Operand.tmp 22)), none, ann0⟩,
  ⟨(some 24), (Op.binOp BinOp.add 3 (Operand.tmp 19) (Operand.tmp 23) 3), none, ann0⟩,
  ⟨(some 2), (Op.assign (Operand.tmp 24)), none, ann0⟩] none)
 .ret)))))⟩
theorem F94 (z : Nat) : FOk Try.prog 94 (s94 z) := by unfold FOk; kernel_rfl
def s77 (z : Nat) : SFn := ⟨1, 8, [(ResultVar.tmp 2)],
 (.seq (.reg [⟨(some 2), (Op.assign (Operand.const (Value.int IntKind.i64 0))), none, ann0⟩] none)
 (.seq (.post (.cond (Operand.const (Value.bool false)) (.seq (.reg [⟨(some 3), (Op.move (Operand.tmp 0)), none, ann0⟩,
  ⟨(some 4), (Op.convert 110 148 (Operand.tmp 3)), none, ann0⟩,
  ⟨(some 5), (Op.call { callee := (Callee.value (Operand.func 93)), args := #[(Operand.tmp 4)], argTypes := #[148] }), none, ann0⟩,
  ⟨(some 2), (Op.assign (Operand.tmp 5)), none, ann0⟩] none)
 .ret)
 .skip) (.tidy [0] z (z + 0)))
 (.seq (.reg [⟨(some 6), (Op.move (Operand.tmp 0)), none, ann0⟩,
  ⟨(some 7), (Op.call { callee := (Callee.value (Operand.func 94)), args := #[(Operand.tmp 6)], argTypes := #[150] }), none, ann0⟩,
  ⟨(some 2), (Op.assign (Operand.tmp 7)), none, ann0⟩] none)
 .ret)))⟩
theorem F77 (z : Nat) : FOk Try.prog 77 (s77 z) := by unfold FOk; kernel_rfl
def s100 (z : Nat) : SFn := ⟨1, 7, [(ResultVar.tmp 2)],
 (.seq (.reg [⟨(some 2), (Op.assign (Operand.const (Value.int IntKind.u64 0))), none, ann0⟩] none)
 (.seq (.reg [⟨(some 3), (Op.move (Operand.tmp 0)), none, ann0⟩,
  ⟨(some 4), (Op.convert 3 110 (Operand.tmp 3)), none, ann0⟩,
  ⟨(some 5), (Op.call { callee := (Callee.value (Operand.func 77)), args := #[(Operand.tmp 4)], argTypes := #[110] }), none, ann0⟩,
  ⟨(some 6), (Op.binOp BinOp.shl 110 (Operand.const (Value.int IntKind.u64 1)) (Operand.tmp 5) 3), none, ann0⟩,
  ⟨(some 2), (Op.assign (Operand.tmp 6)), none, ann0⟩] none)
 .ret))⟩
theorem F100 (z : Nat) : FOk Try.prog 100 (s100 z) := by unfold FOk; kernel_rfl
def s101 (z : Nat) : SFn := ⟨1, 33, [(ResultVar.tmp 2)],
 (.seq (.reg [⟨(some 2), (Op.assign (Operand.const (Value.int IntKind.u64 0))), none, ann0⟩] none)
 (.seq (.post (.reg [⟨(some 3), (Op.move (Operand.tmp 0)), none, ann0⟩,
  ⟨(some 4), (Op.nilCheck (Operand.tmp 3)), none, ann0⟩,
  ⟨(some 5), (Op.load 157 (Operand.tmp 4)), none, ann0⟩,
  ⟨(some 6), (Op.move (Operand.tmp 0)), none, ann0⟩,
  ⟨(some 7), (Op.nilCheck (Operand.tmp 6)), none, ann0⟩,
  ⟨(some 8), (Op.load 157 (Operand.tmp 7)), none, ann0⟩,
  ⟨(some 9), (Op.binOp BinOp.shl 157 (Operand.tmp 8) (Operand.const (Value.int IntKind.u64 13)) 110), none, ann0⟩,
  ⟨(some 10), (Op.binOp BinOp.xor 157 (Operand.tmp 5) (Operand.tmp 9) 157), none, ann0⟩,
  ⟨(some 11), (Op.nilCheck (Operand.tmp 3)), none, ann0⟩,
  ⟨none, (Op.store 157 (Operand.tmp 11) (Operand.tmp 10)), none, ann0⟩] (some [0, 1, 3, 0, 8, 24, 56, 127, 255, 511])) (.tidy [0] z (z + 0)))
 (.seq (.post (.reg [⟨(some 12), (Op.move (Operand.tmp 0)), none, ann0⟩,
  ⟨(some 13), (Op.nilCheck (Operand.tmp 12)), none, ann0⟩,
  ⟨(some 14), (Op.load 157 (Operand.tmp 13)), none, ann0⟩,
  ⟨(some 15), (Op.move (Operand.tmp 0)), none, ann0⟩,
  ⟨(some 16), (Op.nilCheck (Operand.tmp 15)), none, ann0⟩,
  ⟨(some 17), (Op.load 157 (Operand.tmp 16)), none, ann0⟩,
  ⟨(some 18), (Op.binOp BinOp.shr 157 (Operand.tmp 17) (Operand.const (Value.int IntKind.u64 7)) 110), none, ann0⟩,
  ⟨(some 19), (Op.binOp BinOp.xor 157 (Operand.tmp 14) (Operand.tmp 18) 157), none, ann0⟩,
  ⟨(some 20), (Op.nilCheck (Operand.tmp 12)), none, ann0⟩,
  ⟨none, (Op.store 157 (Operand.tmp 20) (Operand.tmp 19)), none, ann0⟩] (some [0, 1, 3, 0, 8, 24, 56, 127, 255, 511])) (.tidy [0] z (z + 0)))
 (.seq (.post (.reg [⟨(some 21), (Op.move (Operand.tmp 0)), none, ann0⟩,
  ⟨(some 22), (Op.nilCheck (Operand.tmp 21)), none, ann0⟩,
  ⟨(some 23), (Op.load 157 (Operand.tmp 22)), none, ann0⟩,
  ⟨(some 24), (Op.move (Operand.tmp 0)), none, ann0⟩,
  ⟨(some 25), (Op.nilCheck (Operand.tmp 24)), none, ann0⟩,
  ⟨(some 26), (Op.load 157 (Operand.tmp 25)), none, ann0⟩,
  ⟨(some 27), (Op.binOp BinOp.shl 157 (Operand.tmp 26) (Operand.const (Value.int IntKind.u64 17)) 110), none, ann0⟩,
  ⟨(some 28), (Op.binOp BinOp.xor 157 (Operand.tmp 23) (Operand.tmp 27) 157), none, ann0⟩,
  ⟨(some 29), (Op.nilCheck (Operand.tmp 21)), none, ann0⟩,
  ⟨none, (Op.store 157 (Operand.tmp 29) (Operand.tmp 28)), none, ann0⟩] (some [0, 1, 3, 0, 8, 24, 56, 127, 255, 511])) (.tidy [0] z (z + 0)))
 (.seq (.reg [⟨(some 30), (Op.move (Operand.tmp 0)), none, ann0⟩,
  ⟨(some 31), (Op.nilCheck (Operand.tmp 30)), none, ann0⟩,
  ⟨(some 32), (Op.load 157 (Operand.tmp 31)), none, ann0⟩,
  ⟨(some 2), (Op.assign (Operand.tmp 32)), none, ann0⟩] none)
 .ret)))))⟩
theorem F101 (z : Nat) : FOk Try.prog 101 (s101 z) := by unfold FOk; kernel_rfl
def c104_2 (z : Nat) : SC := .post (.seq (.post (.seq (.post (.reg [⟨(some 18), (Op.move (Operand.tmp 9)), none, ann0⟩,
  ⟨(some 19), (Op.move (Operand.tmp 1)), none, ann0⟩,
  ⟨(some 20), (Op.binOp BinOp.gtr 3 (Operand.tmp 18) (Operand.tmp 19) 3), none, ann0⟩,
  ⟨(some 21), (Op.move (Operand.tmp 20)), none, ann0⟩,
  ⟨(some 22), (Op.move (Operand.tmp 3)), (some (21, true)), ann0⟩,
  ⟨(some 23), (Op.move (Operand.tmp 0)), (some (21, true)), ann0⟩,
  ⟨(some 24), (Op.move (Operand.tmp 9)), (some (21, true)), ann0⟩,
  ⟨(some 25), (Op.indexAddr 22 (Operand.tmp 23) (Operand.tmp 24)), (some (21, true)), ann0⟩,
  ⟨(some 26), (Op.load 26 (Operand.tmp 25)), (some (21, true)), ann0⟩,
  ⟨(some 27), (Op.move (Operand.tmp 0)), (some (21, true)), ann0⟩,
  ⟨(some 28), (Op.move (Operand.tmp 9)), (some (21, true)), ann0⟩,
  ⟨(some 29), (Op.binOp BinOp.sub 3 (Operand.tmp 28) (Operand.const (Value.int IntKind.i64 1)) 3), (some (21, true)), ann0⟩,
  ⟨(some 30), (Op.indexAddr 22 (Operand.tmp 27) (Operand.tmp 29)), (some (21, true)), ann0⟩,
  ⟨(some 31), (Op.load 26 (Operand.tmp 30)), (some (21, true)), ann0⟩,
  ⟨(some 32), (Op.call { callee := (Callee.value (Operand.tmp 22)), args := #[(Operand.tmp 26), (Operand.tmp 31)], argTypes := #[26, 26] }), (some (21, true)), ann0⟩,
  ⟨(some 33), (Op.binOp BinOp.lss 3 (Operand.tmp 32) (Operand.const (Value.int IntKind.i64 0)) 3), (some (21, true)), ann0⟩,
  ⟨(some 34), (Op.pick (Operand.tmp 21) (Operand.tmp 33) (Operand.const (Value.bool false))), none, ann0⟩] (some [0, 0, 3, 7, 15, 15, 15, 111, 239, 15, 15, 1039, 3599, 7695, 16383, 32767, 65535])) (.tidy [0, 1, 2, 3, 8, 9, 34] z (z + 0)))
 (.cond (Operand.tmp 34) .skip
 (.exit 2))) (.tidy [0, 1, 2, 3, 8, 9] z (z + 0)))
 (.seq (.post (.block 3 (.reg [⟨(some 37), (Op.move (Operand.tmp 0)), none, ann0⟩,
  ⟨(some 38), (Op.move (Operand.tmp 9)), none, ann0⟩,
  ⟨(some 39), (Op.move (Operand.tmp 0)), none, ann0⟩,
  ⟨(some 40), (Op.move (Operand.tmp 9)), none, ann0⟩,
  ⟨(some 41), (Op.binOp BinOp.sub 3 (Operand.tmp 40) (Operand.const (Value.int IntKind.i64 1)) 3), none, ann0⟩,
  ⟨(some 42), (Op.move (Operand.tmp 0)), none, ann0⟩,
  ⟨(some 43), (Op.move (Operand.tmp 9)), none, ann0⟩,
  ⟨(some 44), (Op.binOp BinOp.sub 3 (Operand.tmp 43) (Operand.const (Value.int IntKind.i64 1)) 3), none, ann0⟩,
  ⟨(some 45), (Op.indexAddr 22 (Operand.tmp 42) (Operand.tmp 44)), none, ann0⟩,
  ⟨(some 46), (Op.load 26 (Operand.tmp 45)), none, ann0⟩,
  ⟨(some 47), (Op.move (Operand.tmp 0)), none, ann0⟩,
  ⟨(some 48), (Op.move (Operand.tmp 9)), none, ann0⟩,
  ⟨(some 49), (Op.indexAddr 22 (Operand.tmp 47) (Operand.tmp 48)), none, ann0⟩,
  ⟨(some 50), (Op.load 26 (Operand.tmp 49)), none, ann0⟩,
  ⟨(some 51), (Op.indexAddr 22 (Operand.tmp 37) (Operand.tmp 38)), none, ann0⟩,
  ⟨none, (Op.store 26 (Operand.tmp 51) (Operand.tmp 46)), none, ann0⟩,
  ⟨(some 52), (Op.indexAddr 22 (Operand.tmp 39) (Operand.tmp 41)), none, ann0⟩,
  ⟨none, (Op.store 26 (Operand.tmp 52) (Operand.tmp 50)), none, ann0⟩] (some [0, 0, 0, 0, 8, 0, 0, 64, 224, 480, 0, 0, 3072, 7168, 16355, 32739, 65535, 131071]))) (.tidy [0, 1, 2, 3, 8, 9] z (z + 0)))
 (.reg [⟨(some 35), (Op.move (Operand.tmp 9)), none, ann0⟩,
  ⟨(some 36), (Op.binOp BinOp.sub 3 (Operand.tmp 35) (Operand.const (Value.int IntKind.i64 1)) 3), none, ann0⟩,
  ⟨(some 9), (Op.assign (Operand.tmp 36)), none, ann0⟩] none))) (.tidy [0, 1, 2, 3, 8, 9] z (z + 0))
def s104_2 (z : Nat) : SC := c104_2 z
theorem e104_2 {C : Pg} {z : Nat} {st : St} {ks : List Fr} {K : Ex → St → Prop} : wpk C (s104_2 z) st ks K ↔ wpk C (c104_2 z) st ks K := Iff.rfl
def c104_1 (z : Nat) : SC := .post (.seq (.post (.seq (.reg [⟨(some 12), (Op.move (Operand.tmp 8)), none, ann0⟩,
  ⟨(some 13), (Op.move (Operand.tmp 2)), none, ann0⟩,
  ⟨(some 14), (Op.binOp BinOp.lss 3 (Operand.tmp 12) (Operand.tmp 13) 3), none, ann0⟩] none)
 (.cond (Operand.tmp 14) .skip
 (.exit 0))) (.tidy [0, 1, 2, 3, 8] z (z + 0)))
 (.seq (.post (.block 1 (.seq (.reg [⟨(some 17), (Op.move (Operand.tmp 8)), none, ann0⟩,
  ⟨(some 9), (Op.assign (Operand.tmp 17)), none, ann0⟩] none)
 (.post (.block 2 (.pre (.tidy [0, 1, 2, 3, 8, 9] z (z + 0)) (.loop (s104_2 z)))) (.tidy [0, 1, 2, 3, 8] z (z + 0))))) (.tidy [0, 1, 2, 3, 8] z (z + 0)))
 (.reg [⟨(some 15), (Op.move (Operand.tmp 8)), none, ann0⟩,
  ⟨(some 16), (Op.binOp BinOp.add 3 (Operand.tmp 15) (Operand.const (Value.int IntKind.i64 1)) 3), none, ann0⟩,
  ⟨(some 8), (Op.assign (Operand.tmp 16)), none, ann0⟩] none))) (.tidy [0, 1, 2, 3, 8] z (z + 0))
def s104_1 (z : Nat) : SC := c104_1 z
theorem e104_1 {C : Pg} {z : Nat} {st : St} {ks : List Fr} {K : Ex → St → Prop} : wpk C (s104_1 z) st ks K ↔ wpk C (c104_1 z) st ks K := Iff.rfl
def s104 (z : Nat) : SFn := ⟨4, 53, [],
 (.seq (.reg [⟨(some 10), (Op.move (Operand.tmp 1)), none, ann0⟩,
  ⟨(some 11), (Op.binOp BinOp.add 3 (Operand.tmp 10) (Operand.const (Value.int IntKind.i64 1)) 3), none, ann0⟩,
  ⟨(some 8), (Op.assign (Operand.tmp 11)), none, ann0⟩] none)
 (.post (.block 0 (.pre (.tidy [0, 1, 2, 3, 8] z (z + 0)) (.loop (s104_1 z)))) (.tidy [] z (z + 0))))⟩
theorem F104 (z : Nat) : FOk Try.prog 104 (s104 z) := by unfold FOk; kernel_rfl
def c113_1 (z : Nat) : SC := .post (.block 1 (.seq (.reg [⟨(some 13), (Op.move (Operand.tmp 10)), none, ann0⟩,
  ⟨(some 14), (Op.binOp BinOp.mul 3 (Operand.const (Value.int IntKind.i64 2)) (Operand.tmp 13) 3), none, ann0⟩,
  ⟨(some 15), (Op.binOp BinOp.add 3 (Operand.tmp 14) (Operand.const (Value.int IntKind.i64 1)) 3), none, ann0⟩,
  ⟨(some 11), (Op.assign (Operand.tmp 15)), none, ann0⟩] none)
 (.seq (.seq (.post (.reg [⟨(some 16), (Op.move (Operand.tmp 11)), none, ann0⟩,
  ⟨(some 17), (Op.move (Operand.tmp 2)), none, ann0⟩,
  ⟨(some 18), (Op.binOp BinOp.geq 3 (Operand.tmp 16) (Operand.tmp 17) 3), none, ann0⟩] none) (.tidy [0, 2, 3, 4, 10, 11, 18] z (z + 0)))
 (.cond (Operand.tmp 18) (.exit 0)
 .skip))
 (.seq (.post (.seq (.post (.reg [⟨(some 19), (Op.move (Operand.tmp 11)), none, ann0⟩,
  ⟨(some 20), (Op.binOp BinOp.add 3 (Operand.tmp 19) (Operand.const (Value.int IntKind.i64 1)) 3), none, ann0⟩,
  ⟨(some 21), (Op.move (Operand.tmp 2)), none, ann0⟩,
  ⟨(some 22), (Op.binOp BinOp.lss 3 (Operand.tmp 20) (Operand.tmp 21) 3), none, ann0⟩,
  ⟨(some 23), (Op.move (Operand.tmp 22)), none, ann0⟩,
  ⟨(some 24), (Op.move (Operand.tmp 4)), (some (23, true)), ann0⟩,
  ⟨(some 25), (Op.move (Operand.tmp 0)), (some (23, true)), ann0⟩,
  ⟨(some 26), (Op.move (Operand.tmp 3)), (some (23, true)), ann0⟩,
  ⟨(some 27), (Op.move (Operand.tmp 11)), (some (23, true)), ann0⟩,
  ⟨(some 28), (Op.binOp BinOp.add 3 (Operand.tmp 26) (Operand.tmp 27) 3), (some (23, true)), ann0⟩,
  ⟨(some 29), (Op.indexAddr 22 (Operand.tmp 25) (Operand.tmp 28)), (some (23, true)), ann0⟩,
  ⟨(some 30), (Op.load 26 (Operand.tmp 29)), (some (23, true)), ann0⟩,
  ⟨(some 31), (Op.move (Operand.tmp 0)), (some (23, true)), ann0⟩,
  ⟨(some 32), (Op.move (Operand.tmp 3)), (some (23, true)), ann0⟩,
  ⟨(some 33), (Op.move (Operand.tmp 11)), (some (23, true)), ann0⟩,
  ⟨(some 34), (Op.binOp BinOp.add 3 (Operand.tmp 32) (Operand.tmp 33) 3), (some (23, true)), ann0⟩,
  ⟨(some 35), (Op.binOp BinOp.add 3 (Operand.tmp 34) (Operand.const (Value.int IntKind.i64 1)) 3), (some (23, true)), ann0⟩,
  ⟨(some 36), (Op.indexAddr 22 (Operand.tmp 31) (Operand.tmp 35)), (some (23, true)), ann0⟩,
  ⟨(some 37), (Op.load 26 (Operand.tmp 36)), (some (23, true)), ann0⟩,
  ⟨(some 38), (Op.call { callee := (Callee.value (Operand.tmp 24)), args := #[(Operand.tmp 30), (Operand.tmp 37)], argTypes := #[26, 26] }), (some (23, true)), ann0⟩,
  ⟨(some 39), (Op.binOp BinOp.lss 3 (Operand.tmp 38) (Operand.const (Value.int IntKind.i64 0)) 3), (some (23, true)), ann0⟩,
  ⟨(some 40), (Op.pick (Operand.tmp 23) (Operand.tmp 39) (Operand.const (Value.bool false))), none, ann0⟩] (some [0, 1, 0, 7, 15, 31, 31, 31, 31, 415, 991, 2015, 31, 31, 31, 24607, 57375, 127007, 258079, 524287, 1048575, 2097151])) (.tidy [0, 2, 3, 4, 10, 11, 40] z (z + 0)))
 (.cond (Operand.tmp 40) (.reg [⟨(some 41), (Op.move (Operand.tmp 11)), none, ann0⟩,
  ⟨(some 42), (Op.binOp BinOp.add 3 (Operand.tmp 41) (Operand.const (Value.int IntKind.i64 1)) 3), none, ann0⟩,
  ⟨(some 11), (Op.assign (Operand.tmp 42)), none, ann0⟩] none)
 .skip)) (.tidy [0, 2, 3, 4, 10, 11] z (z + 0)))
 (.seq (.post (.seq (.post (.reg [⟨(some 43), (Op.move (Operand.tmp 4)), none, ann0⟩,
  ⟨(some 44), (Op.move (Operand.tmp 0)), none, ann0⟩,
  ⟨(some 45), (Op.move (Operand.tmp 3)), none, ann0⟩,
  ⟨(some 46), (Op.move (Operand.tmp 10)), none, ann0⟩,
  ⟨(some 47), (Op.binOp BinOp.add 3 (Operand.tmp 45) (Operand.tmp 46) 3), none, ann0⟩,
  ⟨(some 48), (Op.indexAddr 22 (Operand.tmp 44) (Operand.tmp 47)), none, ann0⟩,
  ⟨(some 49), (Op.load 26 (Operand.tmp 48)), none, ann0⟩,
  ⟨(some 50), (Op.move (Operand.tmp 0)), none, ann0⟩,
  ⟨(some 51), (Op.move (Operand.tmp 3)), none, ann0⟩,
  ⟨(some 52), (Op.move (Operand.tmp 11)), none, ann0⟩,
  ⟨(some 53), (Op.binOp BinOp.add 3 (Operand.tmp 51) (Operand.tmp 52) 3), none, ann0⟩,
  ⟨(some 54), (Op.indexAddr 22 (Operand.tmp 50) (Operand.tmp 53)), none, ann0⟩,
  ⟨(some 55), (Op.load 26 (Operand.tmp 54)), none, ann0⟩,
  ⟨(some 56), (Op.call { callee := (Callee.value (Operand.tmp 43)), args := #[(Operand.tmp 49), (Operand.tmp 55)], argTypes := #[26, 26] }), none, ann0⟩,
  ⟨(some 57), (Op.binOp BinOp.lss 3 (Operand.tmp 56) (Operand.const (Value.int IntKind.i64 0)) 3), none, ann0⟩,
  ⟨(some 58), (Op.unOp UnOp.not 4 (Operand.tmp 57)), none, ann0⟩] (some [0, 0, 0, 0, 12, 30, 62, 0, 0, 0, 768, 1920, 3968, 8191, 16383, 32767])) (.tidy [0, 2, 3, 4, 10, 11, 58] z (z + 0)))
 (.cond (Operand.tmp 58) .ret
 .skip)) (.tidy [0, 2, 3, 4, 10, 11] z (z + 0)))
 (.seq (.post (.reg [⟨(some 59), (Op.move (Operand.tmp 0)), none, ann0⟩,
  ⟨(some 60), (Op.move (Operand.tmp 3)), none, ann0⟩,
  ⟨(some 61), (Op.move (Operand.tmp 10)), none, ann0⟩,
  ⟨(some 62), (Op.binOp BinOp.add 3 (Operand.tmp 60) (Operand.tmp 61) 3), none, ann0⟩,
  ⟨(some 63), (Op.move (Operand.tmp 0)), none, ann0⟩,
  ⟨(some 64), (Op.move (Operand.tmp 3)), none, ann0⟩,
  ⟨(some 65), (Op.move (Operand.tmp 11)), none, ann0⟩,
  ⟨(some 66), (Op.binOp BinOp.add 3 (Operand.tmp 64) (Operand.tmp 65) 3), none, ann0⟩,
  ⟨(some 67), (Op.move (Operand.tmp 0)), none, ann0⟩,
  ⟨(some 68), (Op.move (Operand.tmp 3)), none, ann0⟩,
  ⟨(some 69), (Op.move (Operand.tmp 11)), none, ann0⟩,
  ⟨(some 70), (Op.binOp BinOp.add 3 (Operand.tmp 68) (Operand.tmp 69) 3), none, ann0⟩,
  ⟨(some 71), (Op.indexAddr 22 (Operand.tmp 67) (Operand.tmp 70)), none, ann0⟩,
  ⟨(some 72), (Op.load 26 (Operand.tmp 71)), none, ann0⟩,
  ⟨(some 73), (Op.move (Operand.tmp 0)), none, ann0⟩,
  ⟨(some 74), (Op.move (Operand.tmp 3)), none, ann0⟩,
  ⟨(some 75), (Op.move (Operand.tmp 10)), none, ann0⟩,
  ⟨(some 76), (Op.binOp BinOp.add 3 (Operand.tmp 74) (Operand.tmp 75) 3), none, ann0⟩,
  ⟨(some 77), (Op.indexAddr 22 (Operand.tmp 73) (Operand.tmp 76)), none, ann0⟩,
  ⟨(some 78), (Op.load 26 (Operand.tmp 77)), none, ann0⟩,
  ⟨(some 79), (Op.indexAddr 22 (Operand.tmp 59) (Operand.tmp 62)), none, ann0⟩,
  ⟨none, (Op.store 26 (Operand.tmp 79) (Operand.tmp 72)), none, ann0⟩,
  ⟨(some 80), (Op.indexAddr 22 (Operand.tmp 63) (Operand.tmp 66)), none, ann0⟩,
  ⟨none, (Op.store 26 (Operand.tmp 80) (Operand.tmp 78)), none, ann0⟩] (some [0, 0, 0, 6, 0, 0, 0, 96, 0, 0, 0, 1536, 3840, 7936, 0, 0, 0, 98304, 245760, 507904, 1048335, 2096911, 4194303, 8388607])) (.tidy [0, 2, 3, 4, 11] z (z + 0)))
 (.reg [⟨(some 81), (Op.move (Operand.tmp 11)), none, ann0⟩,
  ⟨(some 10), (Op.assign (Operand.tmp 81)), none, ann0⟩] none))))))) (.tidy [0, 2, 3, 4, 10] z (z + 0))
def s113_1 (z : Nat) : SC := c113_1 z
theorem e113_1 {C : Pg} {z : Nat} {st : St} {ks : List Fr} {K : Ex → St → Prop} : wpk C (s113_1 z) st ks K ↔ wpk C (c113_1 z) st ks K := Iff.rfl
def s113 (z : Nat) : SFn := ⟨5, 82, [],
 (.seq (.reg [⟨(some 12), (Op.move (Operand.tmp 1)), none, ann0⟩,
  ⟨(some 10), (Op.assign (Operand.tmp 12)), none, ann0⟩] none)
 (.post (.block 0 (.pre (.tidy [0, 2, 3, 4, 10] z (z + 0)) (.loop (s113_1 z)))) (.tidy [] z (z + 0))))⟩
theorem F113 (z : Nat) : FOk Try.prog 113 (s113 z) := by unfold FOk; kernel_rfl
def c105_1 (z : Nat) : SC := .post (.seq (.seq (.reg [⟨(some 20), (Op.move (Operand.tmp 11)), none, ann0⟩,
  ⟨(some 21), (Op.binOp BinOp.geq 3 (Operand.tmp 20) (Operand.const (Value.int IntKind.i64 0)) 3), none, ann0⟩] none)
 (.cond (Operand.tmp 21) .skip
 (.exit 0)))
 (.seq (.post (.block 1 (.reg [⟨(some 24), (Op.move (Operand.tmp 0)), none, ann0⟩,
  ⟨(some 25), (Op.move (Operand.tmp 11)), none, ann0⟩,
  ⟨(some 26), (Op.move (Operand.tmp 10)), none, ann0⟩,
  ⟨(some 27), (Op.move (Operand.tmp 8)), none, ann0⟩,
  ⟨(some 28), (Op.move (Operand.tmp 3)), none, ann0⟩,
  ⟨(some 29), (Op.call { callee := (Callee.value (Operand.func 113)), args := #[(Operand.tmp 24), (Operand.tmp 25), (Operand.tmp 26), (Operand.tmp 27), (Operand.tmp 28)], argTypes := #[22, 3, 3, 3, 24] }), none, ann0⟩] none)) (.tidy [0, 3, 8, 9, 10, 11] z (z + 0)))
 (.reg [⟨(some 22), (Op.move (Operand.tmp 11)), none, ann0⟩,
  ⟨(some 23), (Op.binOp BinOp.sub 3 (Operand.tmp 22) (Operand.const (Value.int IntKind.i64 1)) 3), none, ann0⟩,
  ⟨(some 11), (Op.assign (Operand.tmp 23)), none, ann0⟩] none))) (.tidy [0, 3, 8, 9, 10, 11] z (z + 0))
def s105_1 (z : Nat) : SC := c105_1 z
theorem e105_1 {C : Pg} {z : Nat} {st : St} {ks : List Fr} {K : Ex → St → Prop} : wpk C (s105_1 z) st ks K ↔ wpk C (c105_1 z) st ks K := Iff.rfl
def c105_2 (z : Nat) : SC := .post (.seq (.seq (.reg [⟨(some 32), (Op.move (Operand.tmp 12)), none, ann0⟩,
  ⟨(some 33), (Op.binOp BinOp.geq 3 (Operand.tmp 32) (Operand.const (Value.int IntKind.i64 0)) 3), none, ann0⟩] none)
 (.cond (Operand.tmp 33) .skip
 (.exit 2)))
 (.seq (.post (.block 3 (.seq (.post (.reg [⟨(some 36), (Op.move (Operand.tmp 0)), none, ann0⟩,
  ⟨(some 37), (Op.move (Operand.tmp 8)), none, ann0⟩,
  ⟨(some 38), (Op.move (Operand.tmp 0)), none, ann0⟩,
  ⟨(some 39), (Op.move (Operand.tmp 8)), none, ann0⟩,
  ⟨(some 40), (Op.move (Operand.tmp 12)), none, ann0⟩,
  ⟨(some 41), (Op.binOp BinOp.add 3 (Operand.tmp 39) (Operand.tmp 40) 3), none, ann0⟩,
  ⟨(some 42), (Op.move (Operand.tmp 0)), none, ann0⟩,
  ⟨(some 43), (Op.move (Operand.tmp 8)), none, ann0⟩,
  ⟨(some 44), (Op.move (Operand.tmp 12)), none, ann0⟩,
  ⟨(some 45), (Op.binOp BinOp.add 3 (Operand.tmp 43) (Operand.tmp 44) 3), none, ann0⟩,
  ⟨(some 46), (Op.indexAddr 22 (Operand.tmp 42) (Operand.tmp 45)), none, ann0⟩,
  ⟨(some 47), (Op.load 26 (Operand.tmp 46)), none, ann0⟩,
  ⟨(some 48), (Op.move (Operand.tmp 0)), none, ann0⟩,
  ⟨(some 49), (Op.move (Operand.tmp 8)), none, ann0⟩,
  ⟨(some 50), (Op.indexAddr 22 (Operand.tmp 48) (Operand.tmp 49)), none, ann0⟩,
  ⟨(some 51), (Op.load 26 (Operand.tmp 50)), none, ann0⟩,
  ⟨(some 52), (Op.indexAddr 22 (Operand.tmp 36) (Operand.tmp 37)), none, ann0⟩,
  ⟨none, (Op.store 26 (Operand.tmp 52) (Operand.tmp 47)), none, ann0⟩,
  ⟨(some 53), (Op.indexAddr 22 (Operand.tmp 38) (Operand.tmp 41)), none, ann0⟩,
  ⟨none, (Op.store 26 (Operand.tmp 53) (Operand.tmp 51)), none, ann0⟩] (some [0, 0, 0, 0, 0, 24, 0, 0, 0, 384, 960, 1984, 0, 0, 12288, 28672, 65475, 131011, 262143, 524287])) (.tidy [0, 3, 8, 9, 12] z (z + 0)))
 (.reg [⟨(some 54), (Op.move (Operand.tmp 0)), none, ann0⟩,
  ⟨(some 55), (Op.move (Operand.tmp 9)), none, ann0⟩,
  ⟨(some 56), (Op.move (Operand.tmp 12)), none, ann0⟩,
  ⟨(some 57), (Op.move (Operand.tmp 8)), none, ann0⟩,
  ⟨(some 58), (Op.move (Operand.tmp 3)), none, ann0⟩,
  ⟨(some 59), (Op.call { callee := (Callee.value (Operand.func 113)), args := #[(Operand.tmp 54), (Operand.tmp 55), (Operand.tmp 56), (Operand.tmp 57), (Operand.tmp 58)], argTypes := #[22, 3, 3, 3, 24] }), none, ann0⟩] none))) (.tidy [0, 3, 8, 9, 12] z (z + 0)))
 (.reg [⟨(some 34), (Op.move (Operand.tmp 12)), none, ann0⟩,
  ⟨(some 35), (Op.binOp BinOp.sub 3 (Operand.tmp 34) (Operand.const (Value.int IntKind.i64 1)) 3), none, ann0⟩,
  ⟨(some 12), (Op.assign (Operand.tmp 35)), none, ann0⟩] none))) (.tidy [0, 3, 8, 9, 12] z (z + 0))
def s105_2 (z : Nat) : SC := c105_2 z
theorem e105_2 {C : Pg} {z : Nat} {st : St} {ks : List Fr} {K : Ex → St → Prop} : wpk C (s105_2 z) st ks K ↔ wpk C (c105_2 z) st ks K := Iff.rfl
def s105 (z : Nat) : SFn := ⟨4, 60, [],
 (.seq (.reg [⟨(some 13), (Op.move (Operand.tmp 1)), none, ann0⟩,
  ⟨(some 8), (Op.assign (Operand.tmp 13)), none, ann0⟩] none)
 (.seq (.reg [⟨(some 9), (Op.assign (Operand.const (Value.int IntKind.i64 0))), none, ann0⟩] none)
 (.seq (.reg [⟨(some 14), (Op.move (Operand.tmp 2)), none, ann0⟩,
  ⟨(some 15), (Op.move (Operand.tmp 1)), none, ann0⟩,
  ⟨(some 16), (Op.binOp BinOp.sub 3 (Operand.tmp 14) (Operand.tmp 15) 3), none, ann0⟩,
  ⟨(some 10), (Op.assign (Operand.tmp 16)), none, ann0⟩] none)
 (.seq (.post (.seq (.post (.reg [⟨(some 17), (Op.move (Operand.tmp 10)), none, ann0⟩,
  ⟨(some 18), (Op.binOp BinOp.sub 3 (Operand.tmp 17) (Operand.const (Value.int IntKind.i64 1)) 3), none, ann0⟩,
  ⟨(some 19), (Op.binOp BinOp.quo 3 (Operand.tmp 18) (Operand.const (Value.int IntKind.i64 2)) 3), none, ann0⟩,
  ⟨(some 11), (Op.assign (Operand.tmp 19)), none, ann0⟩] none) (.tidy [0, 3, 8, 9, 10, 11] z (z + 0)))
 (.post (.block 0 (.pre (.tidy [0, 3, 8, 9, 10, 11] z (z + 0)) (.loop (s105_1 z)))) (.tidy [0, 3, 8, 9, 10] z (z + 0)))) (.tidy [0, 3, 8, 9, 10] z (z + 0)))
 (.seq (.reg [⟨(some 30), (Op.move (Operand.tmp 10)), none, ann0⟩,
  ⟨(some 31), (Op.binOp BinOp.sub 3 (Operand.tmp 30) (Operand.const (Value.int IntKind.i64 1)) 3), none, ann0⟩,
  ⟨(some 12), (Op.assign (Operand.tmp 31)), none, ann0⟩] none)
 (.post (.block 2 (.pre (.tidy [0, 3, 8, 9, 12] z (z + 0)) (.loop (s105_2 z)))) (.tidy [] z (z + 0))))))))⟩
theorem F105 (z : Nat) : FOk Try.prog 105 (s105 z) := by unfold FOk; kernel_rfl
def c106_1 (z : Nat) : SC := .post (.seq (.post (.seq (.post (.reg [⟨(some 28), (Op.move (Operand.tmp 11)), none, ann0⟩,
  ⟨(some 29), (Op.move (Operand.tmp 1)), none, ann0⟩,
  ⟨(some 30), (Op.move (Operand.tmp 8)), none, ann0⟩,
  ⟨(some 31), (Op.binOp BinOp.quo 3 (Operand.tmp 30) (Operand.const (Value.int IntKind.i64 4)) 3), none, ann0⟩,
  ⟨(some 32), (Op.binOp BinOp.mul 3 (Operand.tmp 31) (Operand.const (Value.int IntKind.i64 2)) 3), none, ann0⟩,
  ⟨(some 33), (Op.binOp BinOp.add 3 (Operand.tmp 29) (Operand.tmp 32) 3), none, ann0⟩,
  ⟨(some 34), (Op.binOp BinOp.add 3 (Operand.tmp 33) (Operand.const (Value.int IntKind.i64 1)) 3), none, ann0⟩,
  ⟨(some 35), (Op.binOp BinOp.leq 3 (Operand.tmp 28) (Operand.tmp 34) 3), none, ann0⟩] none) (.tidy [0, 1, 8, 9, 10, 11, 35] z (z + 1)))
 (.cond (Operand.tmp 35) .skip
 (.exit 0))) (.tidy [0, 1, 8, 9, 10, 11] z (z + 1)))
 (.seq (.post (.block 1 (.seq (.reg [⟨(some 38), (Op.call { callee := (Callee.value (Operand.func 101)), args := #[(Operand.tmp 9)], argTypes := #[157] }), none, ann0⟩,
  ⟨(some 39), (Op.move (Operand.tmp 10)), none, ann0⟩,
  ⟨(some 40), (Op.binOp BinOp.sub 110 (Operand.tmp 39) (Operand.const (Value.int IntKind.u64 1)) 110), none, ann0⟩,
  ⟨(some 41), (Op.binOp BinOp.and 110 (Operand.tmp 38) (Operand.tmp 40) 110), none, ann0⟩,
  ⟨(some 42), (Op.convert 110 3 (Operand.tmp 41)), none, ann0⟩,
  ⟨(some 12), (Op.assign (Operand.tmp 42)), none, ann0⟩] none)
 (.seq (.post (.seq (.post (.reg [⟨(some 43), (Op.move (Operand.tmp 12)), none, ann0⟩,
  ⟨(some 44), (Op.move (Operand.tmp 8)), none, ann0⟩,
  ⟨(some 45), (Op.binOp BinOp.geq 3 (Operand.tmp 43) (Operand.tmp 44) 3), none, ann0⟩] none) (.tidy [0, 1, 8, 9, 10, 11, 12, 45] z (z + 1)))
 (.cond (Operand.tmp 45) (.reg [⟨(some 46), (Op.move (Operand.tmp 12)), none, ann0⟩,
  ⟨(some 47), (Op.move (Operand.tmp 8)), none, ann0⟩,
  ⟨(some 48), (Op.binOp BinOp.sub 3 (Operand.tmp 46) (Operand.tmp 47) 3), none, ann0⟩,
  ⟨(some 12), (Op.assign (Operand.tmp 48)), none, ann0⟩] none)
 .skip)) (.tidy [0, 1, 8, 9, 10, 11, 12] z (z + 1)))
 (.reg [⟨(some 49), (Op.move (Operand.tmp 0)), none, ann0⟩,
  ⟨(some 50), (Op.move (Operand.tmp 11)), none, ann0⟩,
  ⟨(some 51), (Op.move (Operand.tmp 0)), none, ann0⟩,
  ⟨(some 52), (Op.move (Operand.tmp 1)), none, ann0⟩,
  ⟨(some 53), (Op.move (Operand.tmp 12)), none, ann0⟩,
  ⟨(some 54), (Op.binOp BinOp.add 3 (Operand.tmp 52) (Operand.tmp 53) 3), none, ann0⟩,
  ⟨(some 55), (Op.move (Operand.tmp 0)), none, ann0⟩,
  ⟨(some 56), (Op.move (Operand.tmp 1)), none, ann0⟩,
  ⟨(some 57), (Op.move (Operand.tmp 12)), none, ann0⟩,
  ⟨(some 58), (Op.binOp BinOp.add 3 (Operand.tmp 56) (Operand.tmp 57) 3), none, ann0⟩,
  ⟨(some 59), (Op.indexAddr 22 (Operand.tmp 55) (Operand.tmp 58)), none, ann0⟩,
  ⟨(some 60), (Op.load 26 (Operand.tmp 59)), none, ann0⟩,
  ⟨(some 61), (Op.move (Operand.tmp 0)), none, ann0⟩,
  ⟨(some 62), (Op.move (Operand.tmp 11)), none, ann0⟩,
  ⟨(some 63), (Op.indexAddr 22 (Operand.tmp 61) (Operand.tmp 62)), none, ann0⟩,
  ⟨(some 64), (Op.load 26 (Operand.tmp 63)), none, ann0⟩,
  ⟨(some 65), (Op.indexAddr 22 (Operand.tmp 49) (Operand.tmp 50)), none, ann0⟩,
  ⟨none, (Op.store 26 (Operand.tmp 65) (Operand.tmp 60)), none, ann0⟩,
  ⟨(some 66), (Op.indexAddr 22 (Operand.tmp 51) (Operand.tmp 54)), none, ann0⟩,
  ⟨none, (Op.store 26 (Operand.tmp 66) (Operand.tmp 64)), none, ann0⟩] (some [0, 0, 0, 0, 0, 24, 0, 0, 0, 384, 960, 1984, 0, 0, 12288, 28672, 65475, 131011, 262143, 524287]))))) (.tidy [0, 1, 8, 9, 10, 11] z (z + 1)))
 (.reg [⟨(some 36), (Op.move (Operand.tmp 11)), none, ann0⟩,
  ⟨(some 37), (Op.binOp BinOp.add 3 (Operand.tmp 36) (Operand.const (Value.int IntKind.i64 1)) 3), none, ann0⟩,
  ⟨(some 11), (Op.assign (Operand.tmp 37)), none, ann0⟩] none))) (.tidy [0, 1, 8, 9, 10, 11] z (z + 1))
def s106_1 (z : Nat) : SC := c106_1 z
theorem e106_1 {C : Pg} {z : Nat} {st : St} {ks : List Fr} {K : Ex → St → Prop} : wpk C (s106_1 z) st ks K ↔ wpk C (c106_1 z) st ks K := Iff.rfl
def s106 (z : Nat) : SFn := ⟨4, 67, [],
 (.seq (.reg [⟨(some 13), (Op.move (Operand.tmp 2)), none, ann0⟩,
  ⟨(some 14), (Op.move (Operand.tmp 1)), none, ann0⟩,
  ⟨(some 15), (Op.binOp BinOp.sub 3 (Operand.tmp 13) (Operand.tmp 14) 3), none, ann0⟩,
  ⟨(some 8), (Op.assign (Operand.tmp 15)), none, ann0⟩] none)
 (.seq (.reg [⟨(some 16), (Op.move (Operand.tmp 8)), none, ann0⟩,
  ⟨(some 17), (Op.binOp BinOp.geq 3 (Operand.tmp 16) (Operand.const (Value.int IntKind.i64 8)) 3), none, ann0⟩] none)
 (.cond (Operand.tmp 17) (.seq (.post (.reg [⟨(some 18), (Op.move (Operand.tmp 8)), none, ann0⟩,
  ⟨(some 19), (Op.convert 3 157 (Operand.tmp 18)), none, ann0⟩,
  ⟨(some 9), (Op.alloc 157), none, ⟨1, false, false⟩⟩,
  ⟨none, (Op.store 157 (Operand.tmp 9) (Operand.tmp 19)), none, ann0⟩] none) (.tidy [0, 1, 8, 9] z (z + 1)))
 (.seq (.reg [⟨(some 20), (Op.move (Operand.tmp 8)), none, ann0⟩,
  ⟨(some 21), (Op.call { callee := (Callee.value (Operand.func 100)), args := #[(Operand.tmp 20)], argTypes := #[3] }), none, ann0⟩,
  ⟨(some 10), (Op.assign (Operand.tmp 21)), none, ann0⟩] none)
 (.seq (.post (.reg [⟨(some 22), (Op.move (Operand.tmp 1)), none, ann0⟩,
  ⟨(some 23), (Op.move (Operand.tmp 8)), none, ann0⟩,
  ⟨(some 24), (Op.binOp BinOp.quo 3 (Operand.tmp 23) (Operand.const (Value.int IntKind.i64 4)) 3), none, ann0⟩,
  ⟨(some 25), (Op.binOp BinOp.mul 3 (Operand.tmp 24) (Operand.const (Value.int IntKind.i64 2)) 3), none, ann0⟩,
  ⟨(some 26), (Op.binOp BinOp.add 3 (Operand.tmp 22) (Operand.tmp 25) 3), none, ann0⟩,
  ⟨(some 27), (Op.binOp BinOp.sub 3 (Operand.tmp 26) (Operand.const (Value.int IntKind.i64 1)) 3), none, ann0⟩,
  ⟨(some 11), (Op.assign (Operand.tmp 27)), none, ann0⟩] none) (.tidy [0, 1, 8, 9, 10, 11] z (z + 1)))
 (.post (.block 0 (.pre (.tidy [0, 1, 8, 9, 10, 11] z (z + 1)) (.loop (s106_1 z)))) (.tidy [] z (z + 1))))))
 .skip)))⟩
theorem F106 (z : Nat) : FOk Try.prog 106 (s106 z) := by unfold FOk; kernel_rfl
def s116 (z : Nat) : SFn := ⟨5, 32, [(ResultVar.tmp 10), (ResultVar.tmp 11)],
 (.seq (.reg [⟨(some 10), (Op.assign (Operand.const (Value.int IntKind.i64 0))), none, ann0⟩,
  ⟨(some 11), (Op.assign (Operand.const (Value.int IntKind.i64 0))), none, ann0⟩] none)
 (.seq (.post (.seq (.post (.reg [⟨(some 12), (Op.move (Operand.tmp 4)), none, ann0⟩,
  ⟨(some 13), (Op.move (Operand.tmp 0)), none, ann0⟩,
  ⟨(some 14), (Op.move (Operand.tmp 2)), none, ann0⟩,
  ⟨(some 15), (Op.indexAddr 22 (Operand.tmp 13) (Operand.tmp 14)), none, ann0⟩,
  ⟨(some 16), (Op.load 26 (Operand.tmp 15)), none, ann0⟩,
  ⟨(some 17), (Op.move (Operand.tmp 0)), none, ann0⟩,
  ⟨(some 18), (Op.move (Operand.tmp 1)), none, ann0⟩,
  ⟨(some 19), (Op.indexAddr 22 (Operand.tmp 17) (Operand.tmp 18)), none, ann0⟩,
  ⟨(some 20), (Op.load 26 (Operand.tmp 19)), none, ann0⟩,
  ⟨(some 21), (Op.call { callee := (Callee.value (Operand.tmp 12)), args := #[(Operand.tmp 16), (Operand.tmp 20)], argTypes := #[26, 26] }), none, ann0⟩,
  ⟨(some 22), (Op.binOp BinOp.lss 3 (Operand.tmp 21) (Operand.const (Value.int IntKind.i64 0)) 3), none, ann0⟩] (some [0, 0, 0, 6, 14, 0, 0, 96, 224, 511, 1023])) (.tidy [1, 2, 3, 22] z (z + 0)))
 (.cond (Operand.tmp 22) (.seq (.reg [⟨(some 23), (Op.move (Operand.tmp 3)), none, ann0⟩,
  ⟨(some 24), (Op.nilCheck (Operand.tmp 23)), none, ann0⟩,
  ⟨(some 25), (Op.load 3 (Operand.tmp 24)), none, ann0⟩,
  ⟨(some 26), (Op.binOp BinOp.add 3 (Operand.tmp 25) (Operand.const (Value.int IntKind.i64 1)) 3), none, ann0⟩,
  ⟨(some 27), (Op.nilCheck (Operand.tmp 23)), none, ann0⟩,
  ⟨none, (Op.store 3 (Operand.tmp 27) (Operand.tmp 26)), none, ann0⟩] none)
 (.seq (.reg [⟨(some 28), (Op.move (Operand.tmp 2)), none, ann0⟩,
  ⟨(some 29), (Op.move (Operand.tmp 1)), none, ann0⟩,
  ⟨(some 10), (Op.assign (Operand.tmp 28)), none, ann0⟩,
  ⟨(some 11), (Op.assign (Operand.tmp 29)), none, ann0⟩] none)
 .ret))
 .skip)) (.tidy [1, 2] z (z + 0)))
 (.seq (.reg [⟨(some 30), (Op.move (Operand.tmp 1)), none, ann0⟩,
  ⟨(some 31), (Op.move (Operand.tmp 2)), none, ann0⟩,
  ⟨(some 10), (Op.assign (Operand.tmp 30)), none, ann0⟩,
  ⟨(some 11), (Op.assign (Operand.tmp 31)), none, ann0⟩] none)
 .ret)))⟩
theorem F116 (z : Nat) : FOk Try.prog 116 (s116 z) := by unfold FOk; kernel_rfl
def s115 (z : Nat) : SFn := ⟨6, 41, [(ResultVar.tmp 12)],
 (.seq (.reg [⟨(some 12), (Op.assign (Operand.const (Value.int IntKind.i64 0))), none, ann0⟩] none)
 (.seq (.post (.reg [⟨(some 14), (Op.move (Operand.tmp 0)), none, ann0⟩,
  ⟨(some 15), (Op.move (Operand.tmp 1)), none, ann0⟩,
  ⟨(some 16), (Op.move (Operand.tmp 2)), none, ann0⟩,
  ⟨(some 17), (Op.move (Operand.tmp 4)), none, ann0⟩,
  ⟨(some 18), (Op.move (Operand.tmp 5)), none, ann0⟩,
  ⟨(some 19), (Op.call { callee := (Callee.value (Operand.func 116)), args := #[(Operand.tmp 14), (Operand.tmp 15), (Operand.tmp 16), (Operand.tmp 17), (Operand.tmp 18)], argTypes := #[22, 3, 3, 161, 24] }), none, ann0⟩,
  ⟨(some 13), (Op.move (Operand.tmp 19)), none, ann0⟩,
  ⟨(some 20), (Op.extract (Operand.tmp 13) 0), none, ann0⟩,
  ⟨(some 21), (Op.extract (Operand.tmp 13) 1), none, ann0⟩,
  ⟨(some 1), (Op.assign (Operand.tmp 20)), none, ann0⟩,
  ⟨(some 2), (Op.assign (Operand.tmp 21)), none, ann0⟩] none) (.tidy [0, 1, 2, 3, 4, 5] z (z + 0)))
 (.seq (.post (.reg [⟨(some 23), (Op.move (Operand.tmp 0)), none, ann0⟩,
  ⟨(some 24), (Op.move (Operand.tmp 2)), none, ann0⟩,
  ⟨(some 25), (Op.move (Operand.tmp 3)), none, ann0⟩,
  ⟨(some 26), (Op.move (Operand.tmp 4)), none, ann0⟩,
  ⟨(some 27), (Op.move (Operand.tmp 5)), none, ann0⟩,
  ⟨(some 28), (Op.call { callee := (Callee.value (Operand.func 116)), args := #[(Operand.tmp 23), (Operand.tmp 24), (Operand.tmp 25), (Operand.tmp 26), (Operand.tmp 27)], argTypes := #[22, 3, 3, 161, 24] }), none, ann0⟩,
  ⟨(some 22), (Op.move (Operand.tmp 28)), none, ann0⟩,
  ⟨(some 29), (Op.extract (Operand.tmp 22) 0), none, ann0⟩,
  ⟨(some 30), (Op.extract (Operand.tmp 22) 1), none, ann0⟩,
  ⟨(some 2), (Op.assign (Operand.tmp 29)), none, ann0⟩,
  ⟨(some 3), (Op.assign (Operand.tmp 30)), none, ann0⟩] none) (.tidy [0, 1, 2, 4, 5] z (z + 0)))
 (.seq (.post (.reg [⟨(some 32), (Op.move (Operand.tmp 0)), none, ann0⟩,
  ⟨(some 33), (Op.move (Operand.tmp 1)), none, ann0⟩,
  ⟨(some 34), (Op.move (Operand.tmp 2)), none, ann0⟩,
  ⟨(some 35), (Op.move (Operand.tmp 4)), none, ann0⟩,
  ⟨(some 36), (Op.move (Operand.tmp 5)), none, ann0⟩,
  ⟨(some 37), (Op.call { callee := (Callee.value (Operand.func 116)), args := #[(Operand.tmp 32), (Operand.tmp 33), (Operand.tmp 34), (Operand.tmp 35), (Operand.tmp 36)], argTypes := #[22, 3, 3, 161, 24] }), none, ann0⟩,
  ⟨(some 31), (Op.move (Operand.tmp 37)), none, ann0⟩,
  ⟨(some 38), (Op.extract (Operand.tmp 31) 0), none, ann0⟩,
  ⟨(some 39), (Op.extract (Operand.tmp 31) 1), none, ann0⟩,
  ⟨(some 1), (Op.assign (Operand.tmp 38)), none, ann0⟩,
  ⟨(some 2), (Op.assign (Operand.tmp 39)), none, ann0⟩] none) (.tidy [2] z (z + 0)))
 (.seq (.reg [⟨(some 40), (Op.move (Operand.tmp 2)), none, ann0⟩,
  ⟨(some 12), (Op.assign (Operand.tmp 40)), none, ann0⟩] none)
 .ret)))))⟩
theorem F115 (z : Nat) : FOk Try.prog 115 (s115 z) := by unfold FOk; kernel_rfl
def s114 (z : Nat) : SFn := ⟨4, 18, [(ResultVar.tmp 8)],
 (.seq (.reg [⟨(some 8), (Op.assign (Operand.const (Value.int IntKind.i64 0))), none, ann0⟩] none)
 (.seq (.reg [⟨(some 9), (Op.move (Operand.tmp 0)), none, ann0⟩,
  ⟨(some 10), (Op.move (Operand.tmp 1)), none, ann0⟩,
  ⟨(some 11), (Op.binOp BinOp.sub 3 (Operand.tmp 10) (Operand.const (Value.int IntKind.i64 1)) 3), none, ann0⟩,
  ⟨(some 12), (Op.move (Operand.tmp 1)), none, ann0⟩,
  ⟨(some 13), (Op.move (Operand.tmp 1)), none, ann0⟩,
  ⟨(some 14), (Op.binOp BinOp.add 3 (Operand.tmp 13) (Operand.const (Value.int IntKind.i64 1)) 3), none, ann0⟩,
  ⟨(some 15), (Op.move (Operand.tmp 2)), none, ann0⟩,
  ⟨(some 16), (Op.move (Operand.tmp 3)), none, ann0⟩,
  ⟨(some 17), (Op.call { callee := (Callee.value (Operand.func 115)), args := #[(Operand.tmp 9), (Operand.tmp 11), (Operand.tmp 12), (Operand.tmp 14), (Operand.tmp 15), (Operand.tmp 16)], argTypes := #[22, 3, 3, 3, 161, 24] }), none, ann0⟩,
  ⟨(some 8), (Op.assign (Operand.tmp 17)), none, ann0⟩] none)
 .ret))⟩
theorem F114 (z : Nat) : FOk Try.prog 114 (s114 z) := by unfold FOk; kernel_rfl
def s107 (z : Nat) : SFn := ⟨4, 63, [(ResultVar.tmp 8), (ResultVar.tmp 9)],
 (.seq (.reg [⟨(some 8), (Op.assign (Operand.const (Value.int IntKind.i64 0))), none, ann0⟩,
  ⟨(some 9), (Op.assign (Operand.const (Value.int IntKind.i64 0))), none, ann0⟩] none)
 (.seq (.reg [⟨(some 15), (Op.move (Operand.tmp 2)), none, ann0⟩,
  ⟨(some 16), (Op.move (Operand.tmp 1)), none, ann0⟩,
  ⟨(some 17), (Op.binOp BinOp.sub 3 (Operand.tmp 15) (Operand.tmp 16) 3), none, ann0⟩,
  ⟨(some 10), (Op.assign (Operand.tmp 17)), none, ann0⟩] none)
 (.seq (.reg [⟨(some 11), (Op.alloc 3), none, ⟨1, false, false⟩⟩] none)
 (.seq (.post (.reg [⟨(some 18), (Op.move (Operand.tmp 1)), none, ann0⟩,
  ⟨(some 19), (Op.move (Operand.tmp 10)), none, ann0⟩,
  ⟨(some 20), (Op.binOp BinOp.quo 3 (Operand.tmp 19) (Operand.const (Value.int IntKind.i64 4)) 3), none, ann0⟩,
  ⟨(some 21), (Op.binOp BinOp.mul 3 (Operand.tmp 20) (Operand.const (Value.int IntKind.i64 1)) 3), none, ann0⟩,
  ⟨(some 22), (Op.binOp BinOp.add 3 (Operand.tmp 18) (Operand.tmp 21) 3), none, ann0⟩,
  ⟨(some 12), (Op.assign (Operand.tmp 22)), none, ann0⟩] none) (.tidy [0, 1, 3, 10, 11, 12] z (z + 1)))
 (.seq (.reg [⟨(some 23), (Op.move (Operand.tmp 1)), none, ann0⟩,
  ⟨(some 24), (Op.move (Operand.tmp 10)), none, ann0⟩,
  ⟨(some 25), (Op.binOp BinOp.quo 3 (Operand.tmp 24) (Operand.const (Value.int IntKind.i64 4)) 3), none, ann0⟩,
  ⟨(some 26), (Op.binOp BinOp.mul 3 (Operand.tmp 25) (Operand.const (Value.int IntKind.i64 2)) 3), none, ann0⟩,
  ⟨(some 27), (Op.binOp BinOp.add 3 (Operand.tmp 23) (Operand.tmp 26) 3), none, ann0⟩,
  ⟨(some 13), (Op.assign (Operand.tmp 27)), none, ann0⟩] none)
 (.seq (.post (.reg [⟨(some 28), (Op.move (Operand.tmp 1)), none, ann0⟩,
  ⟨(some 29), (Op.move (Operand.tmp 10)), none, ann0⟩,
  ⟨(some 30), (Op.binOp BinOp.quo 3 (Operand.tmp 29) (Operand.const (Value.int IntKind.i64 4)) 3), none, ann0⟩,
  ⟨(some 31), (Op.binOp BinOp.mul 3 (Operand.tmp 30) (Operand.const (Value.int IntKind.i64 3)) 3), none, ann0⟩,
  ⟨(some 32), (Op.binOp BinOp.add 3 (Operand.tmp 28) (Operand.tmp 31) 3), none, ann0⟩,
  ⟨(some 14), (Op.assign (Operand.tmp 32)), none, ann0⟩] none) (.tidy [0, 3, 10, 11, 12, 13, 14] z (z + 1)))
 (.seq (.post (.seq (.reg [⟨(some 33), (Op.move (Operand.tmp 10)), none, ann0⟩,
  ⟨(some 34), (Op.binOp BinOp.geq 3 (Operand.tmp 33) (Operand.const (Value.int IntKind.i64 8)) 3), none, ann0⟩] none)
 (.cond (Operand.tmp 34) (.seq (.post (.seq (.reg [⟨(some 35), (Op.move (Operand.tmp 10)), none, ann0⟩,
  ⟨(some 36), (Op.binOp BinOp.geq 3 (Operand.tmp 35) (Operand.const (Value.int IntKind.i64 50)) 3), none, ann0⟩] none)
 (.cond (Operand.tmp 36) (.seq (.post (.reg [⟨(some 37), (Op.move (Operand.tmp 0)), none, ann0⟩,
  ⟨(some 38), (Op.move (Operand.tmp 12)), none, ann0⟩,
  ⟨(some 39), (Op.move (Operand.tmp 3)), none, ann0⟩,
  ⟨(some 40), (Op.call { callee := (Callee.value (Operand.func 114)), args := #[(Operand.tmp 37), (Operand.tmp 38), (Operand.tmp 11), (Operand.tmp 39)], argTypes := #[22, 3, 161, 24] }), none, ann0⟩,
  ⟨(some 12), (Op.assign (Operand.tmp 40)), none, ann0⟩] none) (.tidy [0, 3, 11, 12, 13, 14] z (z + 1)))
 (.seq (.reg [⟨(some 41), (Op.move (Operand.tmp 0)), none, ann0⟩,
  ⟨(some 42), (Op.move (Operand.tmp 13)), none, ann0⟩,
  ⟨(some 43), (Op.move (Operand.tmp 3)), none, ann0⟩,
  ⟨(some 44), (Op.call { callee := (Callee.value (Operand.func 114)), args := #[(Operand.tmp 41), (Operand.tmp 42), (Operand.tmp 11), (Operand.tmp 43)], argTypes := #[22, 3, 161, 24] }), none, ann0⟩,
  ⟨(some 13), (Op.assign (Operand.tmp 44)), none, ann0⟩] none)
 (.reg [⟨(some 45), (Op.move (Operand.tmp 0)), none, ann0⟩,
  ⟨(some 46), (Op.move (Operand.tmp 14)), none, ann0⟩,
  ⟨(some 47), (Op.move (Operand.tmp 3)), none, ann0⟩,
  ⟨(some 48), (Op.call { callee := (Callee.value (Operand.func 114)), args := #[(Operand.tmp 45), (Operand.tmp 46), (Operand.tmp 11), (Operand.tmp 47)], argTypes := #[22, 3, 161, 24] }), none, ann0⟩,
  ⟨(some 14), (Op.assign (Operand.tmp 48)), none, ann0⟩] none)))
 .skip)) (.tidy [0, 3, 11, 12, 13, 14] z (z + 1)))
 (.reg [⟨(some 49), (Op.move (Operand.tmp 0)), none, ann0⟩,
  ⟨(some 50), (Op.move (Operand.tmp 12)), none, ann0⟩,
  ⟨(some 51), (Op.move (Operand.tmp 13)), none, ann0⟩,
  ⟨(some 52), (Op.move (Operand.tmp 14)), none, ann0⟩,
  ⟨(some 53), (Op.move (Operand.tmp 3)), none, ann0⟩,
  ⟨(some 54), (Op.call { callee := (Callee.value (Operand.func 115)), args := #[(Operand.tmp 49), (Operand.tmp 50), (Operand.tmp 51), (Operand.tmp 52), (Operand.tmp 11), (Operand.tmp 53)], argTypes := #[22, 3, 3, 3, 161, 24] }), none, ann0⟩,
  ⟨(some 13), (Op.assign (Operand.tmp 54)), none, ann0⟩] none))
 .skip)) (.tidy [11, 13] z (z + 1)))
 (.seq (.reg [⟨(some 55), (Op.load 3 (Operand.tmp 11)), none, ann0⟩] none)
 (.block 0 (.seq (.reg [⟨(some 58), (Op.binOp BinOp.eql 3 (Operand.tmp 55) (Operand.const (Value.int IntKind.i64 0)) 3), none, ann0⟩,
  ⟨(some 57), (Op.assign (Operand.tmp 58)), none, ann0⟩] none)
 (.cond (Operand.tmp 57) (.seq (.reg [⟨(some 59), (Op.move (Operand.tmp 13)), none, ann0⟩,
  ⟨(some 8), (Op.assign (Operand.tmp 59)), none, ann0⟩,
  ⟨(some 9), (Op.assign (Operand.const (Value.int IntKind.i64 1))), none, ann0⟩] none)
 .ret)
 (.seq (.reg [⟨(some 61), (Op.binOp BinOp.eql 3 (Operand.tmp 55) (Operand.const (Value.int IntKind.i64 12)) 3), none, ann0⟩,
  ⟨(some 60), (Op.assign (Operand.tmp 61)), none, ann0⟩] none)
 (.cond (Operand.tmp 60) (.seq (.reg [⟨(some 62), (Op.move (Operand.tmp 13)), none, ann0⟩,
  ⟨(some 8), (Op.assign (Operand.tmp 62)), none, ann0⟩,
  ⟨(some 9), (Op.assign (Operand.const (Value.int IntKind.i64 2))), none, ann0⟩] none)
 .ret)
 (.seq (.reg [⟨(some 56), (Op.move (Operand.tmp 13)), none, ann0⟩,
  ⟨(some 8), (Op.assign (Operand.tmp 56)), none, ann0⟩,
  ⟨(some 9), (Op.assign (Operand.const (Value.int IntKind.i64 0))), none, ann0⟩] none)
 .ret))))))))))))))⟩
theorem F107 (z : Nat) : FOk Try.prog 107 (s107 z) := by unfold FOk; kernel_rfl
def c108_1 (z : Nat) : SC := .post (.seq (.post (.seq (.reg [⟨(some 13), (Op.move (Operand.tmp 8)), none, ann0⟩,
  ⟨(some 14), (Op.move (Operand.tmp 9)), none, ann0⟩,
  ⟨(some 15), (Op.binOp BinOp.lss 3 (Operand.tmp 13) (Operand.tmp 14) 3), none, ann0⟩] none)
 (.cond (Operand.tmp 15) .skip
 (.exit 0))) (.tidy [0, 8, 9] z (z + 0)))
 (.block 1 (.seq (.post (.reg [⟨(some 16), (Op.move (Operand.tmp 0)), none, ann0⟩,
  ⟨(some 17), (Op.move (Operand.tmp 8)), none, ann0⟩,
  ⟨(some 18), (Op.move (Operand.tmp 0)), none, ann0⟩,
  ⟨(some 19), (Op.move (Operand.tmp 9)), none, ann0⟩,
  ⟨(some 20), (Op.move (Operand.tmp 0)), none, ann0⟩,
  ⟨(some 21), (Op.move (Operand.tmp 9)), none, ann0⟩,
  ⟨(some 22), (Op.indexAddr 22 (Operand.tmp 20) (Operand.tmp 21)), none, ann0⟩,
  ⟨(some 23), (Op.load 26 (Operand.tmp 22)), none, ann0⟩,
  ⟨(some 24), (Op.move (Operand.tmp 0)), none, ann0⟩,
  ⟨(some 25), (Op.move (Operand.tmp 8)), none, ann0⟩,
  ⟨(some 26), (Op.indexAddr 22 (Operand.tmp 24) (Operand.tmp 25)), none, ann0⟩,
  ⟨(some 27), (Op.load 26 (Operand.tmp 26)), none, ann0⟩,
  ⟨(some 28), (Op.indexAddr 22 (Operand.tmp 16) (Operand.tmp 17)), none, ann0⟩,
  ⟨none, (Op.store 26 (Operand.tmp 28) (Operand.tmp 23)), none, ann0⟩,
  ⟨(some 29), (Op.indexAddr 22 (Operand.tmp 18) (Operand.tmp 19)), none, ann0⟩,
  ⟨none, (Op.store 26 (Operand.tmp 29) (Operand.tmp 27)), none, ann0⟩] (some [0, 0, 0, 0, 0, 0, 48, 112, 0, 0, 768, 1792, 4083, 8179, 16383, 32767])) (.tidy [0, 8, 9] z (z + 0)))
 (.seq (.reg [⟨(some 30), (Op.move (Operand.tmp 8)), none, ann0⟩,
  ⟨(some 31), (Op.binOp BinOp.add 3 (Operand.tmp 30) (Operand.const (Value.int IntKind.i64 1)) 3), none, ann0⟩,
  ⟨(some 8), (Op.assign (Operand.tmp 31)), none, ann0⟩] none)
 (.reg [⟨(some 32), (Op.move (Operand.tmp 9)), none, ann0⟩,
  ⟨(some 33), (Op.binOp BinOp.sub 3 (Operand.tmp 32) (Operand.const (Value.int IntKind.i64 1)) 3), none, ann0⟩,
  ⟨(some 9), (Op.assign (Operand.tmp 33)), none, ann0⟩] none))))) (.tidy [0, 8, 9] z (z + 0))
def s108_1 (z : Nat) : SC := c108_1 z
theorem e108_1 {C : Pg} {z : Nat} {st : St} {ks : List Fr} {K : Ex → St → Prop} : wpk C (s108_1 z) st ks K ↔ wpk C (c108_1 z) st ks K := Iff.rfl
def s108 (z : Nat) : SFn := ⟨4, 34, [],
 (.seq (.reg [⟨(some 10), (Op.move (Operand.tmp 1)), none, ann0⟩,
  ⟨(some 8), (Op.assign (Operand.tmp 10)), none, ann0⟩] none)
 (.seq (.reg [⟨(some 11), (Op.move (Operand.tmp 2)), none, ann0⟩,
  ⟨(some 12), (Op.binOp BinOp.sub 3 (Operand.tmp 11) (Operand.const (Value.int IntKind.i64 1)) 3), none, ann0⟩,
  ⟨(some 9), (Op.assign (Operand.tmp 12)), none, ann0⟩] none)
 (.post (.block 0 (.pre (.tidy [0, 8, 9] z (z + 0)) (.loop (s108_1 z)))) (.tidy [] z (z + 0)))))⟩
theorem F108 (z : Nat) : FOk Try.prog 108 (s108 z) := by unfold FOk; kernel_rfl
def c109_2 (z : Nat) : SC := .post (.seq (.post (.seq (.post (.reg [⟨(some 19), (Op.move (Operand.tmp 9)), none, ann0⟩,
  ⟨(some 20), (Op.move (Operand.tmp 2)), none, ann0⟩,
  ⟨(some 21), (Op.binOp BinOp.lss 3 (Operand.tmp 19) (Operand.tmp 20) 3), none, ann0⟩,
  ⟨(some 22), (Op.move (Operand.tmp 21)), none, ann0⟩,
  ⟨(some 23), (Op.move (Operand.tmp 3)), (some (22, true)), ann0⟩,
  ⟨(some 24), (Op.move (Operand.tmp 0)), (some (22, true)), ann0⟩,
  ⟨(some 25), (Op.move (Operand.tmp 9)), (some (22, true)), ann0⟩,
  ⟨(some 26), (Op.indexAddr 22 (Operand.tmp 24) (Operand.tmp 25)), (some (22, true)), ann0⟩,
  ⟨(some 27), (Op.load 26 (Operand.tmp 26)), (some (22, true)), ann0⟩,
  ⟨(some 28), (Op.move (Operand.tmp 0)), (some (22, true)), ann0⟩,
  ⟨(some 29), (Op.move (Operand.tmp 9)), (some (22, true)), ann0⟩,
  ⟨(some 30), (Op.binOp BinOp.sub 3 (Operand.tmp 29) (Operand.const (Value.int IntKind.i64 1)) 3), (some (22, true)), ann0⟩,
  ⟨(some 31), (Op.indexAddr 22 (Operand.tmp 28) (Operand.tmp 30)), (some (22, true)), ann0⟩,
  ⟨(some 32), (Op.load 26 (Operand.tmp 31)), (some (22, true)), ann0⟩,
  ⟨(some 33), (Op.call { callee := (Callee.value (Operand.tmp 23)), args := #[(Operand.tmp 27), (Operand.tmp 32)], argTypes := #[26, 26] }), (some (22, true)), ann0⟩,
  ⟨(some 34), (Op.binOp BinOp.lss 3 (Operand.tmp 33) (Operand.const (Value.int IntKind.i64 0)) 3), (some (22, true)), ann0⟩,
  ⟨(some 35), (Op.unOp UnOp.not 4 (Operand.tmp 34)), (some (22, true)), ann0⟩,
  ⟨(some 36), (Op.pick (Operand.tmp 22) (Operand.tmp 35) (Operand.const (Value.bool false))), none, ann0⟩] (some [0, 0, 3, 7, 15, 15, 15, 111, 239, 15, 15, 1039, 3599, 7695, 16383, 32767, 65535, 131071])) (.tidy [0, 1, 2, 3, 9, 10, 36] z (z + 0)))
 (.cond (Operand.tmp 36) .skip
 (.exit 2))) (.tidy [0, 1, 2, 3, 9, 10] z (z + 0)))
 (.block 3 (.reg [⟨(some 37), (Op.move (Operand.tmp 9)), none, ann0⟩,
  ⟨(some 38), (Op.binOp BinOp.add 3 (Operand.tmp 37) (Operand.const (Value.int IntKind.i64 1)) 3), none, ann0⟩,
  ⟨(some 9), (Op.assign (Operand.tmp 38)), none, ann0⟩] none))) (.tidy [0, 1, 2, 3, 9, 10] z (z + 0))
def s109_2 (z : Nat) : SC := c109_2 z
theorem e109_2 {C : Pg} {z : Nat} {st : St} {ks : List Fr} {K : Ex → St → Prop} : wpk C (s109_2 z) st ks K ↔ wpk C (c109_2 z) st ks K := Iff.rfl
def c109_3 (z : Nat) : SC := .post (.seq (.seq (.post (.reg [⟨(some 68), (Op.move (Operand.tmp 11)), none, ann0⟩,
  ⟨(some 69), (Op.binOp BinOp.geq 3 (Operand.tmp 68) (Operand.const (Value.int IntKind.i64 1)) 3), none, ann0⟩] none) (.tidy [0, 1, 2, 3, 9, 10, 11, 69] z (z + 0)))
 (.cond (Operand.tmp 69) .skip
 (.exit 4)))
 (.seq (.post (.block 5 (.seq (.post (.seq (.post (.reg [⟨(some 72), (Op.move (Operand.tmp 3)), none, ann0⟩,
  ⟨(some 73), (Op.move (Operand.tmp 0)), none, ann0⟩,
  ⟨(some 74), (Op.move (Operand.tmp 11)), none, ann0⟩,
  ⟨(some 75), (Op.indexAddr 22 (Operand.tmp 73) (Operand.tmp 74)), none, ann0⟩,
  ⟨(some 76), (Op.load 26 (Operand.tmp 75)), none, ann0⟩,
  ⟨(some 77), (Op.move (Operand.tmp 0)), none, ann0⟩,
  ⟨(some 78), (Op.move (Operand.tmp 11)), none, ann0⟩,
  ⟨(some 79), (Op.binOp BinOp.sub 3 (Operand.tmp 78) (Operand.const (Value.int IntKind.i64 1)) 3), none, ann0⟩,
  ⟨(some 80), (Op.indexAddr 22 (Operand.tmp 77) (Operand.tmp 79)), none, ann0⟩,
  ⟨(some 81), (Op.load 26 (Operand.tmp 80)), none, ann0⟩,
  ⟨(some 82), (Op.call { callee := (Callee.value (Operand.tmp 72)), args := #[(Operand.tmp 76), (Operand.tmp 81)], argTypes := #[26, 26] }), none, ann0⟩,
  ⟨(some 83), (Op.binOp BinOp.lss 3 (Operand.tmp 82) (Operand.const (Value.int IntKind.i64 0)) 3), none, ann0⟩,
  ⟨(some 84), (Op.unOp UnOp.not 4 (Operand.tmp 83)), none, ann0⟩] (some [0, 0, 0, 6, 14, 0, 0, 64, 224, 480, 1023, 2047, 4095])) (.tidy [0, 1, 2, 3, 9, 10, 11, 84] z (z + 0)))
 (.cond (Operand.tmp 84) (.exit 4)
 .skip)) (.tidy [0, 1, 2, 3, 9, 10, 11] z (z + 0)))
 (.reg [⟨(some 85), (Op.move (Operand.tmp 0)), none, ann0⟩,
  ⟨(some 86), (Op.move (Operand.tmp 11)), none, ann0⟩,
  ⟨(some 87), (Op.move (Operand.tmp 0)), none, ann0⟩,
  ⟨(some 88), (Op.move (Operand.tmp 11)), none, ann0⟩,
  ⟨(some 89), (Op.binOp BinOp.sub 3 (Operand.tmp 88) (Operand.const (Value.int IntKind.i64 1)) 3), none, ann0⟩,
  ⟨(some 90), (Op.move (Operand.tmp 0)), none, ann0⟩,
  ⟨(some 91), (Op.move (Operand.tmp 11)), none, ann0⟩,
  ⟨(some 92), (Op.binOp BinOp.sub 3 (Operand.tmp 91) (Operand.const (Value.int IntKind.i64 1)) 3), none, ann0⟩,
  ⟨(some 93), (Op.indexAddr 22 (Operand.tmp 90) (Operand.tmp 92)), none, ann0⟩,
  ⟨(some 94), (Op.load 26 (Operand.tmp 93)), none, ann0⟩,
  ⟨(some 95), (Op.move (Operand.tmp 0)), none, ann0⟩,
  ⟨(some 96), (Op.move (Operand.tmp 11)), none, ann0⟩,
  ⟨(some 97), (Op.indexAddr 22 (Operand.tmp 95) (Operand.tmp 96)), none, ann0⟩,
  ⟨(some 98), (Op.load 26 (Operand.tmp 97)), none, ann0⟩,
  ⟨(some 99), (Op.indexAddr 22 (Operand.tmp 85) (Operand.tmp 86)), none, ann0⟩,
  ⟨none, (Op.store 26 (Operand.tmp 99) (Operand.tmp 94)), none, ann0⟩,
  ⟨(some 100), (Op.indexAddr 22 (Operand.tmp 87) (Operand.tmp 89)), none, ann0⟩,
  ⟨none, (Op.store 26 (Operand.tmp 100) (Operand.tmp 98)), none, ann0⟩] (some [0, 0, 0, 0, 8, 0, 0, 64, 224, 480, 0, 0, 3072, 7168, 16355, 32739, 65535, 131071])))) (.tidy [0, 1, 2, 3, 9, 10, 11] z (z + 0)))
 (.reg [⟨(some 70), (Op.move (Operand.tmp 11)), none, ann0⟩,
  ⟨(some 71), (Op.binOp BinOp.sub 3 (Operand.tmp 70) (Operand.const (Value.int IntKind.i64 1)) 3), none, ann0⟩,
  ⟨(some 11), (Op.assign (Operand.tmp 71)), none, ann0⟩] none))) (.tidy [0, 1, 2, 3, 9, 10, 11] z (z + 0))
def s109_3 (z : Nat) : SC := c109_3 z
theorem e109_3 {C : Pg} {z : Nat} {st : St} {ks : List Fr} {K : Ex → St → Prop} : wpk C (s109_3 z) st ks K ↔ wpk C (c109_3 z) st ks K := Iff.rfl
def c109_4 (z : Nat) : SC := .post (.seq (.seq (.post (.reg [⟨(some 107), (Op.move (Operand.tmp 12)), none, ann0⟩,
  ⟨(some 108), (Op.move (Operand.tmp 2)), none, ann0⟩,
  ⟨(some 109), (Op.binOp BinOp.lss 3 (Operand.tmp 107) (Operand.tmp 108) 3), none, ann0⟩] none) (.tidy [0, 1, 2, 3, 9, 10, 12, 109] z (z + 0)))
 (.cond (Operand.tmp 109) .skip
 (.exit 6)))
 (.seq (.post (.block 7 (.seq (.post (.seq (.post (.reg [⟨(some 112), (Op.move (Operand.tmp 3)), none, ann0⟩,
  ⟨(some 113), (Op.move (Operand.tmp 0)), none, ann0⟩,
  ⟨(some 114), (Op.move (Operand.tmp 12)), none, ann0⟩,
  ⟨(some 115), (Op.indexAddr 22 (Operand.tmp 113) (Operand.tmp 114)), none, ann0⟩,
  ⟨(some 116), (Op.load 26 (Operand.tmp 115)), none, ann0⟩,
  ⟨(some 117), (Op.move (Operand.tmp 0)), none, ann0⟩,
  ⟨(some 118), (Op.move (Operand.tmp 12)), none, ann0⟩,
  ⟨(some 119), (Op.binOp BinOp.sub 3 (Operand.tmp 118) (Operand.const (Value.int IntKind.i64 1)) 3), none, ann0⟩,
  ⟨(some 120), (Op.indexAddr 22 (Operand.tmp 117) (Operand.tmp 119)), none, ann0⟩,
  ⟨(some 121), (Op.load 26 (Operand.tmp 120)), none, ann0⟩,
  ⟨(some 122), (Op.call { callee := (Callee.value (Operand.tmp 112)), args := #[(Operand.tmp 116), (Operand.tmp 121)], argTypes := #[26, 26] }), none, ann0⟩,
  ⟨(some 123), (Op.binOp BinOp.lss 3 (Operand.tmp 122) (Operand.const (Value.int IntKind.i64 0)) 3), none, ann0⟩,
  ⟨(some 124), (Op.unOp UnOp.not 4 (Operand.tmp 123)), none, ann0⟩] (some [0, 0, 0, 6, 14, 0, 0, 64, 224, 480, 1023, 2047, 4095])) (.tidy [0, 1, 2, 3, 9, 10, 12, 124] z (z + 0)))
 (.cond (Operand.tmp 124) (.exit 6)
 .skip)) (.tidy [0, 1, 2, 3, 9, 10, 12] z (z + 0)))
 (.reg [⟨(some 125), (Op.move (Operand.tmp 0)), none, ann0⟩,
  ⟨(some 126), (Op.move (Operand.tmp 12)), none, ann0⟩,
  ⟨(some 127), (Op.move (Operand.tmp 0)), none, ann0⟩,
  ⟨(some 128), (Op.move (Operand.tmp 12)), none, ann0⟩,
  ⟨(some 129), (Op.binOp BinOp.sub 3 (Operand.tmp 128) (Operand.const (Value.int IntKind.i64 1)) 3), none, ann0⟩,
  ⟨(some 130), (Op.move (Operand.tmp 0)), none, ann0⟩,
  ⟨(some 131), (Op.move (Operand.tmp 12)), none, ann0⟩,
  ⟨(some 132), (Op.binOp BinOp.sub 3 (Operand.tmp 131) (Operand.const (Value.int IntKind.i64 1)) 3), none, ann0⟩,
  ⟨(some 133), (Op.indexAddr 22 (Operand.tmp 130) (Operand.tmp 132)), none, ann0⟩,
  ⟨(some 134), (Op.load 26 (Operand.tmp 133)), none, ann0⟩,
  ⟨(some 135), (Op.move (Operand.tmp 0)), none, ann0⟩,
  ⟨(some 136), (Op.move (Operand.tmp 12)), none, ann0⟩,
  ⟨(some 137), (Op.indexAddr 22 (Operand.tmp 135) (Operand.tmp 136)), none, ann0⟩,
  ⟨(some 138), (Op.load 26 (Operand.tmp 137)), none, ann0⟩,
  ⟨(some 139), (Op.indexAddr 22 (Operand.tmp 125) (Operand.tmp 126)), none, ann0⟩,
  ⟨none, (Op.store 26 (Operand.tmp 139) (Operand.tmp 134)), none, ann0⟩,
  ⟨(some 140), (Op.indexAddr 22 (Operand.tmp 127) (Operand.tmp 129)), none, ann0⟩,
  ⟨none, (Op.store 26 (Operand.tmp 140) (Operand.tmp 138)), none, ann0⟩] (some [0, 0, 0, 0, 8, 0, 0, 64, 224, 480, 0, 0, 3072, 7168, 16355, 32739, 65535, 131071])))) (.tidy [0, 1, 2, 3, 9, 10, 12] z (z + 0)))
 (.reg [⟨(some 110), (Op.move (Operand.tmp 12)), none, ann0⟩,
  ⟨(some 111), (Op.binOp BinOp.add 3 (Operand.tmp 110) (Operand.const (Value.int IntKind.i64 1)) 3), none, ann0⟩,
  ⟨(some 12), (Op.assign (Operand.tmp 111)), none, ann0⟩] none))) (.tidy [0, 1, 2, 3, 9, 10, 12] z (z + 0))
def s109_4 (z : Nat) : SC := c109_4 z
theorem e109_4 {C : Pg} {z : Nat} {st : St} {ks : List Fr} {K : Ex → St → Prop} : wpk C (s109_4 z) st ks K ↔ wpk C (c109_4 z) st ks K := Iff.rfl
def c109_1 (z : Nat) : SC := .post (.seq (.post (.seq (.reg [⟨(some 15), (Op.move (Operand.tmp 10)), none, ann0⟩,
  ⟨(some 16), (Op.binOp BinOp.lss 3 (Operand.tmp 15) (Operand.const (Value.int IntKind.i64 5)) 3), none, ann0⟩] none)
 (.cond (Operand.tmp 16) .skip
 (.exit 0))) (.tidy [0, 1, 2, 3, 9, 10] z (z + 0)))
 (.seq (.post (.block 1 (.seq (.post (.block 2 (.pre (.tidy [0, 1, 2, 3, 9, 10] z (z + 0)) (.loop (s109_2 z)))) (.tidy [0, 1, 2, 3, 9, 10] z (z + 0)))
 (.seq (.seq (.post (.reg [⟨(some 39), (Op.move (Operand.tmp 9)), none, ann0⟩,
  ⟨(some 40), (Op.move (Operand.tmp 2)), none, ann0⟩,
  ⟨(some 41), (Op.binOp BinOp.eql 3 (Operand.tmp 39) (Operand.tmp 40) 3), none, ann0⟩] none) (.tidy [0, 1, 2, 3, 9, 10, 41] z (z + 0)))
 (.cond (Operand.tmp 41) (.seq (.reg [⟨(some 8), (Op.assign (Operand.const (Value.bool true))), none, ann0⟩] none)
 .ret)
 .skip))
 (.seq (.seq (.post (.reg [⟨(some 42), (Op.move (Operand.tmp 2)), none, ann0⟩,
  ⟨(some 43), (Op.move (Operand.tmp 1)), none, ann0⟩,
  ⟨(some 44), (Op.binOp BinOp.sub 3 (Operand.tmp 42) (Operand.tmp 43) 3), none, ann0⟩,
  ⟨(some 45), (Op.binOp BinOp.lss 3 (Operand.tmp 44) (Operand.const (Value.int IntKind.i64 50)) 3), none, ann0⟩] none) (.tidy [0, 1, 2, 3, 9, 10, 45] z (z + 0)))
 (.cond (Operand.tmp 45) (.seq (.reg [⟨(some 8), (Op.assign (Operand.const (Value.bool false))), none, ann0⟩] none)
 .ret)
 .skip))
 (.seq (.post (.reg [⟨(some 46), (Op.move (Operand.tmp 0)), none, ann0⟩,
  ⟨(some 47), (Op.move (Operand.tmp 9)), none, ann0⟩,
  ⟨(some 48), (Op.move (Operand.tmp 0)), none, ann0⟩,
  ⟨(some 49), (Op.move (Operand.tmp 9)), none, ann0⟩,
  ⟨(some 50), (Op.binOp BinOp.sub 3 (Operand.tmp 49) (Operand.const (Value.int IntKind.i64 1)) 3), none, ann0⟩,
  ⟨(some 51), (Op.move (Operand.tmp 0)), none, ann0⟩,
  ⟨(some 52), (Op.move (Operand.tmp 9)), none, ann0⟩,
  ⟨(some 53), (Op.binOp BinOp.sub 3 (Operand.tmp 52) (Operand.const (Value.int IntKind.i64 1)) 3), none, ann0⟩,
  ⟨(some 54), (Op.indexAddr 22 (Operand.tmp 51) (Operand.tmp 53)), none, ann0⟩,
  ⟨(some 55), (Op.load 26 (Operand.tmp 54)), none, ann0⟩,
  ⟨(some 56), (Op.move (Operand.tmp 0)), none, ann0⟩,
  ⟨(some 57), (Op.move (Operand.tmp 9)), none, ann0⟩,
  ⟨(some 58), (Op.indexAddr 22 (Operand.tmp 56) (Operand.tmp 57)), none, ann0⟩,
  ⟨(some 59), (Op.load 26 (Operand.tmp 58)), none, ann0⟩,
  ⟨(some 60), (Op.indexAddr 22 (Operand.tmp 46) (Operand.tmp 47)), none, ann0⟩,
  ⟨none, (Op.store 26 (Operand.tmp 60) (Operand.tmp 55)), none, ann0⟩,
  ⟨(some 61), (Op.indexAddr 22 (Operand.tmp 48) (Operand.tmp 50)), none, ann0⟩,
  ⟨none, (Op.store 26 (Operand.tmp 61) (Operand.tmp 59)), none, ann0⟩] (some [0, 0, 0, 0, 8, 0, 0, 64, 224, 480, 0, 0, 3072, 7168, 16355, 32739, 65535, 131071])) (.tidy [0, 1, 2, 3, 9, 10] z (z + 0)))
 (.seq (.post (.seq (.reg [⟨(some 62), (Op.move (Operand.tmp 9)), none, ann0⟩,
  ⟨(some 63), (Op.move (Operand.tmp 1)), none, ann0⟩,
  ⟨(some 64), (Op.binOp BinOp.sub 3 (Operand.tmp 62) (Operand.tmp 63) 3), none, ann0⟩,
  ⟨(some 65), (Op.binOp BinOp.geq 3 (Operand.tmp 64) (Operand.const (Value.int IntKind.i64 2)) 3), none, ann0⟩] none)
 (.cond (Operand.tmp 65) (.seq (.reg [⟨(some 66), (Op.move (Operand.tmp 9)), none, ann0⟩,
  ⟨(some 67), (Op.binOp BinOp.sub 3 (Operand.tmp 66) (Operand.const (Value.int IntKind.i64 1)) 3), none, ann0⟩,
  ⟨(some 11), (Op.assign (Operand.tmp 67)), none, ann0⟩] none)
 (.post (.block 4 (.pre (.tidy [0, 1, 2, 3, 9, 10, 11] z (z + 0)) (.loop (s109_3 z)))) (.tidy [0, 1, 2, 3, 9, 10] z (z + 0))))
 .skip)) (.tidy [0, 1, 2, 3, 9, 10] z (z + 0)))
 (.seq (.reg [⟨(some 101), (Op.move (Operand.tmp 2)), none, ann0⟩,
  ⟨(some 102), (Op.move (Operand.tmp 9)), none, ann0⟩,
  ⟨(some 103), (Op.binOp BinOp.sub 3 (Operand.tmp 101) (Operand.tmp 102) 3), none, ann0⟩,
  ⟨(some 104), (Op.binOp BinOp.geq 3 (Operand.tmp 103) (Operand.const (Value.int IntKind.i64 2)) 3), none, ann0⟩] none)
 (.cond (Operand.tmp 104) (.seq (.reg [⟨(some 105), (Op.move (Operand.tmp 9)), none, ann0⟩,
  ⟨(some 106), (Op.binOp BinOp.add 3 (Operand.tmp 105) (Operand.const (Value.int IntKind.i64 1)) 3), none, ann0⟩,
  ⟨(some 12), (Op.assign (Operand.tmp 106)), none, ann0⟩] none)
 (.post (.block 6 (.pre (.tidy [0, 1, 2, 3, 9, 10, 12] z (z + 0)) (.loop (s109_4 z)))) (.tidy [0, 1, 2, 3, 9, 10] z (z + 0))))
 .skip)))))))) (.tidy [0, 1, 2, 3, 9, 10] z (z + 0)))
 (.reg [⟨(some 17), (Op.move (Operand.tmp 10)), none, ann0⟩,
  ⟨(some 18), (Op.binOp BinOp.add 3 (Operand.tmp 17) (Operand.const (Value.int IntKind.i64 1)) 3), none, ann0⟩,
  ⟨(some 10), (Op.assign (Operand.tmp 18)), none, ann0⟩] none))) (.tidy [0, 1, 2, 3, 9, 10] z (z + 0))
def s109_1 (z : Nat) : SC := c109_1 z
theorem e109_1 {C : Pg} {z : Nat} {st : St} {ks : List Fr} {K : Ex → St → Prop} : wpk C (s109_1 z) st ks K ↔ wpk C (c109_1 z) st ks K := Iff.rfl
def s109 (z : Nat) : SFn := ⟨4, 141, [(ResultVar.tmp 8)],
 (.seq (.reg [⟨(some 8), (Op.assign (Operand.const (Value.bool false))), none, ann0⟩] none)
 (.seq (.reg [⟨(some 13), (Op.move (Operand.tmp 1)), none, ann0⟩,
  ⟨(some 14), (Op.binOp BinOp.add 3 (Operand.tmp 13) (Operand.const (Value.int IntKind.i64 1)) 3), none, ann0⟩,
  ⟨(some 9), (Op.assign (Operand.tmp 14)), none, ann0⟩] none)
 (.seq (.post (.seq (.reg [⟨(some 10), (Op.assign (Operand.const (Value.int IntKind.i64 0))), none, ann0⟩] none)
 (.post (.block 0 (.pre (.tidy [0, 1, 2, 3, 9, 10] z (z + 0)) (.loop (s109_1 z)))) (.tidy [] z (z + 0)))) (.tidy [] z (z + 0)))
 (.seq (.reg [⟨(some 8), (Op.assign (Operand.const (Value.bool false))), none, ann0⟩] none)
 .ret))))⟩
theorem F109 (z : Nat) : FOk Try.prog 109 (s109 z) := by unfold FOk; kernel_rfl
def c110_2 (z : Nat) : SC := .post (.seq (.post (.seq (.post (.reg [⟨(some 31), (Op.move (Operand.tmp 11)), none, ann0⟩,
  ⟨(some 32), (Op.move (Operand.tmp 12)), none, ann0⟩,
  ⟨(some 33), (Op.binOp BinOp.leq 3 (Operand.tmp 31) (Operand.tmp 32) 3), none, ann0⟩,
  ⟨(some 34), (Op.move (Operand.tmp 33)), none, ann0⟩,
  ⟨(some 35), (Op.move (Operand.tmp 4)), (some (34, true)), ann0⟩,
  ⟨(some 36), (Op.move (Operand.tmp 0)), (some (34, true)), ann0⟩,
  ⟨(some 37), (Op.move (Operand.tmp 1)), (some (34, true)), ann0⟩,
  ⟨(some 38), (Op.indexAddr 22 (Operand.tmp 36) (Operand.tmp 37)), (some (34, true)), ann0⟩,
  ⟨(some 39), (Op.load 26 (Operand.tmp 38)), (some (34, true)), ann0⟩,
  ⟨(some 40), (Op.move (Operand.tmp 0)), (some (34, true)), ann0⟩,
  ⟨(some 41), (Op.move (Operand.tmp 11)), (some (34, true)), ann0⟩,
  ⟨(some 42), (Op.indexAddr 22 (Operand.tmp 40) (Operand.tmp 41)), (some (34, true)), ann0⟩,
  ⟨(some 43), (Op.load 26 (Operand.tmp 42)), (some (34, true)), ann0⟩,
  ⟨(some 44), (Op.call { callee := (Callee.value (Operand.tmp 35)), args := #[(Operand.tmp 39), (Operand.tmp 43)], argTypes := #[26, 26] }), (some (34, true)), ann0⟩,
  ⟨(some 45), (Op.binOp BinOp.lss 3 (Operand.tmp 44) (Operand.const (Value.int IntKind.i64 0)) 3), (some (34, true)), ann0⟩,
  ⟨(some 46), (Op.unOp UnOp.not 4 (Operand.tmp 45)), (some (34, true)), ann0⟩,
  ⟨(some 47), (Op.pick (Operand.tmp 34) (Operand.tmp 46) (Operand.const (Value.bool false))), none, ann0⟩] (some [0, 0, 3, 7, 15, 15, 15, 111, 239, 15, 15, 1551, 3599, 8191, 16383, 32767, 65535])) (.tidy [0, 1, 4, 11, 12, 47] z (z + 0)))
 (.cond (Operand.tmp 47) .skip
 (.exit 2))) (.tidy [0, 1, 4, 11, 12] z (z + 0)))
 (.block 3 (.reg [⟨(some 48), (Op.move (Operand.tmp 11)), none, ann0⟩,
  ⟨(some 49), (Op.binOp BinOp.add 3 (Operand.tmp 48) (Operand.const (Value.int IntKind.i64 1)) 3), none, ann0⟩,
  ⟨(some 11), (Op.assign (Operand.tmp 49)), none, ann0⟩] none))) (.tidy [0, 1, 4, 11, 12] z (z + 0))
def s110_2 (z : Nat) : SC := c110_2 z
theorem e110_2 {C : Pg} {z : Nat} {st : St} {ks : List Fr} {K : Ex → St → Prop} : wpk C (s110_2 z) st ks K ↔ wpk C (c110_2 z) st ks K := Iff.rfl
def c110_3 (z : Nat) : SC := .post (.seq (.post (.seq (.post (.reg [⟨(some 50), (Op.move (Operand.tmp 11)), none, ann0⟩,
  ⟨(some 51), (Op.move (Operand.tmp 12)), none, ann0⟩,
  ⟨(some 52), (Op.binOp BinOp.leq 3 (Operand.tmp 50) (Operand.tmp 51) 3), none, ann0⟩,
  ⟨(some 53), (Op.move (Operand.tmp 52)), none, ann0⟩,
  ⟨(some 54), (Op.move (Operand.tmp 4)), (some (53, true)), ann0⟩,
  ⟨(some 55), (Op.move (Operand.tmp 0)), (some (53, true)), ann0⟩,
  ⟨(some 56), (Op.move (Operand.tmp 1)), (some (53, true)), ann0⟩,
  ⟨(some 57), (Op.indexAddr 22 (Operand.tmp 55) (Operand.tmp 56)), (some (53, true)), ann0⟩,
  ⟨(some 58), (Op.load 26 (Operand.tmp 57)), (some (53, true)), ann0⟩,
  ⟨(some 59), (Op.move (Operand.tmp 0)), (some (53, true)), ann0⟩,
  ⟨(some 60), (Op.move (Operand.tmp 12)), (some (53, true)), ann0⟩,
  ⟨(some 61), (Op.indexAddr 22 (Operand.tmp 59) (Operand.tmp 60)), (some (53, true)), ann0⟩,
  ⟨(some 62), (Op.load 26 (Operand.tmp 61)), (some (53, true)), ann0⟩,
  ⟨(some 63), (Op.call { callee := (Callee.value (Operand.tmp 54)), args := #[(Operand.tmp 58), (Operand.tmp 62)], argTypes := #[26, 26] }), (some (53, true)), ann0⟩,
  ⟨(some 64), (Op.binOp BinOp.lss 3 (Operand.tmp 63) (Operand.const (Value.int IntKind.i64 0)) 3), (some (53, true)), ann0⟩,
  ⟨(some 65), (Op.pick (Operand.tmp 53) (Operand.tmp 64) (Operand.const (Value.bool false))), none, ann0⟩] (some [0, 0, 3, 7, 15, 15, 15, 111, 239, 15, 15, 1551, 3599, 8191, 16383, 32767])) (.tidy [0, 1, 4, 11, 12, 65] z (z + 0)))
 (.cond (Operand.tmp 65) .skip
 (.exit 4))) (.tidy [0, 1, 4, 11, 12] z (z + 0)))
 (.block 5 (.reg [⟨(some 66), (Op.move (Operand.tmp 12)), none, ann0⟩,
  ⟨(some 67), (Op.binOp BinOp.sub 3 (Operand.tmp 66) (Operand.const (Value.int IntKind.i64 1)) 3), none, ann0⟩,
  ⟨(some 12), (Op.assign (Operand.tmp 67)), none, ann0⟩] none))) (.tidy [0, 1, 4, 11, 12] z (z + 0))
def s110_3 (z : Nat) : SC := c110_3 z
theorem e110_3 {C : Pg} {z : Nat} {st : St} {ks : List Fr} {K : Ex → St → Prop} : wpk C (s110_3 z) st ks K ↔ wpk C (c110_3 z) st ks K := Iff.rfl
def c110_1 (z : Nat) : SC := .post (.post (.block 1 (.seq (.post (.block 2 (.pre (.tidy [0, 1, 4, 11, 12] z (z + 0)) (.loop (s110_2 z)))) (.tidy [0, 1, 4, 11, 12] z (z + 0)))
 (.seq (.post (.block 4 (.pre (.tidy [0, 1, 4, 11, 12] z (z + 0)) (.loop (s110_3 z)))) (.tidy [0, 1, 4, 11, 12] z (z + 0)))
 (.seq (.seq (.post (.reg [⟨(some 68), (Op.move (Operand.tmp 11)), none, ann0⟩,
  ⟨(some 69), (Op.move (Operand.tmp 12)), none, ann0⟩,
  ⟨(some 70), (Op.binOp BinOp.gtr 3 (Operand.tmp 68) (Operand.tmp 69) 3), none, ann0⟩] none) (.tidy [0, 1, 4, 11, 12, 70] z (z + 0)))
 (.cond (Operand.tmp 70) (.exit 0)
 .skip))
 (.seq (.post (.reg [⟨(some 71), (Op.move (Operand.tmp 0)), none, ann0⟩,
  ⟨(some 72), (Op.move (Operand.tmp 11)), none, ann0⟩,
  ⟨(some 73), (Op.move (Operand.tmp 0)), none, ann0⟩,
  ⟨(some 74), (Op.move (Operand.tmp 12)), none, ann0⟩,
  ⟨(some 75), (Op.move (Operand.tmp 0)), none, ann0⟩,
  ⟨(some 76), (Op.move (Operand.tmp 12)), none, ann0⟩,
  ⟨(some 77), (Op.indexAddr 22 (Operand.tmp 75) (Operand.tmp 76)), none, ann0⟩,
  ⟨(some 78), (Op.load 26 (Operand.tmp 77)), none, ann0⟩,
  ⟨(some 79), (Op.move (Operand.tmp 0)), none, ann0⟩,
  ⟨(some 80), (Op.move (Operand.tmp 11)), none, ann0⟩,
  ⟨(some 81), (Op.indexAddr 22 (Operand.tmp 79) (Operand.tmp 80)), none, ann0⟩,
  ⟨(some 82), (Op.load 26 (Operand.tmp 81)), none, ann0⟩,
  ⟨(some 83), (Op.indexAddr 22 (Operand.tmp 71) (Operand.tmp 72)), none, ann0⟩,
  ⟨none, (Op.store 26 (Operand.tmp 83) (Operand.tmp 78)), none, ann0⟩,
  ⟨(some 84), (Op.indexAddr 22 (Operand.tmp 73) (Operand.tmp 74)), none, ann0⟩,
  ⟨none, (Op.store 26 (Operand.tmp 84) (Operand.tmp 82)), none, ann0⟩] (some [0, 0, 0, 0, 0, 0, 48, 112, 0, 0, 768, 1792, 4083, 8179, 16383, 32767])) (.tidy [0, 1, 4, 11, 12] z (z + 0)))
 (.seq (.reg [⟨(some 85), (Op.move (Operand.tmp 11)), none, ann0⟩,
  ⟨(some 86), (Op.binOp BinOp.add 3 (Operand.tmp 85) (Operand.const (Value.int IntKind.i64 1)) 3), none, ann0⟩,
  ⟨(some 11), (Op.assign (Operand.tmp 86)), none, ann0⟩] none)
 (.reg [⟨(some 87), (Op.move (Operand.tmp 12)), none, ann0⟩,
  ⟨(some 88), (Op.binOp BinOp.sub 3 (Operand.tmp 87) (Operand.const (Value.int IntKind.i64 1)) 3), none, ann0⟩,
  ⟨(some 12), (Op.assign (Operand.tmp 88)), none, ann0⟩] none))))))) (.tidy [0, 1, 4, 11, 12] z (z + 0))) (.tidy [0, 1, 4, 11, 12] z (z + 0))
def s110_1 (z : Nat) : SC := c110_1 z
theorem e110_1 {C : Pg} {z : Nat} {st : St} {ks : List Fr} {K : Ex → St → Prop} : wpk C (s110_1 z) st ks K ↔ wpk C (c110_1 z) st ks K := Iff.rfl
def s110 (z : Nat) : SFn := ⟨5, 90, [(ResultVar.tmp 10)],
 (.seq (.reg [⟨(some 10), (Op.assign (Operand.const (Value.int IntKind.i64 0))), none, ann0⟩] none)
 (.seq (.post (.reg [⟨(some 13), (Op.move (Operand.tmp 0)), none, ann0⟩,
  ⟨(some 14), (Op.move (Operand.tmp 1)), none, ann0⟩,
  ⟨(some 15), (Op.move (Operand.tmp 0)), none, ann0⟩,
  ⟨(some 16), (Op.move (Operand.tmp 3)), none, ann0⟩,
  ⟨(some 17), (Op.move (Operand.tmp 0)), none, ann0⟩,
  ⟨(some 18), (Op.move (Operand.tmp 3)), none, ann0⟩,
  ⟨(some 19), (Op.indexAddr 22 (Operand.tmp 17) (Operand.tmp 18)), none, ann0⟩,
  ⟨(some 20), (Op.load 26 (Operand.tmp 19)), none, ann0⟩,
  ⟨(some 21), (Op.move (Operand.tmp 0)), none, ann0⟩,
  ⟨(some 22), (Op.move (Operand.tmp 1)), none, ann0⟩,
  ⟨(some 23), (Op.indexAddr 22 (Operand.tmp 21) (Operand.tmp 22)), none, ann0⟩,
  ⟨(some 24), (Op.load 26 (Operand.tmp 23)), none, ann0⟩,
  ⟨(some 25), (Op.indexAddr 22 (Operand.tmp 13) (Operand.tmp 14)), none, ann0⟩,
  ⟨none, (Op.store 26 (Operand.tmp 25) (Operand.tmp 20)), none, ann0⟩,
  ⟨(some 26), (Op.indexAddr 22 (Operand.tmp 15) (Operand.tmp 16)), none, ann0⟩,
  ⟨none, (Op.store 26 (Operand.tmp 26) (Operand.tmp 24)), none, ann0⟩] (some [0, 0, 0, 0, 0, 0, 48, 112, 0, 0, 768, 1792, 4083, 8179, 16383, 32767])) (.tidy [0, 1, 2, 4] z (z + 0)))
 (.seq (.reg [⟨(some 27), (Op.move (Operand.tmp 1)), none, ann0⟩,
  ⟨(some 28), (Op.binOp BinOp.add 3 (Operand.tmp 27) (Operand.const (Value.int IntKind.i64 1)) 3), none, ann0⟩,
  ⟨(some 29), (Op.move (Operand.tmp 2)), none, ann0⟩,
  ⟨(some 30), (Op.binOp BinOp.sub 3 (Operand.tmp 29) (Operand.const (Value.int IntKind.i64 1)) 3), none, ann0⟩,
  ⟨(some 11), (Op.assign (Operand.tmp 28)), none, ann0⟩,
  ⟨(some 12), (Op.assign (Operand.tmp 30)), none, ann0⟩] none)
 (.seq (.post (.block 0 (.pre (.tidy [0, 1, 4, 11, 12] z (z + 0)) (.loop (s110_1 z)))) (.tidy [11] z (z + 0)))
 (.seq (.reg [⟨(some 89), (Op.move (Operand.tmp 11)), none, ann0⟩,
  ⟨(some 10), (Op.assign (Operand.tmp 89)), none, ann0⟩] none)
 .ret)))))⟩
theorem F110 (z : Nat) : FOk Try.prog 110 (s110 z) := by unfold FOk; kernel_rfl
def c111_1 (z : Nat) : SC := .post (.seq (.post (.seq (.post (.reg [⟨(some 32), (Op.move (Operand.tmp 12)), none, ann0⟩,
  ⟨(some 33), (Op.move (Operand.tmp 13)), none, ann0⟩,
  ⟨(some 34), (Op.binOp BinOp.leq 3 (Operand.tmp 32) (Operand.tmp 33) 3), none, ann0⟩,
  ⟨(some 35), (Op.move (Operand.tmp 34)), none, ann0⟩,
  ⟨(some 36), (Op.move (Operand.tmp 4)), (some (35, true)), ann0⟩,
  ⟨(some 37), (Op.move (Operand.tmp 0)), (some (35, true)), ann0⟩,
  ⟨(some 38), (Op.move (Operand.tmp 12)), (some (35, true)), ann0⟩,
  ⟨(some 39), (Op.indexAddr 22 (Operand.tmp 37) (Operand.tmp 38)), (some (35, true)), ann0⟩,
  ⟨(some 40), (Op.load 26 (Operand.tmp 39)), (some (35, true)), ann0⟩,
  ⟨(some 41), (Op.move (Operand.tmp 0)), (some (35, true)), ann0⟩,
  ⟨(some 42), (Op.move (Operand.tmp 1)), (some (35, true)), ann0⟩,
  ⟨(some 43), (Op.indexAddr 22 (Operand.tmp 41) (Operand.tmp 42)), (some (35, true)), ann0⟩,
  ⟨(some 44), (Op.load 26 (Operand.tmp 43)), (some (35, true)), ann0⟩,
  ⟨(some 45), (Op.call { callee := (Callee.value (Operand.tmp 36)), args := #[(Operand.tmp 40), (Operand.tmp 44)], argTypes := #[26, 26] }), (some (35, true)), ann0⟩,
  ⟨(some 46), (Op.binOp BinOp.lss 3 (Operand.tmp 45) (Operand.const (Value.int IntKind.i64 0)) 3), (some (35, true)), ann0⟩,
  ⟨(some 47), (Op.pick (Operand.tmp 35) (Operand.tmp 46) (Operand.const (Value.bool false))), none, ann0⟩] (some [0, 0, 3, 7, 15, 15, 15, 111, 239, 15, 15, 1551, 3599, 8191, 16383, 32767])) (.tidy [0, 1, 4, 12, 13, 47] z (z + 0)))
 (.cond (Operand.tmp 47) .skip
 (.exit 0))) (.tidy [0, 1, 4, 12, 13] z (z + 0)))
 (.block 1 (.reg [⟨(some 48), (Op.move (Operand.tmp 12)), none, ann0⟩,
  ⟨(some 49), (Op.binOp BinOp.add 3 (Operand.tmp 48) (Operand.const (Value.int IntKind.i64 1)) 3), none, ann0⟩,
  ⟨(some 12), (Op.assign (Operand.tmp 49)), none, ann0⟩] none))) (.tidy [0, 1, 4, 12, 13] z (z + 0))
def s111_1 (z : Nat) : SC := c111_1 z
theorem e111_1 {C : Pg} {z : Nat} {st : St} {ks : List Fr} {K : Ex → St → Prop} : wpk C (s111_1 z) st ks K ↔ wpk C (c111_1 z) st ks K := Iff.rfl
def c111_2 (z : Nat) : SC := .post (.seq (.post (.seq (.post (.reg [⟨(some 50), (Op.move (Operand.tmp 12)), none, ann0⟩,
  ⟨(some 51), (Op.move (Operand.tmp 13)), none, ann0⟩,
  ⟨(some 52), (Op.binOp BinOp.leq 3 (Operand.tmp 50) (Operand.tmp 51) 3), none, ann0⟩,
  ⟨(some 53), (Op.move (Operand.tmp 52)), none, ann0⟩,
  ⟨(some 54), (Op.move (Operand.tmp 4)), (some (53, true)), ann0⟩,
  ⟨(some 55), (Op.move (Operand.tmp 0)), (some (53, true)), ann0⟩,
  ⟨(some 56), (Op.move (Operand.tmp 13)), (some (53, true)), ann0⟩,
  ⟨(some 57), (Op.indexAddr 22 (Operand.tmp 55) (Operand.tmp 56)), (some (53, true)), ann0⟩,
  ⟨(some 58), (Op.load 26 (Operand.tmp 57)), (some (53, true)), ann0⟩,
  ⟨(some 59), (Op.move (Operand.tmp 0)), (some (53, true)), ann0⟩,
  ⟨(some 60), (Op.move (Operand.tmp 1)), (some (53, true)), ann0⟩,
  ⟨(some 61), (Op.indexAddr 22 (Operand.tmp 59) (Operand.tmp 60)), (some (53, true)), ann0⟩,
  ⟨(some 62), (Op.load 26 (Operand.tmp 61)), (some (53, true)), ann0⟩,
  ⟨(some 63), (Op.call { callee := (Callee.value (Operand.tmp 54)), args := #[(Operand.tmp 58), (Operand.tmp 62)], argTypes := #[26, 26] }), (some (53, true)), ann0⟩,
  ⟨(some 64), (Op.binOp BinOp.lss 3 (Operand.tmp 63) (Operand.const (Value.int IntKind.i64 0)) 3), (some (53, true)), ann0⟩,
  ⟨(some 65), (Op.unOp UnOp.not 4 (Operand.tmp 64)), (some (53, true)), ann0⟩,
  ⟨(some 66), (Op.pick (Operand.tmp 53) (Operand.tmp 65) (Operand.const (Value.bool false))), none, ann0⟩] (some [0, 0, 3, 7, 15, 15, 15, 111, 239, 15, 15, 1551, 3599, 8191, 16383, 32767, 65535])) (.tidy [0, 1, 4, 12, 13, 66] z (z + 0)))
 (.cond (Operand.tmp 66) .skip
 (.exit 2))) (.tidy [0, 1, 4, 12, 13] z (z + 0)))
 (.block 3 (.reg [⟨(some 67), (Op.move (Operand.tmp 13)), none, ann0⟩,
  ⟨(some 68), (Op.binOp BinOp.sub 3 (Operand.tmp 67) (Operand.const (Value.int IntKind.i64 1)) 3), none, ann0⟩,
  ⟨(some 13), (Op.assign (Operand.tmp 68)), none, ann0⟩] none))) (.tidy [0, 1, 4, 12, 13] z (z + 0))
def s111_2 (z : Nat) : SC := c111_2 z
theorem e111_2 {C : Pg} {z : Nat} {st : St} {ks : List Fr} {K : Ex → St → Prop} : wpk C (s111_2 z) st ks K ↔ wpk C (c111_2 z) st ks K := Iff.rfl
def c111_4 (z : Nat) : SC := .post (.seq (.post (.seq (.post (.reg [⟨(some 105), (Op.move (Operand.tmp 12)), none, ann0⟩,
  ⟨(some 106), (Op.move (Operand.tmp 13)), none, ann0⟩,
  ⟨(some 107), (Op.binOp BinOp.leq 3 (Operand.tmp 105) (Operand.tmp 106) 3), none, ann0⟩,
  ⟨(some 108), (Op.move (Operand.tmp 107)), none, ann0⟩,
  ⟨(some 109), (Op.move (Operand.tmp 4)), (some (108, true)), ann0⟩,
  ⟨(some 110), (Op.move (Operand.tmp 0)), (some (108, true)), ann0⟩,
  ⟨(some 111), (Op.move (Operand.tmp 12)), (some (108, true)), ann0⟩,
  ⟨(some 112), (Op.indexAddr 22 (Operand.tmp 110) (Operand.tmp 111)), (some (108, true)), ann0⟩,
  ⟨(some 113), (Op.load 26 (Operand.tmp 112)), (some (108, true)), ann0⟩,
  ⟨(some 114), (Op.move (Operand.tmp 0)), (some (108, true)), ann0⟩,
  ⟨(some 115), (Op.move (Operand.tmp 1)), (some (108, true)), ann0⟩,
  ⟨(some 116), (Op.indexAddr 22 (Operand.tmp 114) (Operand.tmp 115)), (some (108, true)), ann0⟩,
  ⟨(some 117), (Op.load 26 (Operand.tmp 116)), (some (108, true)), ann0⟩,
  ⟨(some 118), (Op.call { callee := (Callee.value (Operand.tmp 109)), args := #[(Operand.tmp 113), (Operand.tmp 117)], argTypes := #[26, 26] }), (some (108, true)), ann0⟩,
  ⟨(some 119), (Op.binOp BinOp.lss 3 (Operand.tmp 118) (Operand.const (Value.int IntKind.i64 0)) 3), (some (108, true)), ann0⟩,
  ⟨(some 120), (Op.pick (Operand.tmp 108) (Operand.tmp 119) (Operand.const (Value.bool false))), none, ann0⟩] (some [0, 0, 3, 7, 15, 15, 15, 111, 239, 15, 15, 1551, 3599, 8191, 16383, 32767])) (.tidy [0, 1, 4, 12, 13, 120] z (z + 0)))
 (.cond (Operand.tmp 120) .skip
 (.exit 6))) (.tidy [0, 1, 4, 12, 13] z (z + 0)))
 (.block 7 (.reg [⟨(some 121), (Op.move (Operand.tmp 12)), none, ann0⟩,
  ⟨(some 122), (Op.binOp BinOp.add 3 (Operand.tmp 121) (Operand.const (Value.int IntKind.i64 1)) 3), none, ann0⟩,
  ⟨(some 12), (Op.assign (Operand.tmp 122)), none, ann0⟩] none))) (.tidy [0, 1, 4, 12, 13] z (z + 0))
def s111_4 (z : Nat) : SC := c111_4 z
theorem e111_4 {C : Pg} {z : Nat} {st : St} {ks : List Fr} {K : Ex → St → Prop} : wpk C (s111_4 z) st ks K ↔ wpk C (c111_4 z) st ks K := Iff.rfl
def c111_5 (z : Nat) : SC := .post (.seq (.post (.seq (.post (.reg [⟨(some 123), (Op.move (Operand.tmp 12)), none, ann0⟩,
  ⟨(some 124), (Op.move (Operand.tmp 13)), none, ann0⟩,
  ⟨(some 125), (Op.binOp BinOp.leq 3 (Operand.tmp 123) (Operand.tmp 124) 3), none, ann0⟩,
  ⟨(some 126), (Op.move (Operand.tmp 125)), none, ann0⟩,
  ⟨(some 127), (Op.move (Operand.tmp 4)), (some (126, true)), ann0⟩,
  ⟨(some 128), (Op.move (Operand.tmp 0)), (some (126, true)), ann0⟩,
  ⟨(some 129), (Op.move (Operand.tmp 13)), (some (126, true)), ann0⟩,
  ⟨(some 130), (Op.indexAddr 22 (Operand.tmp 128) (Operand.tmp 129)), (some (126, true)), ann0⟩,
  ⟨(some 131), (Op.load 26 (Operand.tmp 130)), (some (126, true)), ann0⟩,
  ⟨(some 132), (Op.move (Operand.tmp 0)), (some (126, true)), ann0⟩,
  ⟨(some 133), (Op.move (Operand.tmp 1)), (some (126, true)), ann0⟩,
  ⟨(some 134), (Op.indexAddr 22 (Operand.tmp 132) (Operand.tmp 133)), (some (126, true)), ann0⟩,
  ⟨(some 135), (Op.load 26 (Operand.tmp 134)), (some (126, true)), ann0⟩,
  ⟨(some 136), (Op.call { callee := (Callee.value (Operand.tmp 127)), args := #[(Operand.tmp 131), (Operand.tmp 135)], argTypes := #[26, 26] }), (some (126, true)), ann0⟩,
  ⟨(some 137), (Op.binOp BinOp.lss 3 (Operand.tmp 136) (Operand.const (Value.int IntKind.i64 0)) 3), (some (126, true)), ann0⟩,
  ⟨(some 138), (Op.unOp UnOp.not 4 (Operand.tmp 137)), (some (126, true)), ann0⟩,
  ⟨(some 139), (Op.pick (Operand.tmp 126) (Operand.tmp 138) (Operand.const (Value.bool false))), none, ann0⟩] (some [0, 0, 3, 7, 15, 15, 15, 111, 239, 15, 15, 1551, 3599, 8191, 16383, 32767, 65535])) (.tidy [0, 1, 4, 12, 13, 139] z (z + 0)))
 (.cond (Operand.tmp 139) .skip
 (.exit 8))) (.tidy [0, 1, 4, 12, 13] z (z + 0)))
 (.block 9 (.reg [⟨(some 140), (Op.move (Operand.tmp 13)), none, ann0⟩,
  ⟨(some 141), (Op.binOp BinOp.sub 3 (Operand.tmp 140) (Operand.const (Value.int IntKind.i64 1)) 3), none, ann0⟩,
  ⟨(some 13), (Op.assign (Operand.tmp 141)), none, ann0⟩] none))) (.tidy [0, 1, 4, 12, 13] z (z + 0))
def s111_5 (z : Nat) : SC := c111_5 z
theorem e111_5 {C : Pg} {z : Nat} {st : St} {ks : List Fr} {K : Ex → St → Prop} : wpk C (s111_5 z) st ks K ↔ wpk C (c111_5 z) st ks K := Iff.rfl
def c111_3 (z : Nat) : SC := .post (.post (.block 5 (.seq (.post (.block 6 (.pre (.tidy [0, 1, 4, 12, 13] z (z + 0)) (.loop (s111_4 z)))) (.tidy [0, 1, 4, 12, 13] z (z + 0)))
 (.seq (.post (.block 8 (.pre (.tidy [0, 1, 4, 12, 13] z (z + 0)) (.loop (s111_5 z)))) (.tidy [0, 1, 4, 12, 13] z (z + 0)))
 (.seq (.seq (.post (.reg [⟨(some 142), (Op.move (Operand.tmp 12)), none, ann0⟩,
  ⟨(some 143), (Op.move (Operand.tmp 13)), none, ann0⟩,
  ⟨(some 144), (Op.binOp BinOp.gtr 3 (Operand.tmp 142) (Operand.tmp 143) 3), none, ann0⟩] none) (.tidy [0, 1, 4, 12, 13, 144] z (z + 0)))
 (.cond (Operand.tmp 144) (.exit 4)
 .skip))
 (.seq (.post (.reg [⟨(some 145), (Op.move (Operand.tmp 0)), none, ann0⟩,
  ⟨(some 146), (Op.move (Operand.tmp 12)), none, ann0⟩,
  ⟨(some 147), (Op.move (Operand.tmp 0)), none, ann0⟩,
  ⟨(some 148), (Op.move (Operand.tmp 13)), none, ann0⟩,
  ⟨(some 149), (Op.move (Operand.tmp 0)), none, ann0⟩,
  ⟨(some 150), (Op.move (Operand.tmp 13)), none, ann0⟩,
  ⟨(some 151), (Op.indexAddr 22 (Operand.tmp 149) (Operand.tmp 150)), none, ann0⟩,
  ⟨(some 152), (Op.load 26 (Operand.tmp 151)), none, ann0⟩,
  ⟨(some 153), (Op.move (Operand.tmp 0)), none, ann0⟩,
  ⟨(some 154), (Op.move (Operand.tmp 12)), none, ann0⟩,
  ⟨(some 155), (Op.indexAddr 22 (Operand.tmp 153) (Operand.tmp 154)), none, ann0⟩,
  ⟨(some 156), (Op.load 26 (Operand.tmp 155)), none, ann0⟩,
  ⟨(some 157), (Op.indexAddr 22 (Operand.tmp 145) (Operand.tmp 146)), none, ann0⟩,
  ⟨none, (Op.store 26 (Operand.tmp 157) (Operand.tmp 152)), none, ann0⟩,
  ⟨(some 158), (Op.indexAddr 22 (Operand.tmp 147) (Operand.tmp 148)), none, ann0⟩,
  ⟨none, (Op.store 26 (Operand.tmp 158) (Operand.tmp 156)), none, ann0⟩] (some [0, 0, 0, 0, 0, 0, 48, 112, 0, 0, 768, 1792, 4083, 8179, 16383, 32767])) (.tidy [0, 1, 4, 12, 13] z (z + 0)))
 (.seq (.reg [⟨(some 159), (Op.move (Operand.tmp 12)), none, ann0⟩,
  ⟨(some 160), (Op.binOp BinOp.add 3 (Operand.tmp 159) (Operand.const (Value.int IntKind.i64 1)) 3), none, ann0⟩,
  ⟨(some 12), (Op.assign (Operand.tmp 160)), none, ann0⟩] none)
 (.reg [⟨(some 161), (Op.move (Operand.tmp 13)), none, ann0⟩,
  ⟨(some 162), (Op.binOp BinOp.sub 3 (Operand.tmp 161) (Operand.const (Value.int IntKind.i64 1)) 3), none, ann0⟩,
  ⟨(some 13), (Op.assign (Operand.tmp 162)), none, ann0⟩] none))))))) (.tidy [0, 1, 4, 12, 13] z (z + 0))) (.tidy [0, 1, 4, 12, 13] z (z + 0))
def s111_3 (z : Nat) : SC := c111_3 z
theorem e111_3 {C : Pg} {z : Nat} {st : St} {ks : List Fr} {K : Ex → St → Prop} : wpk C (s111_3 z) st ks K ↔ wpk C (c111_3 z) st ks K := Iff.rfl
def s111 (z : Nat) : SFn := ⟨5, 178, [(ResultVar.tmp 10), (ResultVar.tmp 11)],
 (.seq (.reg [⟨(some 10), (Op.assign (Operand.const (Value.int IntKind.i64 0))), none, ann0⟩,
  ⟨(some 11), (Op.assign (Operand.const (Value.bool false))), none, ann0⟩] none)
 (.seq (.post (.reg [⟨(some 14), (Op.move (Operand.tmp 0)), none, ann0⟩,
  ⟨(some 15), (Op.move (Operand.tmp 1)), none, ann0⟩,
  ⟨(some 16), (Op.move (Operand.tmp 0)), none, ann0⟩,
  ⟨(some 17), (Op.move (Operand.tmp 3)), none, ann0⟩,
  ⟨(some 18), (Op.move (Operand.tmp 0)), none, ann0⟩,
  ⟨(some 19), (Op.move (Operand.tmp 3)), none, ann0⟩,
  ⟨(some 20), (Op.indexAddr 22 (Operand.tmp 18) (Operand.tmp 19)), none, ann0⟩,
  ⟨(some 21), (Op.load 26 (Operand.tmp 20)), none, ann0⟩,
  ⟨(some 22), (Op.move (Operand.tmp 0)), none, ann0⟩,
  ⟨(some 23), (Op.move (Operand.tmp 1)), none, ann0⟩,
  ⟨(some 24), (Op.indexAddr 22 (Operand.tmp 22) (Operand.tmp 23)), none, ann0⟩,
  ⟨(some 25), (Op.load 26 (Operand.tmp 24)), none, ann0⟩,
  ⟨(some 26), (Op.indexAddr 22 (Operand.tmp 14) (Operand.tmp 15)), none, ann0⟩,
  ⟨none, (Op.store 26 (Operand.tmp 26) (Operand.tmp 21)), none, ann0⟩,
  ⟨(some 27), (Op.indexAddr 22 (Operand.tmp 16) (Operand.tmp 17)), none, ann0⟩,
  ⟨none, (Op.store 26 (Operand.tmp 27) (Operand.tmp 25)), none, ann0⟩] (some [0, 0, 0, 0, 0, 0, 48, 112, 0, 0, 768, 1792, 4083, 8179, 16383, 32767])) (.tidy [0, 1, 2, 4] z (z + 0)))
 (.seq (.reg [⟨(some 28), (Op.move (Operand.tmp 1)), none, ann0⟩,
  ⟨(some 29), (Op.binOp BinOp.add 3 (Operand.tmp 28) (Operand.const (Value.int IntKind.i64 1)) 3), none, ann0⟩,
  ⟨(some 30), (Op.move (Operand.tmp 2)), none, ann0⟩,
  ⟨(some 31), (Op.binOp BinOp.sub 3 (Operand.tmp 30) (Operand.const (Value.int IntKind.i64 1)) 3), none, ann0⟩,
  ⟨(some 12), (Op.assign (Operand.tmp 29)), none, ann0⟩,
  ⟨(some 13), (Op.assign (Operand.tmp 31)), none, ann0⟩] none)
 (.seq (.post (.block 0 (.pre (.tidy [0, 1, 4, 12, 13] z (z + 0)) (.loop (s111_1 z)))) (.tidy [0, 1, 4, 12, 13] z (z + 0)))
 (.seq (.post (.block 2 (.pre (.tidy [0, 1, 4, 12, 13] z (z + 0)) (.loop (s111_2 z)))) (.tidy [0, 1, 4, 12, 13] z (z + 0)))
 (.seq (.post (.seq (.post (.reg [⟨(some 69), (Op.move (Operand.tmp 12)), none, ann0⟩,
  ⟨(some 70), (Op.move (Operand.tmp 13)), none, ann0⟩,
  ⟨(some 71), (Op.binOp BinOp.gtr 3 (Operand.tmp 69) (Operand.tmp 70) 3), none, ann0⟩] none) (.tidy [0, 1, 4, 12, 13, 71] z (z + 0)))
 (.cond (Operand.tmp 71) (.seq (.post (.reg [⟨(some 72), (Op.move (Operand.tmp 0)), none, ann0⟩,
  ⟨(some 73), (Op.move (Operand.tmp 13)), none, ann0⟩,
  ⟨(some 74), (Op.move (Operand.tmp 0)), none, ann0⟩,
  ⟨(some 75), (Op.move (Operand.tmp 1)), none, ann0⟩,
  ⟨(some 76), (Op.move (Operand.tmp 0)), none, ann0⟩,
  ⟨(some 77), (Op.move (Operand.tmp 1)), none, ann0⟩,
  ⟨(some 78), (Op.indexAddr 22 (Operand.tmp 76) (Operand.tmp 77)), none, ann0⟩,
  ⟨(some 79), (Op.load 26 (Operand.tmp 78)), none, ann0⟩,
  ⟨(some 80), (Op.move (Operand.tmp 0)), none, ann0⟩,
  ⟨(some 81), (Op.move (Operand.tmp 13)), none, ann0⟩,
  ⟨(some 82), (Op.indexAddr 22 (Operand.tmp 80) (Operand.tmp 81)), none, ann0⟩,
  ⟨(some 83), (Op.load 26 (Operand.tmp 82)), none, ann0⟩,
  ⟨(some 84), (Op.indexAddr 22 (Operand.tmp 72) (Operand.tmp 73)), none, ann0⟩,
  ⟨none, (Op.store 26 (Operand.tmp 84) (Operand.tmp 79)), none, ann0⟩,
  ⟨(some 85), (Op.indexAddr 22 (Operand.tmp 74) (Operand.tmp 75)), none, ann0⟩,
  ⟨none, (Op.store 26 (Operand.tmp 85) (Operand.tmp 83)), none, ann0⟩] (some [0, 0, 0, 0, 0, 0, 48, 112, 0, 0, 768, 1792, 4083, 8179, 16383, 32767])) (.tidy [13] z (z + 0)))
 (.seq (.reg [⟨(some 86), (Op.move (Operand.tmp 13)), none, ann0⟩,
  ⟨(some 10), (Op.assign (Operand.tmp 86)), none, ann0⟩,
  ⟨(some 11), (Op.assign (Operand.const (Value.bool true))), none, ann0⟩] none)
 .ret))
 .skip)) (.tidy [0, 1, 4, 12, 13] z (z + 0)))
 (.seq (.post (.reg [⟨(some 87), (Op.move (Operand.tmp 0)), none, ann0⟩,
  ⟨(some 88), (Op.move (Operand.tmp 12)), none, ann0⟩,
  ⟨(some 89), (Op.move (Operand.tmp 0)), none, ann0⟩,
  ⟨(some 90), (Op.move (Operand.tmp 13)), none, ann0⟩,
  ⟨(some 91), (Op.move (Operand.tmp 0)), none, ann0⟩,
  ⟨(some 92), (Op.move (Operand.tmp 13)), none, ann0⟩,
  ⟨(some 93), (Op.indexAddr 22 (Operand.tmp 91) (Operand.tmp 92)), none, ann0⟩,
  ⟨(some 94), (Op.load 26 (Operand.tmp 93)), none, ann0⟩,
  ⟨(some 95), (Op.move (Operand.tmp 0)), none, ann0⟩,
  ⟨(some 96), (Op.move (Operand.tmp 12)), none, ann0⟩,
  ⟨(some 97), (Op.indexAddr 22 (Operand.tmp 95) (Operand.tmp 96)), none, ann0⟩,
  ⟨(some 98), (Op.load 26 (Operand.tmp 97)), none, ann0⟩,
  ⟨(some 99), (Op.indexAddr 22 (Operand.tmp 87) (Operand.tmp 88)), none, ann0⟩,
  ⟨none, (Op.store 26 (Operand.tmp 99) (Operand.tmp 94)), none, ann0⟩,
  ⟨(some 100), (Op.indexAddr 22 (Operand.tmp 89) (Operand.tmp 90)), none, ann0⟩,
  ⟨none, (Op.store 26 (Operand.tmp 100) (Operand.tmp 98)), none, ann0⟩] (some [0, 0, 0, 0, 0, 0, 48, 112, 0, 0, 768, 1792, 4083, 8179, 16383, 32767])) (.tidy [0, 1, 4, 12, 13] z (z + 0)))
 (.seq (.reg [⟨(some 101), (Op.move (Operand.tmp 12)), none, ann0⟩,
  ⟨(some 102), (Op.binOp BinOp.add 3 (Operand.tmp 101) (Operand.const (Value.int IntKind.i64 1)) 3), none, ann0⟩,
  ⟨(some 12), (Op.assign (Operand.tmp 102)), none, ann0⟩] none)
 (.seq (.reg [⟨(some 103), (Op.move (Operand.tmp 13)), none, ann0⟩,
  ⟨(some 104), (Op.binOp BinOp.sub 3 (Operand.tmp 103) (Operand.const (Value.int IntKind.i64 1)) 3), none, ann0⟩,
  ⟨(some 13), (Op.assign (Operand.tmp 104)), none, ann0⟩] none)
 (.seq (.post (.block 4 (.pre (.tidy [0, 1, 4, 12, 13] z (z + 0)) (.loop (s111_3 z)))) (.tidy [0, 1, 13] z (z + 0)))
 (.seq (.post (.reg [⟨(some 163), (Op.move (Operand.tmp 0)), none, ann0⟩,
  ⟨(some 164), (Op.move (Operand.tmp 13)), none, ann0⟩,
  ⟨(some 165), (Op.move (Operand.tmp 0)), none, ann0⟩,
  ⟨(some 166), (Op.move (Operand.tmp 1)), none, ann0⟩,
  ⟨(some 167), (Op.move (Operand.tmp 0)), none, ann0⟩,
  ⟨(some 168), (Op.move (Operand.tmp 1)), none, ann0⟩,
  ⟨(some 169), (Op.indexAddr 22 (Operand.tmp 167) (Operand.tmp 168)), none, ann0⟩,
  ⟨(some 170), (Op.load 26 (Operand.tmp 169)), none, ann0⟩,
  ⟨(some 171), (Op.move (Operand.tmp 0)), none, ann0⟩,
  ⟨(some 172), (Op.move (Operand.tmp 13)), none, ann0⟩,
  ⟨(some 173), (Op.indexAddr 22 (Operand.tmp 171) (Operand.tmp 172)), none, ann0⟩,
  ⟨(some 174), (Op.load 26 (Operand.tmp 173)), none, ann0⟩,
  ⟨(some 175), (Op.indexAddr 22 (Operand.tmp 163) (Operand.tmp 164)), none, ann0⟩,
  ⟨none, (Op.store 26 (Operand.tmp 175) (Operand.tmp 170)), none, ann0⟩,
  ⟨(some 176), (Op.indexAddr 22 (Operand.tmp 165) (Operand.tmp 166)), none, ann0⟩,
  ⟨none, (Op.store 26 (Operand.tmp 176) (Operand.tmp 174)), none, ann0⟩] (some [0, 0, 0, 0, 0, 0, 48, 112, 0, 0, 768, 1792, 4083, 8179, 16383, 32767])) (.tidy [13] z (z + 0)))
 (.seq (.reg [⟨(some 177), (Op.move (Operand.tmp 13)), none, ann0⟩,
  ⟨(some 10), (Op.assign (Operand.tmp 177)), none, ann0⟩,
  ⟨(some 11), (Op.assign (Operand.const (Value.bool false))), none, ann0⟩] none)
 .ret))))))))))))⟩
theorem F111 (z : Nat) : FOk Try.prog 111 (s111 z) := by unfold FOk; kernel_rfl
def t96_106 (z : Nat) : SC := (.seq (.post (.reg [⟨(some 106), (Op.move (Operand.tmp 0)), none, ann0⟩,
  ⟨(some 107), (Op.move (Operand.tmp 1)), none, ann0⟩,
  ⟨(some 108), (Op.move (Operand.tmp 2)), none, ann0⟩,
  ⟨(some 109), (Op.move (Operand.tmp 13)), none, ann0⟩,
  ⟨(some 110), (Op.move (Operand.tmp 4)), none, ann0⟩,
  ⟨(some 111), (Op.call { callee := (Callee.value (Operand.func 111)), args := #[(Operand.tmp 106), (Operand.tmp 107), (Operand.tmp 108), (Operand.tmp 109), (Operand.tmp 110)], argTypes := #[22, 3, 3, 3, 24] }), none, ann0⟩,
  ⟨(some 105), (Op.move (Operand.tmp 111)), none, ann0⟩,
  ⟨(some 112), (Op.extract (Operand.tmp 105) 0), none, ann0⟩,
  ⟨(some 113), (Op.extract (Operand.tmp 105) 1), none, ann0⟩,
  ⟨(some 16), (Op.assign (Operand.tmp 112)), none, ann0⟩,
  ⟨(some 17), (Op.assign (Operand.tmp 113)), none, ann0⟩] none) (.tidy [0, 1, 2, 3, 4, 12, 16, 17] z (z + 0)))
 (.seq (.reg [⟨(some 114), (Op.move (Operand.tmp 17)), none, ann0⟩,
  ⟨(some 11), (Op.assign (Operand.tmp 114)), none, ann0⟩] none)
 (.seq (.post (.reg [⟨(some 115), (Op.move (Operand.tmp 16)), none, ann0⟩,
  ⟨(some 116), (Op.move (Operand.tmp 1)), none, ann0⟩,
  ⟨(some 117), (Op.binOp BinOp.sub 3 (Operand.tmp 115) (Operand.tmp 116) 3), none, ann0⟩,
  ⟨(some 118), (Op.move (Operand.tmp 2)), none, ann0⟩,
  ⟨(some 119), (Op.move (Operand.tmp 16)), none, ann0⟩,
  ⟨(some 120), (Op.binOp BinOp.sub 3 (Operand.tmp 118) (Operand.tmp 119) 3), none, ann0⟩,
  ⟨(some 18), (Op.assign (Operand.tmp 117)), none, ann0⟩,
  ⟨(some 19), (Op.assign (Operand.tmp 120)), none, ann0⟩] none) (.tidy [0, 1, 2, 3, 4, 11, 12, 16, 18, 19] z (z + 0)))
 (.seq (.reg [⟨(some 121), (Op.move (Operand.tmp 12)), none, ann0⟩,
  ⟨(some 122), (Op.binOp BinOp.quo 3 (Operand.tmp 121) (Operand.const (Value.int IntKind.i64 8)) 3), none, ann0⟩,
  ⟨(some 20), (Op.assign (Operand.tmp 122)), none, ann0⟩] none)
 (.seq (.reg [⟨(some 123), (Op.move (Operand.tmp 18)), none, ann0⟩,
  ⟨(some 124), (Op.move (Operand.tmp 19)), none, ann0⟩,
  ⟨(some 125), (Op.binOp BinOp.lss 3 (Operand.tmp 123) (Operand.tmp 124) 3), none, ann0⟩] none)
 (.cond (Operand.tmp 125) (.seq (.post (.reg [⟨(some 126), (Op.move (Operand.tmp 18)), none, ann0⟩,
  ⟨(some 127), (Op.move (Operand.tmp 20)), none, ann0⟩,
  ⟨(some 128), (Op.binOp BinOp.geq 3 (Operand.tmp 126) (Operand.tmp 127) 3), none, ann0⟩,
  ⟨(some 10), (Op.assign (Operand.tmp 128)), none, ann0⟩] none) (.tidy [0, 1, 2, 3, 4, 10, 11, 16] z (z + 0)))
 (.seq (.post (.reg [⟨(some 129), (Op.move (Operand.tmp 0)), none, ann0⟩,
  ⟨(some 130), (Op.move (Operand.tmp 1)), none, ann0⟩,
  ⟨(some 131), (Op.move (Operand.tmp 16)), none, ann0⟩,
  ⟨(some 132), (Op.move (Operand.tmp 3)), none, ann0⟩,
  ⟨(some 133), (Op.move (Operand.tmp 4)), none, ann0⟩,
  ⟨(some 134), (Op.call { callee := (Callee.value (Operand.func 96)), args := #[(Operand.tmp 129), (Operand.tmp 130), (Operand.tmp 131), (Operand.tmp 132), (Operand.tmp 133)], argTypes := #[22, 3, 3, 3, 24] }), none, ann0⟩] none) (.tidy [0, 2, 3, 4, 10, 11, 16] z (z + 0)))
 (.reg [⟨(some 135), (Op.move (Operand.tmp 16)), none, ann0⟩,
  ⟨(some 136), (Op.binOp BinOp.add 3 (Operand.tmp 135) (Operand.const (Value.int IntKind.i64 1)) 3), none, ann0⟩,
  ⟨(some 1), (Op.assign (Operand.tmp 136)), none, ann0⟩] none)))
 (.seq (.reg [⟨(some 137), (Op.move (Operand.tmp 19)), none, ann0⟩,
  ⟨(some 138), (Op.move (Operand.tmp 20)), none, ann0⟩,
  ⟨(some 139), (Op.binOp BinOp.geq 3 (Operand.tmp 137) (Operand.tmp 138) 3), none, ann0⟩,
  ⟨(some 10), (Op.assign (Operand.tmp 139)), none, ann0⟩] none)
 (.seq (.post (.reg [⟨(some 140), (Op.move (Operand.tmp 0)), none, ann0⟩,
  ⟨(some 141), (Op.move (Operand.tmp 16)), none, ann0⟩,
  ⟨(some 142), (Op.binOp BinOp.add 3 (Operand.tmp 141) (Operand.const (Value.int IntKind.i64 1)) 3), none, ann0⟩,
  ⟨(some 143), (Op.move (Operand.tmp 2)), none, ann0⟩,
  ⟨(some 144), (Op.move (Operand.tmp 3)), none, ann0⟩,
  ⟨(some 145), (Op.move (Operand.tmp 4)), none, ann0⟩,
  ⟨(some 146), (Op.call { callee := (Callee.value (Operand.func 96)), args := #[(Operand.tmp 140), (Operand.tmp 142), (Operand.tmp 143), (Operand.tmp 144), (Operand.tmp 145)], argTypes := #[22, 3, 3, 3, 24] }), none, ann0⟩] none) (.tidy [0, 1, 3, 4, 10, 11, 16] z (z + 0)))
 (.reg [⟨(some 147), (Op.move (Operand.tmp 16)), none, ann0⟩,
  ⟨(some 2), (Op.assign (Operand.tmp 147)), none, ann0⟩] none)))))))))
def t96_81 (z : Nat) : SC := (.seq (.post (.seq (.post (.reg [⟨(some 81), (Op.move (Operand.tmp 1)), none, ann0⟩,
  ⟨(some 82), (Op.binOp BinOp.gtr 3 (Operand.tmp 81) (Operand.const (Value.int IntKind.i64 0)) 3), none, ann0⟩,
  ⟨(some 83), (Op.move (Operand.tmp 82)), none, ann0⟩,
  ⟨(some 84), (Op.move (Operand.tmp 4)), (some (83, true)), ann0⟩,
  ⟨(some 85), (Op.move (Operand.tmp 0)), (some (83, true)), ann0⟩,
  ⟨(some 86), (Op.move (Operand.tmp 1)), (some (83, true)), ann0⟩,
  ⟨(some 87), (Op.binOp BinOp.sub 3 (Operand.tmp 86) (Operand.const (Value.int IntKind.i64 1)) 3), (some (83, true)), ann0⟩,
  ⟨(some 88), (Op.indexAddr 22 (Operand.tmp 85) (Operand.tmp 87)), (some (83, true)), ann0⟩,
  ⟨(some 89), (Op.load 26 (Operand.tmp 88)), (some (83, true)), ann0⟩,
  ⟨(some 90), (Op.move (Operand.tmp 0)), (some (83, true)), ann0⟩,
  ⟨(some 91), (Op.move (Operand.tmp 13)), (some (83, true)), ann0⟩,
  ⟨(some 92), (Op.indexAddr 22 (Operand.tmp 90) (Operand.tmp 91)), (some (83, true)), ann0⟩,
  ⟨(some 93), (Op.load 26 (Operand.tmp 92)), (some (83, true)), ann0⟩,
  ⟨(some 94), (Op.call { callee := (Callee.value (Operand.tmp 84)), args := #[(Operand.tmp 89), (Operand.tmp 93)], argTypes := #[26, 26] }), (some (83, true)), ann0⟩,
  ⟨(some 95), (Op.binOp BinOp.lss 3 (Operand.tmp 94) (Operand.const (Value.int IntKind.i64 0)) 3), (some (83, true)), ann0⟩,
  ⟨(some 96), (Op.unOp UnOp.not 4 (Operand.tmp 95)), (some (83, true)), ann0⟩,
  ⟨(some 97), (Op.pick (Operand.tmp 83) (Operand.tmp 96) (Operand.const (Value.bool false))), none, ann0⟩] (some [0, 1, 3, 7, 7, 7, 39, 119, 247, 7, 7, 1543, 3591, 8191, 16383, 32767, 65535])) (.tidy [0, 1, 2, 3, 4, 10, 11, 12, 13, 97] z (z + 0)))
 (.cond (Operand.tmp 97) (.seq (.post (.reg [⟨(some 98), (Op.move (Operand.tmp 0)), none, ann0⟩,
  ⟨(some 99), (Op.move (Operand.tmp 1)), none, ann0⟩,
  ⟨(some 100), (Op.move (Operand.tmp 2)), none, ann0⟩,
  ⟨(some 101), (Op.move (Operand.tmp 13)), none, ann0⟩,
  ⟨(some 102), (Op.move (Operand.tmp 4)), none, ann0⟩,
  ⟨(some 103), (Op.call { callee := (Callee.value (Operand.func 110)), args := #[(Operand.tmp 98), (Operand.tmp 99), (Operand.tmp 100), (Operand.tmp 101), (Operand.tmp 102)], argTypes := #[22, 3, 3, 3, 24] }), none, ann0⟩,
  ⟨(some 15), (Op.assign (Operand.tmp 103)), none, ann0⟩] none) (.tidy [0, 2, 3, 4, 10, 11, 15] z (z + 0)))
 (.seq (.reg [⟨(some 104), (Op.move (Operand.tmp 15)), none, ann0⟩,
  ⟨(some 1), (Op.assign (Operand.tmp 104)), none, ann0⟩] none)
 (.exit 1)))
 .skip)) (.tidy [0, 1, 2, 3, 4, 12, 13] z (z + 0)))
 (t96_106 z))
def t96_68 (z : Nat) : SC := (.seq (.post (.seq (.post (.reg [⟨(some 68), (Op.move (Operand.tmp 10)), none, ann0⟩,
  ⟨(some 69), (Op.move (Operand.tmp 68)), none, ann0⟩,
  ⟨(some 70), (Op.move (Operand.tmp 11)), (some (69, true)), ann0⟩,
  ⟨(some 71), (Op.pick (Operand.tmp 69) (Operand.tmp 70) (Operand.const (Value.bool false))), none, ann0⟩,
  ⟨(some 72), (Op.move (Operand.tmp 71)), none, ann0⟩,
  ⟨(some 73), (Op.move (Operand.tmp 14)), (some (72, true)), ann0⟩,
  ⟨(some 74), (Op.binOp BinOp.eql 141 (Operand.tmp 73) (Operand.const (Value.int IntKind.i64 1)) 141), (some (72, true)), ann0⟩,
  ⟨(some 75), (Op.pick (Operand.tmp 72) (Operand.tmp 74) (Operand.const (Value.bool false))), none, ann0⟩] none) (.tidy [0, 1, 2, 3, 4, 10, 11, 12, 13, 75] z (z + 0)))
 (.cond (Operand.tmp 75) (.seq (.reg [⟨(some 76), (Op.move (Operand.tmp 0)), none, ann0⟩,
  ⟨(some 77), (Op.move (Operand.tmp 1)), none, ann0⟩,
  ⟨(some 78), (Op.move (Operand.tmp 2)), none, ann0⟩,
  ⟨(some 79), (Op.move (Operand.tmp 4)), none, ann0⟩,
  ⟨(some 80), (Op.call { callee := (Callee.value (Operand.func 109)), args := #[(Operand.tmp 76), (Operand.tmp 77), (Operand.tmp 78), (Operand.tmp 79)], argTypes := #[22, 3, 3, 24] }), none, ann0⟩] none)
 (.cond (Operand.tmp 80) .ret
 .skip))
 .skip)) (.tidy [0, 1, 2, 3, 4, 10, 11, 12, 13] z (z + 0)))
 (t96_81 z))
def t96_48 (z : Nat) : SC := (.seq (.post (.reg [⟨(some 48), (Op.move (Operand.tmp 0)), none, ann0⟩,
  ⟨(some 49), (Op.move (Operand.tmp 1)), none, ann0⟩,
  ⟨(some 50), (Op.move (Operand.tmp 2)), none, ann0⟩,
  ⟨(some 51), (Op.move (Operand.tmp 4)), none, ann0⟩,
  ⟨(some 52), (Op.call { callee := (Callee.value (Operand.func 107)), args := #[(Operand.tmp 48), (Operand.tmp 49), (Operand.tmp 50), (Operand.tmp 51)], argTypes := #[22, 3, 3, 24] }), none, ann0⟩,
  ⟨(some 47), (Op.move (Operand.tmp 52)), none, ann0⟩,
  ⟨(some 53), (Op.extract (Operand.tmp 47) 0), none, ann0⟩,
  ⟨(some 54), (Op.extract (Operand.tmp 47) 1), none, ann0⟩,
  ⟨(some 13), (Op.assign (Operand.tmp 53)), none, ann0⟩,
  ⟨(some 14), (Op.assign (Operand.tmp 54)), none, ann0⟩] none) (.tidy [0, 1, 2, 3, 4, 10, 11, 12, 13, 14] z (z + 0)))
 (.seq (.post (.seq (.reg [⟨(some 55), (Op.move (Operand.tmp 14)), none, ann0⟩,
  ⟨(some 56), (Op.binOp BinOp.eql 141 (Operand.tmp 55) (Operand.const (Value.int IntKind.i64 2)) 141), none, ann0⟩] none)
 (.cond (Operand.tmp 56) (.seq (.post (.reg [⟨(some 57), (Op.move (Operand.tmp 0)), none, ann0⟩,
  ⟨(some 58), (Op.move (Operand.tmp 1)), none, ann0⟩,
  ⟨(some 59), (Op.move (Operand.tmp 2)), none, ann0⟩,
  ⟨(some 60), (Op.move (Operand.tmp 4)), none, ann0⟩,
  ⟨(some 61), (Op.call { callee := (Callee.value (Operand.func 108)), args := #[(Operand.tmp 57), (Operand.tmp 58), (Operand.tmp 59), (Operand.tmp 60)], argTypes := #[22, 3, 3, 24] }), none, ann0⟩] none) (.tidy [0, 1, 2, 3, 4, 10, 11, 12, 13] z (z + 0)))
 (.seq (.post (.reg [⟨(some 62), (Op.move (Operand.tmp 2)), none, ann0⟩,
  ⟨(some 63), (Op.binOp BinOp.sub 3 (Operand.tmp 62) (Operand.const (Value.int IntKind.i64 1)) 3), none, ann0⟩,
  ⟨(some 64), (Op.move (Operand.tmp 13)), none, ann0⟩,
  ⟨(some 65), (Op.move (Operand.tmp 1)), none, ann0⟩,
  ⟨(some 66), (Op.binOp BinOp.sub 3 (Operand.tmp 64) (Operand.tmp 65) 3), none, ann0⟩,
  ⟨(some 67), (Op.binOp BinOp.sub 3 (Operand.tmp 63) (Operand.tmp 66) 3), none, ann0⟩,
  ⟨(some 13), (Op.assign (Operand.tmp 67)), none, ann0⟩] none) (.tidy [0, 1, 2, 3, 4, 10, 11, 12, 13] z (z + 0)))
 (.reg [⟨(some 14), (Op.assign (Operand.const (Value.int IntKind.i64 1))), none, ann0⟩] none)))
 .skip)) (.tidy [0, 1, 2, 3, 4, 10, 11, 12, 13, 14] z (z + 0)))
 (t96_68 z)))
def c96_1 (z : Nat) : SC := .post (.block 1 (.seq (.reg [⟨(some 21), (Op.move (Operand.tmp 2)), none, ann0⟩,
  ⟨(some 22), (Op.move (Operand.tmp 1)), none, ann0⟩,
  ⟨(some 23), (Op.binOp BinOp.sub 3 (Operand.tmp 21) (Operand.tmp 22) 3), none, ann0⟩,
  ⟨(some 12), (Op.assign (Operand.tmp 23)), none, ann0⟩] none)
 (.seq (.post (.seq (.reg [⟨(some 24), (Op.move (Operand.tmp 12)), none, ann0⟩,
  ⟨(some 25), (Op.binOp BinOp.leq 3 (Operand.tmp 24) (Operand.const (Value.int IntKind.i64 12)) 3), none, ann0⟩] none)
 (.cond (Operand.tmp 25) (.seq (.reg [⟨(some 26), (Op.move (Operand.tmp 0)), none, ann0⟩,
  ⟨(some 27), (Op.move (Operand.tmp 1)), none, ann0⟩,
  ⟨(some 28), (Op.move (Operand.tmp 2)), none, ann0⟩,
  ⟨(some 29), (Op.move (Operand.tmp 4)), none, ann0⟩,
  ⟨(some 30), (Op.call { callee := (Callee.value (Operand.func 104)), args := #[(Operand.tmp 26), (Operand.tmp 27), (Operand.tmp 28), (Operand.tmp 29)], argTypes := #[22, 3, 3, 24] }), none, ann0⟩] none)
 .ret)
 .skip)) (.tidy [0, 1, 2, 3, 4, 10, 11, 12] z (z + 0)))
 (.seq (.post (.seq (.reg [⟨(some 31), (Op.move (Operand.tmp 3)), none, ann0⟩,
  ⟨(some 32), (Op.binOp BinOp.eql 3 (Operand.tmp 31) (Operand.const (Value.int IntKind.i64 0)) 3), none, ann0⟩] none)
 (.cond (Operand.tmp 32) (.seq (.reg [⟨(some 33), (Op.move (Operand.tmp 0)), none, ann0⟩,
  ⟨(some 34), (Op.move (Operand.tmp 1)), none, ann0⟩,
  ⟨(some 35), (Op.move (Operand.tmp 2)), none, ann0⟩,
  ⟨(some 36), (Op.move (Operand.tmp 4)), none, ann0⟩,
  ⟨(some 37), (Op.call { callee := (Callee.value (Operand.func 105)), args := #[(Operand.tmp 33), (Operand.tmp 34), (Operand.tmp 35), (Operand.tmp 36)], argTypes := #[22, 3, 3, 24] }), none, ann0⟩] none)
 .ret)
 .skip)) (.tidy [0, 1, 2, 3, 4, 10, 11, 12] z (z + 0)))
 (.seq (.post (.seq (.reg [⟨(some 38), (Op.move (Operand.tmp 10)), none, ann0⟩,
  ⟨(some 39), (Op.unOp UnOp.not 4 (Operand.tmp 38)), none, ann0⟩] none)
 (.cond (Operand.tmp 39) (.seq (.post (.reg [⟨(some 40), (Op.move (Operand.tmp 0)), none, ann0⟩,
  ⟨(some 41), (Op.move (Operand.tmp 1)), none, ann0⟩,
  ⟨(some 42), (Op.move (Operand.tmp 2)), none, ann0⟩,
  ⟨(some 43), (Op.move (Operand.tmp 4)), none, ann0⟩,
  ⟨(some 44), (Op.call { callee := (Callee.value (Operand.func 106)), args := #[(Operand.tmp 40), (Operand.tmp 41), (Operand.tmp 42), (Operand.tmp 43)], argTypes := #[22, 3, 3, 24] }), none, ann0⟩] none) (.tidy [0, 1, 2, 3, 4, 10, 11, 12] z (z + 0)))
 (.reg [⟨(some 45), (Op.move (Operand.tmp 3)), none, ann0⟩,
  ⟨(some 46), (Op.binOp BinOp.sub 3 (Operand.tmp 45) (Operand.const (Value.int IntKind.i64 1)) 3), none, ann0⟩,
  ⟨(some 3), (Op.assign (Operand.tmp 46)), none, ann0⟩] none))
 .skip)) (.tidy [0, 1, 2, 3, 4, 10, 11, 12] z (z + 0)))
 (t96_48 z)))))) (.tidy [0, 1, 2, 3, 4, 10, 11] z (z + 0))
def s96_1 (z : Nat) : SC := c96_1 z
theorem e96_1 {C : Pg} {z : Nat} {st : St} {ks : List Fr} {K : Ex → St → Prop} : wpk C (s96_1 z) st ks K ↔ wpk C (c96_1 z) st ks K := Iff.rfl
def s96 (z : Nat) : SFn := ⟨5, 148, [],
 (.seq (.reg [⟨(some 10), (Op.assign (Operand.const (Value.bool true))), none, ann0⟩] none)
 (.seq (.reg [⟨(some 11), (Op.assign (Operand.const (Value.bool true))), none, ann0⟩] none)
 (.post (.block 0 (.pre (.tidy [0, 1, 2, 3, 4, 10, 11] z (z + 0)) (.loop (s96_1 z)))) (.tidy [] z (z + 0)))))⟩
theorem F96 (z : Nat) : FOk Try.prog 96 (s96 z) := by unfold FOk; kernel_rfl
def s79 (z : Nat) : SFn := ⟨2, 14, [],
 (.seq (.reg [⟨(some 5), (Op.move (Operand.tmp 0)), none, ann0⟩,
  ⟨(some 6), (Op.call { callee := (Callee.builtin Builtin.len), args := #[(Operand.tmp 5)], argTypes := #[22] }), none, ann0⟩,
  ⟨(some 4), (Op.assign (Operand.tmp 6)), none, ann0⟩] none)
 (.reg [⟨(some 7), (Op.move (Operand.tmp 0)), none, ann0⟩,
  ⟨(some 8), (Op.move (Operand.tmp 4)), none, ann0⟩,
  ⟨(some 9), (Op.move (Operand.tmp 4)), none, ann0⟩,
  ⟨(some 10), (Op.convert 3 110 (Operand.tmp 9)), none, ann0⟩,
  ⟨(some 11), (Op.call { callee := (Callee.value (Operand.func 77)), args := #[(Operand.tmp 10)], argTypes := #[110] }), none, ann0⟩,
  ⟨(some 12), (Op.move (Operand.tmp 1)), none, ann0⟩,
  ⟨(some 13), (Op.call { callee := (Callee.value (Operand.func 96)), args := #[(Operand.tmp 7), (Operand.const (Value.int IntKind.i64 0)), (Operand.tmp 8), (Operand.tmp 11), (Operand.tmp 12)], argTypes := #[22, 3, 3, 3, 24] }), none, ann0⟩] none))⟩
theorem F79 (z : Nat) : FOk Try.prog 79 (s79 z) := by unfold FOk; kernel_rfl
def c80_1 (z : Nat) : SC := .post (.seq (.reg [⟨(some 8), (Op.binOp BinOp.lss 3 (Operand.tmp 7) (Operand.tmp 6) 3), none, ann0⟩] none)
 (.seq (.cond (Operand.tmp 8) .skip
 (.exit 0))
 (.seq (.post (.block 1 (.seq (.reg [⟨(some 9), (Op.indexAddr 22 (Operand.tmp 5) (Operand.tmp 7)), none, ann0⟩,
  ⟨(some 10), (Op.load 26 (Operand.tmp 9)), none, ann0⟩,
  ⟨(some 4), (Op.alloc 26), none, ⟨1, false, false⟩⟩,
  ⟨none, (Op.store 26 (Operand.tmp 4) (Operand.tmp 10)), none, ann0⟩] none)
 (.seq (.reg [⟨(some 11), (Op.move (Operand.tmp 0)), none, ann0⟩,
  ⟨(some 12), (Op.load 26 (Operand.tmp 4)), none, ann0⟩,
  ⟨(some 13), (Op.call { callee := (Callee.value (Operand.tmp 11)), args := #[(Operand.tmp 12)], argTypes := #[26] }), none, ann0⟩,
  ⟨(some 14), (Op.unOp UnOp.not 4 (Operand.tmp 13)), none, ann0⟩] none)
 (.cond (Operand.tmp 14) .ret
 .skip)))) (.tidy [0, 5, 6, 7] z (z + 1)))
 (.reg [⟨(some 15), (Op.binOp BinOp.add 3 (Operand.tmp 7) (Operand.const (Value.int IntKind.i64 1)) 3), none, ann0⟩,
  ⟨(some 7), (Op.move (Operand.tmp 15)), none, ann0⟩] none)))) (.tidy [0, 5, 6, 7] z (z + 0))
def s80_1 (z : Nat) : SC := c80_1 z
theorem e80_1 {C : Pg} {z : Nat} {st : St} {ks : List Fr} {K : Ex → St → Prop} : wpk C (s80_1 z) st ks K ↔ wpk C (c80_1 z) st ks K := Iff.rfl
def s80 (z : Nat) : SFn := ⟨2, 16, [],
 (.seq (.reg [⟨(some 5), (Op.load 22 (Operand.tmp 1)), none, ann0⟩,
  ⟨(some 6), (Op.call { callee := (Callee.builtin Builtin.len), args := #[(Operand.tmp 5)], argTypes := #[22] }), none, ann0⟩,
  ⟨(some 7), (Op.move (Operand.const (Value.int IntKind.i64 0))), none, ann0⟩] none)
 (.post (.block 0 (.pre (.tidy [0, 5, 6, 7] z (z + 0)) (.loop (s80_1 z)))) (.tidy [] z (z + 0))))⟩
theorem F80 (z : Nat) : FOk Try.prog 80 (s80 z) := by unfold FOk; kernel_rfl
end Go.Proofs.YteidaaobppjlbaaV
