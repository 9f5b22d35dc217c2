/- Functions' code, with notes for the interpreter, and the facts that it is the program's: made by a program. -/
import Derived.Test.YtpooehcjchkbkaaVC
import Derived.Test.YtpooehcjchkbkaaProg
import Derived.KernelRfl
set_option linter.unusedVariables false
namespace Go.Proofs.YtpooehcjchkbkaaV
open Go.RowKit

/-- slots: 0 s, 1 low, 2 high, 9 , 10 ; objects: z + 0 -/
def c44_1 (z : Nat) : SC := .post (.seq (.reg [⟨(some 11), (Op.binOp BinOp.lss 3 (Operand.tmp 10) (Operand.tmp 9) 3), none, ann0⟩] none)
 (.seq (.cond (Operand.tmp 11) .skip
 (.exit 0))
 (.seq (.post (.block 1 (.seq (.reg [⟨(some 12), (Op.move (Operand.tmp 10)), none, ann0⟩,
  ⟨(some 7), (Op.assign (Operand.tmp 12)), none, ann0⟩] none)
 (.seq (.post (.reg [⟨(some 13), (Op.move (Operand.tmp 0)), none, ann0⟩,
  ⟨(some 14), (Op.move (Operand.tmp 7)), none, ann0⟩,
  ⟨(some 15), (Op.index 9 (Operand.tmp 13) (Operand.tmp 14)), none, ann0⟩,
  ⟨(some 16), (Op.move (Operand.tmp 1)), none, ann0⟩,
  ⟨(some 17), (Op.binOp BinOp.lss 5 (Operand.tmp 15) (Operand.tmp 16) 5), none, ann0⟩,
  ⟨(some 18), (Op.move (Operand.tmp 17)), none, ann0⟩,
  ⟨(some 19), (Op.move (Operand.tmp 0)), (some (18, false)), ann0⟩,
  ⟨(some 20), (Op.move (Operand.tmp 7)), (some (18, false)), ann0⟩,
  ⟨(some 21), (Op.index 9 (Operand.tmp 19) (Operand.tmp 20)), (some (18, false)), ann0⟩,
  ⟨(some 22), (Op.move (Operand.tmp 2)), (some (18, false)), ann0⟩,
  ⟨(some 23), (Op.binOp BinOp.gtr 5 (Operand.tmp 21) (Operand.tmp 22) 5), (some (18, false)), ann0⟩,
  ⟨(some 24), (Op.pick (Operand.tmp 18) (Operand.const (Value.bool true)) (Operand.tmp 23)), none, ann0⟩] none) (.tidy [0, 1, 2, 9, 10, 24] z (z + 0)))
 (.cond (Operand.tmp 24) (.seq (.reg [⟨(some 6), (Op.assign (Operand.const (Value.bool false))), none, ann0⟩] none)
 .ret)
 .skip)))) (.tidy [0, 1, 2, 9, 10] z (z + 0)))
 (.reg [⟨(some 25), (Op.binOp BinOp.add 3 (Operand.tmp 10) (Operand.const (Value.int IntKind.i64 1)) 3), none, ann0⟩,
  ⟨(some 10), (Op.move (Operand.tmp 25)), none, ann0⟩] none)))) (.tidy [0, 1, 2, 9, 10] z (z + 0))
def s44_1 (z : Nat) : SC := c44_1 z
theorem e44_1 {C : Pg} {z : Nat} {st : St} {ks : List Fr} {K : Ex → St → Prop} : wpk C (s44_1 z) st ks K ↔ wpk C (c44_1 z) st ks K := Iff.rfl
/-- sleuth/attribute.within -/
def s44 (z : Nat) : SFn := ⟨3, 26, [(ResultVar.tmp 6)],
 (.seq (.reg [⟨(some 6), (Op.assign (Operand.const (Value.bool false))), none, ann0⟩] none)
 (.seq (.post (.seq (.reg [⟨(some 8), (Op.move (Operand.tmp 0)), none, ann0⟩,
  ⟨(some 9), (Op.call { callee := (Callee.builtin Builtin.len), args := #[(Operand.tmp 8)], argTypes := #[9] }), none, ann0⟩,
  ⟨(some 10), (Op.move (Operand.const (Value.int IntKind.i64 0))), none, ann0⟩] none)
 (.post (.block 0 (.pre (.tidy [0, 1, 2, 9, 10] z (z + 0)) (.loop (s44_1 z)))) (.tidy [] z (z + 0)))) (.tidy [] z (z + 0)))
 (.seq (.reg [⟨(some 6), (Op.assign (Operand.const (Value.bool true))), none, ann0⟩] none)
 .ret)))⟩
theorem F44 (z : Nat) : FOk Try.prog 44 (s44 z) := by unfold FOk; kernel_rfl
/-- sleuth/attribute.IsName -/
def s34 (z : Nat) : SFn := ⟨1, 14, [(ResultVar.tmp 2)],
 (.seq (.reg [⟨(some 2), (Op.assign (Operand.const (Value.bool false))), none, ann0⟩] none)
 (.seq (.reg [⟨(some 3), (Op.move (Operand.tmp 0)), none, ann0⟩,
  ⟨(some 4), (Op.binOp BinOp.neq 9 (Operand.tmp 3) (Operand.const (Value.string ⟨#[]⟩)) 9), none, ann0⟩,
  ⟨(some 5), (Op.move (Operand.tmp 4)), none, ann0⟩,
  ⟨(some 6), (Op.move (Operand.tmp 0)), (some (5, true)), ann0⟩,
  ⟨(some 7), (Op.call { callee := (Callee.builtin Builtin.len), args := #[(Operand.tmp 6)], argTypes := #[9] }), (some (5, true)), ann0⟩,
  ⟨(some 8), (Op.binOp BinOp.leq 3 (Operand.tmp 7) (Operand.const (Value.int IntKind.i64 64)) 3), (some (5, true)), ann0⟩,
  ⟨(some 9), (Op.pick (Operand.tmp 5) (Operand.tmp 8) (Operand.const (Value.bool false))), none, ann0⟩,
  ⟨(some 10), (Op.move (Operand.tmp 9)), none, ann0⟩,
  ⟨(some 11), (Op.move (Operand.tmp 0)), (some (10, true)), ann0⟩,
  ⟨(some 12), (Op.call { callee := (Callee.value (Operand.func 44)), args := #[(Operand.tmp 11), (Operand.const (Value.int IntKind.u8 33)), (Operand.const (Value.int IntKind.u8 126))], argTypes := #[9, 5, 5] }), (some (10, true)), ann0⟩,
  ⟨(some 13), (Op.pick (Operand.tmp 10) (Operand.tmp 12) (Operand.const (Value.bool false))), none, ann0⟩,
  ⟨(some 2), (Op.assign (Operand.tmp 13)), none, ann0⟩] none)
 .ret))⟩
theorem F34 (z : Nat) : FOk Try.prog 34 (s34 z) := by unfold FOk; kernel_rfl
/-- sleuth/alert.isTarget -/
def s35 (z : Nat) : SFn := ⟨1, 9, [(ResultVar.tmp 2)],
 (.seq (.reg [⟨(some 2), (Op.assign (Operand.const (Value.bool false))), none, ann0⟩] none)
 (.seq (.reg [⟨(some 3), (Op.move (Operand.tmp 0)), none, ann0⟩,
  ⟨(some 4), (Op.binOp BinOp.geq 3 (Operand.tmp 3) (Operand.const (Value.int IntKind.i64 0)) 3), none, ann0⟩,
  ⟨(some 5), (Op.move (Operand.tmp 4)), none, ann0⟩,
  ⟨(some 6), (Op.move (Operand.tmp 0)), (some (5, true)), ann0⟩,
  ⟨(some 7), (Op.binOp BinOp.lss 3 (Operand.tmp 6) (Operand.const (Value.int IntKind.i64 1000000)) 3), (some (5, true)), ann0⟩,
  ⟨(some 8), (Op.pick (Operand.tmp 5) (Operand.tmp 7) (Operand.const (Value.bool false))), none, ann0⟩,
  ⟨(some 2), (Op.assign (Operand.tmp 8)), none, ann0⟩] none)
 .ret))⟩
theorem F35 (z : Nat) : FOk Try.prog 35 (s35 z) := by unfold FOk; kernel_rfl
/-- sleuth/alert.Check -/
def s14 (z : Nat) : SFn := ⟨1, 61, [(ResultVar.tmp 2)],
 (.seq (.reg [⟨(some 1), (Op.box 23 (Operand.tmp 0)), none, ⟨1, false, false⟩⟩,
  ⟨(some 2), (Op.assign (Operand.const (Value.int IntKind.i64 0))), none, ann0⟩] none)
 (.seq (.post (.block 0 (.seq (.post (.reg [⟨(some 4), (Op.fieldAddr 23 (Operand.tmp 1) 0), none, ann0⟩,
  ⟨(some 5), (Op.load 9 (Operand.tmp 4)), none, ann0⟩,
  ⟨(some 6), (Op.call { callee := (Callee.value (Operand.func 34)), args := #[(Operand.tmp 5)], argTypes := #[9] }), none, ann0⟩,
  ⟨(some 7), (Op.unOp UnOp.not 4 (Operand.tmp 6)), none, ann0⟩,
  ⟨(some 8), (Op.move (Operand.tmp 7)), none, ann0⟩,
  ⟨(some 9), (Op.fieldAddr 23 (Operand.tmp 1) 1), (some (8, false)), ann0⟩,
  ⟨(some 10), (Op.load 9 (Operand.tmp 9)), (some (8, false)), ann0⟩,
  ⟨(some 11), (Op.call { callee := (Callee.value (Operand.func 34)), args := #[(Operand.tmp 10)], argTypes := #[9] }), (some (8, false)), ann0⟩,
  ⟨(some 12), (Op.unOp UnOp.not 4 (Operand.tmp 11)), (some (8, false)), ann0⟩,
  ⟨(some 13), (Op.pick (Operand.tmp 8) (Operand.const (Value.bool true)) (Operand.tmp 12)), none, ann0⟩,
  ⟨(some 14), (Op.move (Operand.tmp 13)), none, ann0⟩,
  ⟨(some 15), (Op.fieldAddr 23 (Operand.tmp 1) 2), (some (14, false)), ann0⟩,
  ⟨(some 16), (Op.load 9 (Operand.tmp 15)), (some (14, false)), ann0⟩,
  ⟨(some 17), (Op.binOp BinOp.neq 9 (Operand.tmp 16) (Operand.const (Value.string ⟨#[]⟩)) 9), (some (14, false)), ann0⟩,
  ⟨(some 18), (Op.move (Operand.tmp 17)), (some (14, false)), ann0⟩,
  ⟨(some 19), (Op.fieldAddr 23 (Operand.tmp 1) 2), (some (18, true)), ann0⟩,
  ⟨(some 20), (Op.load 9 (Operand.tmp 19)), (some (18, true)), ann0⟩,
  ⟨(some 21), (Op.call { callee := (Callee.value (Operand.func 34)), args := #[(Operand.tmp 20)], argTypes := #[9] }), (some (18, true)), ann0⟩,
  ⟨(some 22), (Op.unOp UnOp.not 4 (Operand.tmp 21)), (some (18, true)), ann0⟩,
  ⟨(some 23), (Op.pick (Operand.tmp 18) (Operand.tmp 22) (Operand.const (Value.bool false))), (some (14, false)), ann0⟩,
  ⟨(some 24), (Op.pick (Operand.tmp 14) (Operand.const (Value.bool true)) (Operand.tmp 23)), none, ann0⟩,
  ⟨(some 3), (Op.assign (Operand.tmp 24)), none, ann0⟩] none) (.tidy [1, 3] z (z + 1)))
 (.cond (Operand.tmp 3) (.seq (.reg [⟨(some 2), (Op.assign (Operand.const (Value.int IntKind.i64 11))), none, ann0⟩] none)
 .ret)
 (.seq (.post (.seq (.reg [⟨(some 26), (Op.fieldAddr 23 (Operand.tmp 1) 3), none, ann0⟩,
  ⟨(some 27), (Op.load 3 (Operand.tmp 26)), none, ann0⟩,
  ⟨(some 28), (Op.call { callee := (Callee.value (Operand.func 35)), args := #[(Operand.tmp 27)], argTypes := #[3] }), none, ann0⟩,
  ⟨(some 29), (Op.unOp UnOp.not 4 (Operand.tmp 28)), none, ann0⟩,
  ⟨(some 25), (Op.assign (Operand.tmp 29)), none, ann0⟩] none)
 (.cond (Operand.tmp 25) .skip
 (.seq (.post (.reg [⟨(some 30), (Op.fieldAddr 23 (Operand.tmp 1) 5), none, ann0⟩,
  ⟨(some 31), (Op.load 3 (Operand.tmp 30)), none, ann0⟩,
  ⟨(some 32), (Op.binOp BinOp.lss 3 (Operand.tmp 31) (Operand.const (Value.int IntKind.i64 1)) 3), none, ann0⟩,
  ⟨(some 33), (Op.move (Operand.tmp 32)), none, ann0⟩,
  ⟨(some 34), (Op.fieldAddr 23 (Operand.tmp 1) 5), (some (33, false)), ann0⟩,
  ⟨(some 35), (Op.load 3 (Operand.tmp 34)), (some (33, false)), ann0⟩,
  ⟨(some 36), (Op.fieldAddr 23 (Operand.tmp 1) 4), (some (33, false)), ann0⟩,
  ⟨(some 37), (Op.load 3 (Operand.tmp 36)), (some (33, false)), ann0⟩,
  ⟨(some 38), (Op.binOp BinOp.gtr 3 (Operand.tmp 35) (Operand.tmp 37) 3), (some (33, false)), ann0⟩,
  ⟨(some 39), (Op.pick (Operand.tmp 33) (Operand.const (Value.bool true)) (Operand.tmp 38)), none, ann0⟩,
  ⟨(some 40), (Op.move (Operand.tmp 39)), none, ann0⟩,
  ⟨(some 41), (Op.fieldAddr 23 (Operand.tmp 1) 4), (some (40, false)), ann0⟩,
  ⟨(some 42), (Op.load 3 (Operand.tmp 41)), (some (40, false)), ann0⟩,
  ⟨(some 43), (Op.binOp BinOp.gtr 3 (Operand.tmp 42) (Operand.const (Value.int IntKind.i64 256)) 3), (some (40, false)), ann0⟩,
  ⟨(some 44), (Op.pick (Operand.tmp 40) (Operand.const (Value.bool true)) (Operand.tmp 43)), none, ann0⟩,
  ⟨(some 25), (Op.assign (Operand.tmp 44)), none, ann0⟩] none) (.tidy [1, 25] z (z + 1)))
 (.cond (Operand.tmp 25) .skip
 (.seq (.post (.reg [⟨(some 45), (Op.fieldAddr 23 (Operand.tmp 1) 6), none, ann0⟩,
  ⟨(some 46), (Op.load 3 (Operand.tmp 45)), none, ann0⟩,
  ⟨(some 47), (Op.binOp BinOp.lss 3 (Operand.tmp 46) (Operand.const (Value.int IntKind.i64 1)) 3), none, ann0⟩,
  ⟨(some 48), (Op.move (Operand.tmp 47)), none, ann0⟩,
  ⟨(some 49), (Op.fieldAddr 23 (Operand.tmp 1) 6), (some (48, false)), ann0⟩,
  ⟨(some 50), (Op.load 3 (Operand.tmp 49)), (some (48, false)), ann0⟩,
  ⟨(some 51), (Op.binOp BinOp.gtr 3 (Operand.tmp 50) (Operand.const (Value.int IntKind.i64 1000000000)) 3), (some (48, false)), ann0⟩,
  ⟨(some 52), (Op.pick (Operand.tmp 48) (Operand.const (Value.bool true)) (Operand.tmp 51)), none, ann0⟩,
  ⟨(some 25), (Op.assign (Operand.tmp 52)), none, ann0⟩] none) (.tidy [1, 25] z (z + 1)))
 (.cond (Operand.tmp 25) .skip
 (.reg [⟨(some 53), (Op.fieldAddr 23 (Operand.tmp 1) 7), none, ann0⟩,
  ⟨(some 54), (Op.load 3 (Operand.tmp 53)), none, ann0⟩,
  ⟨(some 55), (Op.binOp BinOp.lss 3 (Operand.tmp 54) (Operand.const (Value.int IntKind.i64 0)) 3), none, ann0⟩,
  ⟨(some 56), (Op.move (Operand.tmp 55)), none, ann0⟩,
  ⟨(some 57), (Op.fieldAddr 23 (Operand.tmp 1) 7), (some (56, false)), ann0⟩,
  ⟨(some 58), (Op.load 3 (Operand.tmp 57)), (some (56, false)), ann0⟩,
  ⟨(some 59), (Op.binOp BinOp.gtr 3 (Operand.tmp 58) (Operand.const (Value.int IntKind.i64 256)) 3), (some (56, false)), ann0⟩,
  ⟨(some 60), (Op.pick (Operand.tmp 56) (Operand.const (Value.bool true)) (Operand.tmp 59)), none, ann0⟩,
  ⟨(some 25), (Op.assign (Operand.tmp 60)), none, ann0⟩] none))))))) (.tidy [25] z (z + 1)))
 (.cond (Operand.tmp 25) (.seq (.reg [⟨(some 2), (Op.assign (Operand.const (Value.int IntKind.i64 2))), none, ann0⟩] none)
 .ret)
 .skip))))) (.tidy [] z (z + 1)))
 (.seq (.reg [⟨(some 2), (Op.assign (Operand.const (Value.int IntKind.i64 0))), none, ann0⟩] none)
 .ret)))⟩
theorem F14 (z : Nat) : FOk Try.prog 14 (s14 z) := by unfold FOk; kernel_rfl
/-- sleuth/fraction.magnitude -/
def s52 (z : Nat) : SFn := ⟨1, 10, [(ResultVar.tmp 2)],
 (.seq (.reg [⟨(some 2), (Op.assign (Operand.const (Value.int IntKind.u64 0))), none, ann0⟩] none)
 (.seq (.post (.seq (.reg [⟨(some 3), (Op.move (Operand.tmp 0)), none, ann0⟩,
  ⟨(some 4), (Op.binOp BinOp.lss 3 (Operand.tmp 3) (Operand.const (Value.int IntKind.i64 0)) 3), none, ann0⟩] none)
 (.cond (Operand.tmp 4) (.seq (.reg [⟨(some 5), (Op.move (Operand.tmp 0)), none, ann0⟩,
  ⟨(some 6), (Op.convert 3 112 (Operand.tmp 5)), none, ann0⟩,
  ⟨(some 7), (Op.unOp UnOp.neg 112 (Operand.tmp 6)), none, ann0⟩,
  ⟨(some 2), (Op.assign (Operand.tmp 7)), none, ann0⟩] none)
 .ret)
 .skip)) (.tidy [0] z (z + 0)))
 (.seq (.reg [⟨(some 8), (Op.move (Operand.tmp 0)), none, ann0⟩,
  ⟨(some 9), (Op.convert 3 112 (Operand.tmp 8)), none, ann0⟩,
  ⟨(some 2), (Op.assign (Operand.tmp 9)), none, ann0⟩] none)
 .ret)))⟩
theorem F52 (z : Nat) : FOk Try.prog 52 (s52 z) := by unfold FOk; kernel_rfl
/-- slots: 0 a, 1 b; objects: z + 0 -/
def c53_1 (z : Nat) : SC := .post (.seq (.seq (.reg [⟨(some 5), (Op.move (Operand.tmp 1)), none, ann0⟩,
  ⟨(some 6), (Op.binOp BinOp.neq 112 (Operand.tmp 5) (Operand.const (Value.int IntKind.u64 0)) 112), none, ann0⟩] none)
 (.cond (Operand.tmp 6) .skip
 (.exit 0)))
 (.block 1 (.reg [⟨(some 7), (Op.move (Operand.tmp 1)), none, ann0⟩,
  ⟨(some 8), (Op.move (Operand.tmp 0)), none, ann0⟩,
  ⟨(some 9), (Op.move (Operand.tmp 1)), none, ann0⟩,
  ⟨(some 10), (Op.binOp BinOp.rem 112 (Operand.tmp 8) (Operand.tmp 9) 112), none, ann0⟩,
  ⟨(some 0), (Op.assign (Operand.tmp 7)), none, ann0⟩,
  ⟨(some 1), (Op.assign (Operand.tmp 10)), none, ann0⟩] (some [0, 0, 0, 6, 3, 31])))) (.tidy [0, 1] z (z + 0))
def s53_1 (z : Nat) : SC := c53_1 z
theorem e53_1 {C : Pg} {z : Nat} {st : St} {ks : List Fr} {K : Ex → St → Prop} : wpk C (s53_1 z) st ks K ↔ wpk C (c53_1 z) st ks K := Iff.rfl
/-- sleuth/fraction.gcd -/
def s53 (z : Nat) : SFn := ⟨2, 12, [(ResultVar.tmp 4)],
 (.seq (.reg [⟨(some 4), (Op.assign (Operand.const (Value.int IntKind.u64 0))), none, ann0⟩] none)
 (.seq (.post (.block 0 (.pre (.tidy [0, 1] z (z + 0)) (.loop (s53_1 z)))) (.tidy [0] z (z + 0)))
 (.seq (.reg [⟨(some 11), (Op.move (Operand.tmp 0)), none, ann0⟩,
  ⟨(some 4), (Op.assign (Operand.tmp 11)), none, ann0⟩] none)
 .ret)))⟩
theorem F53 (z : Nat) : FOk Try.prog 53 (s53 z) := by unfold FOk; kernel_rfl
/-- sleuth/fraction.Make -/
def s51 (z : Nat) : SFn := ⟨2, 48, [(ResultVar.cell 4 32), (ResultVar.tmp 5)],
 (.seq (.reg [⟨(some 4), (Op.alloc 32), none, ⟨1, false, false⟩⟩,
  ⟨(some 5), (Op.assign (Operand.const (Value.int IntKind.i64 0))), none, ann0⟩] none)
 (.seq (.post (.seq (.reg [⟨(some 10), (Op.move (Operand.tmp 1)), none, ann0⟩,
  ⟨(some 11), (Op.binOp BinOp.eql 3 (Operand.tmp 10) (Operand.const (Value.int IntKind.i64 0)) 3), none, ann0⟩] none)
 (.cond (Operand.tmp 11) (.seq (.reg [⟨(some 12), (Op.build 32 #[]), none, ann0⟩,
  ⟨none, (Op.store 32 (Operand.tmp 4) (Operand.tmp 12)), none, ann0⟩,
  ⟨(some 5), (Op.assign (Operand.const (Value.int IntKind.i64 19))), none, ann0⟩] none)
 .ret)
 .skip)) (.tidy [0, 1, 4] z (z + 1)))
 (.seq (.reg [⟨(some 13), (Op.move (Operand.tmp 0)), none, ann0⟩,
  ⟨(some 14), (Op.call { callee := (Callee.value (Operand.func 52)), args := #[(Operand.tmp 13)], argTypes := #[3] }), none, ann0⟩,
  ⟨(some 15), (Op.move (Operand.tmp 1)), none, ann0⟩,
  ⟨(some 16), (Op.call { callee := (Callee.value (Operand.func 52)), args := #[(Operand.tmp 15)], argTypes := #[3] }), none, ann0⟩,
  ⟨(some 6), (Op.assign (Operand.tmp 14)), none, ann0⟩,
  ⟨(some 7), (Op.assign (Operand.tmp 16)), none, ann0⟩] none)
 (.seq (.post (.reg [⟨(some 17), (Op.move (Operand.tmp 6)), none, ann0⟩,
  ⟨(some 18), (Op.move (Operand.tmp 7)), none, ann0⟩,
  ⟨(some 19), (Op.call { callee := (Callee.value (Operand.func 53)), args := #[(Operand.tmp 17), (Operand.tmp 18)], argTypes := #[112, 112] }), none, ann0⟩,
  ⟨(some 8), (Op.assign (Operand.tmp 19)), none, ann0⟩] none) (.tidy [0, 1, 4, 6, 7, 8] z (z + 1)))
 (.seq (.post (.reg [⟨(some 20), (Op.move (Operand.tmp 6)), none, ann0⟩,
  ⟨(some 21), (Op.move (Operand.tmp 8)), none, ann0⟩,
  ⟨(some 22), (Op.binOp BinOp.quo 112 (Operand.tmp 20) (Operand.tmp 21) 112), none, ann0⟩,
  ⟨(some 23), (Op.move (Operand.tmp 7)), none, ann0⟩,
  ⟨(some 24), (Op.move (Operand.tmp 8)), none, ann0⟩,
  ⟨(some 25), (Op.binOp BinOp.quo 112 (Operand.tmp 23) (Operand.tmp 24) 112), none, ann0⟩,
  ⟨(some 6), (Op.assign (Operand.tmp 22)), none, ann0⟩,
  ⟨(some 7), (Op.assign (Operand.tmp 25)), none, ann0⟩] (some [0, 0, 3, 0, 0, 24, 7, 127])) (.tidy [0, 1, 4, 6, 7] z (z + 1)))
 (.seq (.post (.seq (.reg [⟨(some 26), (Op.move (Operand.tmp 6)), none, ann0⟩,
  ⟨(some 27), (Op.binOp BinOp.gtr 112 (Operand.tmp 26) (Operand.const (Value.int IntKind.u64 1048576)) 112), none, ann0⟩,
  ⟨(some 28), (Op.move (Operand.tmp 27)), none, ann0⟩,
  ⟨(some 29), (Op.move (Operand.tmp 7)), (some (28, false)), ann0⟩,
  ⟨(some 30), (Op.binOp BinOp.gtr 112 (Operand.tmp 29) (Operand.const (Value.int IntKind.u64 1048576)) 112), (some (28, false)), ann0⟩,
  ⟨(some 31), (Op.pick (Operand.tmp 28) (Operand.const (Value.bool true)) (Operand.tmp 30)), none, ann0⟩] none)
 (.cond (Operand.tmp 31) (.seq (.reg [⟨(some 32), (Op.build 32 #[]), none, ann0⟩,
  ⟨none, (Op.store 32 (Operand.tmp 4) (Operand.tmp 32)), none, ann0⟩,
  ⟨(some 5), (Op.assign (Operand.const (Value.int IntKind.i64 20))), none, ann0⟩] none)
 .ret)
 .skip)) (.tidy [0, 1, 4, 6, 7] z (z + 1)))
 (.seq (.reg [⟨(some 33), (Op.move (Operand.tmp 6)), none, ann0⟩,
  ⟨(some 34), (Op.convert 112 3 (Operand.tmp 33)), none, ann0⟩,
  ⟨(some 35), (Op.move (Operand.tmp 7)), none, ann0⟩,
  ⟨(some 36), (Op.convert 112 3 (Operand.tmp 35)), none, ann0⟩,
  ⟨(some 37), (Op.build 32 #[(0, (Operand.tmp 34)), (1, (Operand.tmp 36))]), none, ann0⟩,
  ⟨(some 9), (Op.alloc 32), none, ⟨1, false, false⟩⟩,
  ⟨none, (Op.store 32 (Operand.tmp 9) (Operand.tmp 37)), none, ann0⟩] none)
 (.seq (.post (.seq (.post (.reg [⟨(some 38), (Op.move (Operand.tmp 0)), none, ann0⟩,
  ⟨(some 39), (Op.binOp BinOp.lss 3 (Operand.tmp 38) (Operand.const (Value.int IntKind.i64 0)) 3), none, ann0⟩,
  ⟨(some 40), (Op.move (Operand.tmp 1)), none, ann0⟩,
  ⟨(some 41), (Op.binOp BinOp.lss 3 (Operand.tmp 40) (Operand.const (Value.int IntKind.i64 0)) 3), none, ann0⟩,
  ⟨(some 42), (Op.binOp BinOp.neq 4 (Operand.tmp 39) (Operand.tmp 41) 4), none, ann0⟩] none) (.tidy [4, 9, 42] z (z + 2)))
 (.cond (Operand.tmp 42) (.reg [⟨(some 43), (Op.fieldAddr 32 (Operand.tmp 9) 0), none, ann0⟩,
  ⟨(some 44), (Op.load 3 (Operand.tmp 43)), none, ann0⟩,
  ⟨(some 45), (Op.unOp UnOp.neg 3 (Operand.tmp 44)), none, ann0⟩,
  ⟨(some 46), (Op.fieldAddr 32 (Operand.tmp 9) 0), none, ann0⟩,
  ⟨none, (Op.store 3 (Operand.tmp 46) (Operand.tmp 45)), none, ann0⟩] none)
 .skip)) (.tidy [4, 9] z (z + 2)))
 (.seq (.reg [⟨(some 47), (Op.load 32 (Operand.tmp 9)), none, ann0⟩,
  ⟨none, (Op.store 32 (Operand.tmp 4) (Operand.tmp 47)), none, ann0⟩,
  ⟨(some 5), (Op.assign (Operand.const (Value.int IntKind.i64 0))), none, ann0⟩] none)
 .ret)))))))))⟩
theorem F51 (z : Nat) : FOk Try.prog 51 (s51 z) := by unfold FOk; kernel_rfl
/-- sleuth/fraction.Check -/
def s49 (z : Nat) : SFn := ⟨1, 20, [(ResultVar.tmp 2)],
 (.seq (.reg [⟨(some 1), (Op.box 32 (Operand.tmp 0)), none, ⟨1, false, false⟩⟩,
  ⟨(some 2), (Op.assign (Operand.const (Value.int IntKind.i64 0))), none, ann0⟩] none)
 (.seq (.post (.seq (.post (.reg [⟨(some 6), (Op.fieldAddr 32 (Operand.tmp 1) 0), none, ann0⟩,
  ⟨(some 7), (Op.load 3 (Operand.tmp 6)), none, ann0⟩,
  ⟨(some 8), (Op.fieldAddr 32 (Operand.tmp 1) 1), none, ann0⟩,
  ⟨(some 9), (Op.load 3 (Operand.tmp 8)), none, ann0⟩,
  ⟨(some 10), (Op.call { callee := (Callee.value (Operand.func 51)), args := #[(Operand.tmp 7), (Operand.tmp 9)], argTypes := #[3, 3] }), none, ann0⟩,
  ⟨(some 5), (Op.move (Operand.tmp 10)), none, ann0⟩,
  ⟨(some 11), (Op.extract (Operand.tmp 5) 0), none, ann0⟩,
  ⟨(some 12), (Op.extract (Operand.tmp 5) 1), none, ann0⟩,
  ⟨(some 3), (Op.alloc 32), none, ⟨1, false, false⟩⟩,
  ⟨none, (Op.store 32 (Operand.tmp 3) (Operand.tmp 11)), none, ann0⟩,
  ⟨(some 4), (Op.assign (Operand.tmp 12)), none, ann0⟩] none) (.tidy [1, 3, 4] z (z + 2)))
 (.seq (.post (.reg [⟨(some 13), (Op.move (Operand.tmp 4)), none, ann0⟩,
  ⟨(some 14), (Op.binOp BinOp.neq 27 (Operand.tmp 13) (Operand.const (Value.int IntKind.i64 0)) 27), none, ann0⟩,
  ⟨(some 15), (Op.move (Operand.tmp 14)), none, ann0⟩,
  ⟨(some 16), (Op.load 32 (Operand.tmp 3)), (some (15, false)), ann0⟩,
  ⟨(some 17), (Op.load 32 (Operand.tmp 1)), (some (15, false)), ann0⟩,
  ⟨(some 18), (Op.binOp BinOp.neq 32 (Operand.tmp 16) (Operand.tmp 17) 32), (some (15, false)), ann0⟩,
  ⟨(some 19), (Op.pick (Operand.tmp 15) (Operand.const (Value.bool true)) (Operand.tmp 18)), none, ann0⟩] none) (.tidy [19] z (z + 2)))
 (.cond (Operand.tmp 19) (.seq (.reg [⟨(some 2), (Op.assign (Operand.const (Value.int IntKind.i64 3))), none, ann0⟩] none)
 .ret)
 .skip))) (.tidy [] z (z + 2)))
 (.seq (.reg [⟨(some 2), (Op.assign (Operand.const (Value.int IntKind.i64 0))), none, ann0⟩] none)
 .ret)))⟩
theorem F49 (z : Nat) : FOk Try.prog 49 (s49 z) := by unfold FOk; kernel_rfl
/-- sleuth/series.quantile -/
def s45 (z : Nat) : SFn := ⟨1, 18, [(ResultVar.tmp 2)],
 (.seq (.reg [⟨(some 1), (Op.box 32 (Operand.tmp 0)), none, ⟨1, false, false⟩⟩,
  ⟨(some 2), (Op.assign (Operand.const (Value.bool false))), none, ann0⟩] none)
 (.seq (.reg [⟨(some 3), (Op.load 32 (Operand.tmp 1)), none, ann0⟩,
  ⟨(some 4), (Op.call { callee := (Callee.value (Operand.func 49)), args := #[(Operand.tmp 3)], argTypes := #[32] }), none, ann0⟩,
  ⟨(some 5), (Op.binOp BinOp.eql 27 (Operand.tmp 4) (Operand.const (Value.int IntKind.i64 0)) 27), none, ann0⟩,
  ⟨(some 6), (Op.move (Operand.tmp 5)), none, ann0⟩,
  ⟨(some 7), (Op.fieldAddr 32 (Operand.tmp 1) 0), (some (6, true)), ann0⟩,
  ⟨(some 8), (Op.load 3 (Operand.tmp 7)), (some (6, true)), ann0⟩,
  ⟨(some 9), (Op.binOp BinOp.gtr 3 (Operand.tmp 8) (Operand.const (Value.int IntKind.i64 0)) 3), (some (6, true)), ann0⟩,
  ⟨(some 10), (Op.pick (Operand.tmp 6) (Operand.tmp 9) (Operand.const (Value.bool false))), none, ann0⟩,
  ⟨(some 11), (Op.move (Operand.tmp 10)), none, ann0⟩,
  ⟨(some 12), (Op.fieldAddr 32 (Operand.tmp 1) 0), (some (11, true)), ann0⟩,
  ⟨(some 13), (Op.load 3 (Operand.tmp 12)), (some (11, true)), ann0⟩,
  ⟨(some 14), (Op.fieldAddr 32 (Operand.tmp 1) 1), (some (11, true)), ann0⟩,
  ⟨(some 15), (Op.load 3 (Operand.tmp 14)), (some (11, true)), ann0⟩,
  ⟨(some 16), (Op.binOp BinOp.leq 3 (Operand.tmp 13) (Operand.tmp 15) 3), (some (11, true)), ann0⟩,
  ⟨(some 17), (Op.pick (Operand.tmp 11) (Operand.tmp 16) (Operand.const (Value.bool false))), none, ann0⟩,
  ⟨(some 2), (Op.assign (Operand.tmp 17)), none, ann0⟩] none)
 .ret))⟩
theorem F45 (z : Nat) : FOk Try.prog 45 (s45 z) := by unfold FOk; kernel_rfl
/-- slots: 0 s, 1 f, 7 , 8 ; objects: z + 0 -/
def c50_1 (z : Nat) : SC := .post (.seq (.reg [⟨(some 9), (Op.binOp BinOp.lss 3 (Operand.tmp 8) (Operand.tmp 7) 3), none, ann0⟩] none)
 (.seq (.cond (Operand.tmp 9) .skip
 (.exit 0))
 (.seq (.post (.block 1 (.seq (.reg [⟨(some 10), (Op.move (Operand.tmp 8)), none, ann0⟩,
  ⟨(some 5), (Op.assign (Operand.tmp 10)), none, ann0⟩] none)
 (.seq (.post (.reg [⟨(some 11), (Op.move (Operand.tmp 1)), none, ann0⟩,
  ⟨(some 12), (Op.move (Operand.tmp 0)), none, ann0⟩,
  ⟨(some 13), (Op.move (Operand.tmp 5)), none, ann0⟩,
  ⟨(some 14), (Op.indexAddr 33 (Operand.tmp 12) (Operand.tmp 13)), none, ann0⟩,
  ⟨(some 15), (Op.load 3 (Operand.tmp 14)), none, ann0⟩,
  ⟨(some 16), (Op.call { callee := (Callee.value (Operand.tmp 11)), args := #[(Operand.tmp 15)], argTypes := #[3] }), none, ann0⟩] none) (.tidy [0, 1, 5, 7, 8, 16] z (z + 0)))
 (.cond (Operand.tmp 16) (.seq (.reg [⟨(some 17), (Op.move (Operand.tmp 5)), none, ann0⟩,
  ⟨(some 4), (Op.assign (Operand.tmp 17)), none, ann0⟩] none)
 .ret)
 .skip)))) (.tidy [0, 1, 7, 8] z (z + 0)))
 (.reg [⟨(some 18), (Op.binOp BinOp.add 3 (Operand.tmp 8) (Operand.const (Value.int IntKind.i64 1)) 3), none, ann0⟩,
  ⟨(some 8), (Op.move (Operand.tmp 18)), none, ann0⟩] none)))) (.tidy [0, 1, 7, 8] z (z + 0))
def s50_1 (z : Nat) : SC := c50_1 z
theorem e50_1 {C : Pg} {z : Nat} {st : St} {ks : List Fr} {K : Ex → St → Prop} : wpk C (s50_1 z) st ks K ↔ wpk C (c50_1 z) st ks K := Iff.rfl
/-- slices.IndexFunc[[]int,int] -/
def s50 (z : Nat) : SFn := ⟨2, 19, [(ResultVar.tmp 4)],
 (.seq (.reg [⟨(some 4), (Op.assign (Operand.const (Value.int IntKind.i64 0))), none, ann0⟩] none)
 (.seq (.post (.seq (.reg [⟨(some 6), (Op.move (Operand.tmp 0)), none, ann0⟩,
  ⟨(some 7), (Op.call { callee := (Callee.builtin Builtin.len), args := #[(Operand.tmp 6)], argTypes := #[33] }), none, ann0⟩,
  ⟨(some 8), (Op.move (Operand.const (Value.int IntKind.i64 0))), none, ann0⟩] none)
 (.post (.block 0 (.pre (.tidy [0, 1, 7, 8] z (z + 0)) (.loop (s50_1 z)))) (.tidy [] z (z + 0)))) (.tidy [] z (z + 0)))
 (.seq (.reg [⟨(some 4), (Op.assign (Operand.const (Value.int IntKind.i64 (-1)))), none, ann0⟩] none)
 .ret)))⟩
theorem F50 (z : Nat) : FOk Try.prog 50 (s50 z) := by unfold FOk; kernel_rfl
/-- slices.ContainsFunc[[]int,int] -/
def s46 (z : Nat) : SFn := ⟨2, 9, [(ResultVar.tmp 4)],
 (.seq (.reg [⟨(some 4), (Op.assign (Operand.const (Value.bool false))), none, ann0⟩] none)
 (.seq (.reg [⟨(some 5), (Op.move (Operand.tmp 0)), none, ann0⟩,
  ⟨(some 6), (Op.move (Operand.tmp 1)), none, ann0⟩,
  ⟨(some 7), (Op.call { callee := (Callee.value (Operand.func 50)), args := #[(Operand.tmp 5), (Operand.tmp 6)], argTypes := #[33, 86] }), none, ann0⟩,
  ⟨(some 8), (Op.binOp BinOp.geq 3 (Operand.tmp 7) (Operand.const (Value.int IntKind.i64 0)) 3), none, ann0⟩,
  ⟨(some 4), (Op.assign (Operand.tmp 8)), none, ann0⟩] none)
 .ret))⟩
theorem F46 (z : Nat) : FOk Try.prog 46 (s46 z) := by unfold FOk; kernel_rfl
/-- sleuth/series.Check -/
def s36 (z : Nat) : SFn := ⟨1, 75, [(ResultVar.tmp 2)],
 (.seq (.reg [⟨(some 1), (Op.box 35 (Operand.tmp 0)), none, ⟨1, false, false⟩⟩,
  ⟨(some 2), (Op.assign (Operand.const (Value.int IntKind.i64 0))), none, ann0⟩] none)
 (.seq (.post (.block 0 (.seq (.post (.reg [⟨(some 4), (Op.fieldAddr 35 (Operand.tmp 1) 0), none, ann0⟩,
  ⟨(some 5), (Op.load 9 (Operand.tmp 4)), none, ann0⟩,
  ⟨(some 6), (Op.call { callee := (Callee.value (Operand.func 34)), args := #[(Operand.tmp 5)], argTypes := #[9] }), none, ann0⟩,
  ⟨(some 7), (Op.unOp UnOp.not 4 (Operand.tmp 6)), none, ann0⟩,
  ⟨(some 8), (Op.move (Operand.tmp 7)), none, ann0⟩,
  ⟨(some 9), (Op.fieldAddr 35 (Operand.tmp 1) 1), (some (8, false)), ann0⟩,
  ⟨(some 10), (Op.load 9 (Operand.tmp 9)), (some (8, false)), ann0⟩,
  ⟨(some 11), (Op.binOp BinOp.neq 9 (Operand.tmp 10) (Operand.const (Value.string ⟨#[]⟩)) 9), (some (8, false)), ann0⟩,
  ⟨(some 12), (Op.move (Operand.tmp 11)), (some (8, false)), ann0⟩,
  ⟨(some 13), (Op.fieldAddr 35 (Operand.tmp 1) 1), (some (12, true)), ann0⟩,
  ⟨(some 14), (Op.load 9 (Operand.tmp 13)), (some (12, true)), ann0⟩,
  ⟨(some 15), (Op.call { callee := (Callee.value (Operand.func 34)), args := #[(Operand.tmp 14)], argTypes := #[9] }), (some (12, true)), ann0⟩,
  ⟨(some 16), (Op.unOp UnOp.not 4 (Operand.tmp 15)), (some (12, true)), ann0⟩,
  ⟨(some 17), (Op.pick (Operand.tmp 12) (Operand.tmp 16) (Operand.const (Value.bool false))), (some (8, false)), ann0⟩,
  ⟨(some 18), (Op.pick (Operand.tmp 8) (Operand.const (Value.bool true)) (Operand.tmp 17)), none, ann0⟩,
  ⟨(some 3), (Op.assign (Operand.tmp 18)), none, ann0⟩] none) (.tidy [1, 3] z (z + 1)))
 (.cond (Operand.tmp 3) (.seq (.reg [⟨(some 2), (Op.assign (Operand.const (Value.int IntKind.i64 11))), none, ann0⟩] none)
 .ret)
 (.seq (.post (.reg [⟨(some 20), (Op.fieldAddr 35 (Operand.tmp 1) 2), none, ann0⟩,
  ⟨(some 21), (Op.load 3 (Operand.tmp 20)), none, ann0⟩,
  ⟨(some 22), (Op.binOp BinOp.lss 3 (Operand.tmp 21) (Operand.const (Value.int IntKind.i64 1)) 3), none, ann0⟩,
  ⟨(some 23), (Op.move (Operand.tmp 22)), none, ann0⟩,
  ⟨(some 24), (Op.fieldAddr 35 (Operand.tmp 1) 2), (some (23, false)), ann0⟩,
  ⟨(some 25), (Op.load 3 (Operand.tmp 24)), (some (23, false)), ann0⟩,
  ⟨(some 26), (Op.binOp BinOp.gtr 3 (Operand.tmp 25) (Operand.const (Value.int IntKind.i64 3)) 3), (some (23, false)), ann0⟩,
  ⟨(some 27), (Op.pick (Operand.tmp 23) (Operand.const (Value.bool true)) (Operand.tmp 26)), none, ann0⟩,
  ⟨(some 19), (Op.assign (Operand.tmp 27)), none, ann0⟩] none) (.tidy [1, 19] z (z + 1)))
 (.cond (Operand.tmp 19) (.seq (.reg [⟨(some 2), (Op.assign (Operand.const (Value.int IntKind.i64 12))), none, ann0⟩] none)
 .ret)
 (.seq (.post (.reg [⟨(some 29), (Op.fieldAddr 35 (Operand.tmp 1) 2), none, ann0⟩,
  ⟨(some 30), (Op.load 3 (Operand.tmp 29)), none, ann0⟩,
  ⟨(some 31), (Op.binOp BinOp.eql 3 (Operand.tmp 30) (Operand.const (Value.int IntKind.i64 3)) 3), none, ann0⟩,
  ⟨(some 32), (Op.move (Operand.tmp 31)), none, ann0⟩,
  ⟨(some 33), (Op.fieldAddr 35 (Operand.tmp 1) 3), (some (32, true)), ann0⟩,
  ⟨(some 34), (Op.load 32 (Operand.tmp 33)), (some (32, true)), ann0⟩,
  ⟨(some 35), (Op.call { callee := (Callee.value (Operand.func 45)), args := #[(Operand.tmp 34)], argTypes := #[32] }), (some (32, true)), ann0⟩,
  ⟨(some 36), (Op.unOp UnOp.not 4 (Operand.tmp 35)), (some (32, true)), ann0⟩,
  ⟨(some 37), (Op.pick (Operand.tmp 32) (Operand.tmp 36) (Operand.const (Value.bool false))), none, ann0⟩,
  ⟨(some 38), (Op.move (Operand.tmp 37)), none, ann0⟩,
  ⟨(some 39), (Op.fieldAddr 35 (Operand.tmp 1) 2), (some (38, false)), ann0⟩,
  ⟨(some 40), (Op.load 3 (Operand.tmp 39)), (some (38, false)), ann0⟩,
  ⟨(some 41), (Op.binOp BinOp.neq 3 (Operand.tmp 40) (Operand.const (Value.int IntKind.i64 3)) 3), (some (38, false)), ann0⟩,
  ⟨(some 42), (Op.move (Operand.tmp 41)), (some (38, false)), ann0⟩,
  ⟨(some 43), (Op.fieldAddr 35 (Operand.tmp 1) 3), (some (42, true)), ann0⟩,
  ⟨(some 44), (Op.load 32 (Operand.tmp 43)), (some (42, true)), ann0⟩,
  ⟨(some 45), (Op.build 32 #[]), (some (42, true)), ann0⟩,
  ⟨(some 46), (Op.binOp BinOp.neq 32 (Operand.tmp 44) (Operand.tmp 45) 32), (some (42, true)), ann0⟩,
  ⟨(some 47), (Op.pick (Operand.tmp 42) (Operand.tmp 46) (Operand.const (Value.bool false))), (some (38, false)), ann0⟩,
  ⟨(some 48), (Op.pick (Operand.tmp 38) (Operand.const (Value.bool true)) (Operand.tmp 47)), none, ann0⟩,
  ⟨(some 28), (Op.assign (Operand.tmp 48)), none, ann0⟩] none) (.tidy [1, 28] z (z + 1)))
 (.cond (Operand.tmp 28) (.seq (.reg [⟨(some 2), (Op.assign (Operand.const (Value.int IntKind.i64 3))), none, ann0⟩] none)
 .ret)
 (.seq (.post (.reg [⟨(some 50), (Op.fieldAddr 35 (Operand.tmp 1) 4), none, ann0⟩,
  ⟨(some 51), (Op.load 3 (Operand.tmp 50)), none, ann0⟩,
  ⟨(some 52), (Op.binOp BinOp.lss 3 (Operand.tmp 51) (Operand.const (Value.int IntKind.i64 0)) 3), none, ann0⟩,
  ⟨(some 53), (Op.move (Operand.tmp 52)), none, ann0⟩,
  ⟨(some 54), (Op.fieldAddr 35 (Operand.tmp 1) 4), (some (53, false)), ann0⟩,
  ⟨(some 55), (Op.load 3 (Operand.tmp 54)), (some (53, false)), ann0⟩,
  ⟨(some 56), (Op.binOp BinOp.gtr 3 (Operand.tmp 55) (Operand.const (Value.int IntKind.i64 1048576)) 3), (some (53, false)), ann0⟩,
  ⟨(some 57), (Op.pick (Operand.tmp 53) (Operand.const (Value.bool true)) (Operand.tmp 56)), none, ann0⟩,
  ⟨(some 49), (Op.assign (Operand.tmp 57)), none, ann0⟩] none) (.tidy [1, 49] z (z + 1)))
 (.cond (Operand.tmp 49) (.seq (.reg [⟨(some 2), (Op.assign (Operand.const (Value.int IntKind.i64 32))), none, ann0⟩] none)
 .ret)
 (.seq (.reg [⟨(some 59), (Op.fieldAddr 35 (Operand.tmp 1) 5), none, ann0⟩,
  ⟨(some 60), (Op.load 33 (Operand.tmp 59)), none, ann0⟩,
  ⟨(some 61), (Op.call { callee := (Callee.builtin Builtin.len), args := #[(Operand.tmp 60)], argTypes := #[33] }), none, ann0⟩,
  ⟨(some 62), (Op.binOp BinOp.gtr 3 (Operand.tmp 61) (Operand.const (Value.int IntKind.i64 1024)) 3), none, ann0⟩,
  ⟨(some 58), (Op.assign (Operand.tmp 62)), none, ann0⟩] none)
 (.cond (Operand.tmp 58) (.seq (.reg [⟨(some 2), (Op.assign (Operand.const (Value.int IntKind.i64 6))), none, ann0⟩] none)
 .ret)
 (.seq (.post (.reg [⟨(some 64), (Op.fieldAddr 35 (Operand.tmp 1) 4), none, ann0⟩,
  ⟨(some 65), (Op.load 3 (Operand.tmp 64)), none, ann0⟩,
  ⟨(some 66), (Op.fieldAddr 35 (Operand.tmp 1) 5), none, ann0⟩,
  ⟨(some 67), (Op.load 33 (Operand.tmp 66)), none, ann0⟩,
  ⟨(some 68), (Op.call { callee := (Callee.builtin Builtin.len), args := #[(Operand.tmp 67)], argTypes := #[33] }), none, ann0⟩,
  ⟨(some 69), (Op.binOp BinOp.add 3 (Operand.tmp 65) (Operand.tmp 68) 3), none, ann0⟩,
  ⟨(some 70), (Op.binOp BinOp.gtr 3 (Operand.tmp 69) (Operand.const (Value.int IntKind.i64 1048577)) 3), none, ann0⟩,
  ⟨(some 63), (Op.assign (Operand.tmp 70)), none, ann0⟩] none) (.tidy [1, 63] z (z + 1)))
 (.cond (Operand.tmp 63) (.seq (.reg [⟨(some 2), (Op.assign (Operand.const (Value.int IntKind.i64 32))), none, ann0⟩] none)
 .ret)
 (.seq (.reg [⟨(some 72), (Op.fieldAddr 35 (Operand.tmp 1) 5), none, ann0⟩,
  ⟨(some 73), (Op.load 33 (Operand.tmp 72)), none, ann0⟩,
  ⟨(some 74), (Op.call { callee := (Callee.value (Operand.func 46)), args := #[(Operand.tmp 73), (Operand.func 47)], argTypes := #[33, 86] }), none, ann0⟩,
  ⟨(some 71), (Op.assign (Operand.tmp 74)), none, ann0⟩] none)
 (.cond (Operand.tmp 71) (.seq (.reg [⟨(some 2), (Op.assign (Operand.const (Value.int IntKind.i64 2))), none, ann0⟩] none)
 .ret)
 .skip))))))))))))))) (.tidy [] z (z + 1)))
 (.seq (.reg [⟨(some 2), (Op.assign (Operand.const (Value.int IntKind.i64 0))), none, ann0⟩] none)
 .ret)))⟩
theorem F36 (z : Nat) : FOk Try.prog 36 (s36 z) := by unfold FOk; kernel_rfl
/-- slots: 3 r, 4 errors, 5 traffic, 25 , 26 , 27 ; objects: z + 4 -/
def c20_1 (z : Nat) : SC := .post (.seq (.reg [⟨(some 28), (Op.binOp BinOp.lss 3 (Operand.tmp 27) (Operand.tmp 26) 3), none, ann0⟩] none)
 (.seq (.cond (Operand.tmp 28) .skip
 (.exit 0))
 (.seq (.post (.block 1 (.seq (.reg [⟨(some 29), (Op.indexAddr 95 (Operand.tmp 25) (Operand.tmp 27)), none, ann0⟩,
  ⟨(some 30), (Op.load 35 (Operand.tmp 29)), none, ann0⟩,
  ⟨(some 9), (Op.alloc 35), none, ⟨1, false, false⟩⟩,
  ⟨none, (Op.store 35 (Operand.tmp 9) (Operand.tmp 30)), none, ann0⟩] none)
 (.seq (.post (.reg [⟨(some 31), (Op.load 35 (Operand.tmp 9)), none, ann0⟩,
  ⟨(some 32), (Op.call { callee := (Callee.value (Operand.func 36)), args := #[(Operand.tmp 31)], argTypes := #[35] }), none, ann0⟩,
  ⟨(some 10), (Op.assign (Operand.tmp 32)), none, ann0⟩] none) (.tidy [3, 4, 5, 10, 25, 26, 27] z (z + 5)))
 (.seq (.reg [⟨(some 33), (Op.move (Operand.tmp 10)), none, ann0⟩,
  ⟨(some 34), (Op.binOp BinOp.neq 27 (Operand.tmp 33) (Operand.const (Value.int IntKind.i64 0)) 27), none, ann0⟩] none)
 (.cond (Operand.tmp 34) (.seq (.reg [⟨(some 35), (Op.move (Operand.tmp 10)), none, ann0⟩,
  ⟨(some 6), (Op.assign (Operand.tmp 35)), none, ann0⟩] none)
 .ret)
 .skip))))) (.tidy [3, 4, 5, 25, 26, 27] z (z + 5)))
 (.reg [⟨(some 36), (Op.binOp BinOp.add 3 (Operand.tmp 27) (Operand.const (Value.int IntKind.i64 1)) 3), none, ann0⟩,
  ⟨(some 27), (Op.move (Operand.tmp 36)), none, ann0⟩] none)))) (.tidy [3, 4, 5, 25, 26, 27] z (z + 4))
def s20_1 (z : Nat) : SC := c20_1 z
theorem e20_1 {C : Pg} {z : Nat} {st : St} {ks : List Fr} {K : Ex → St → Prop} : wpk C (s20_1 z) st ks K ↔ wpk C (c20_1 z) st ks K := Iff.rfl
/-- slots: 3 r, 4 errors, 5 traffic, 47 , 48 , 49 ; objects: z + 5 -/
def c20_2 (z : Nat) : SC := .post (.seq (.reg [⟨(some 50), (Op.binOp BinOp.lss 3 (Operand.tmp 49) (Operand.tmp 48) 3), none, ann0⟩] none)
 (.seq (.cond (Operand.tmp 50) .skip
 (.exit 2))
 (.seq (.post (.block 3 (.seq (.reg [⟨(some 51), (Op.indexAddr 95 (Operand.tmp 47) (Operand.tmp 49)), none, ann0⟩,
  ⟨(some 52), (Op.load 35 (Operand.tmp 51)), none, ann0⟩,
  ⟨(some 12), (Op.alloc 35), none, ⟨1, false, false⟩⟩,
  ⟨none, (Op.store 35 (Operand.tmp 12) (Operand.tmp 52)), none, ann0⟩] none)
 (.seq (.post (.reg [⟨(some 53), (Op.fieldAddr 35 (Operand.tmp 12) 0), none, ann0⟩,
  ⟨(some 54), (Op.load 9 (Operand.tmp 53)), none, ann0⟩,
  ⟨(some 55), (Op.fieldAddr 23 (Operand.tmp 3) 1), none, ann0⟩,
  ⟨(some 56), (Op.load 9 (Operand.tmp 55)), none, ann0⟩,
  ⟨(some 57), (Op.binOp BinOp.neq 9 (Operand.tmp 54) (Operand.tmp 56) 9), none, ann0⟩,
  ⟨(some 58), (Op.move (Operand.tmp 57)), none, ann0⟩,
  ⟨(some 59), (Op.fieldAddr 35 (Operand.tmp 12) 1), (some (58, false)), ann0⟩,
  ⟨(some 60), (Op.load 9 (Operand.tmp 59)), (some (58, false)), ann0⟩,
  ⟨(some 61), (Op.fieldAddr 23 (Operand.tmp 3) 2), (some (58, false)), ann0⟩,
  ⟨(some 62), (Op.load 9 (Operand.tmp 61)), (some (58, false)), ann0⟩,
  ⟨(some 63), (Op.binOp BinOp.neq 9 (Operand.tmp 60) (Operand.tmp 62) 9), (some (58, false)), ann0⟩,
  ⟨(some 64), (Op.pick (Operand.tmp 58) (Operand.const (Value.bool true)) (Operand.tmp 63)), none, ann0⟩,
  ⟨(some 65), (Op.move (Operand.tmp 64)), none, ann0⟩,
  ⟨(some 66), (Op.fieldAddr 35 (Operand.tmp 12) 4), (some (65, false)), ann0⟩,
  ⟨(some 67), (Op.load 3 (Operand.tmp 66)), (some (65, false)), ann0⟩,
  ⟨(some 68), (Op.fieldAddr 35 (Operand.tmp 4) 4), (some (65, false)), ann0⟩,
  ⟨(some 69), (Op.load 3 (Operand.tmp 68)), (some (65, false)), ann0⟩,
  ⟨(some 70), (Op.binOp BinOp.neq 3 (Operand.tmp 67) (Operand.tmp 69) 3), (some (65, false)), ann0⟩,
  ⟨(some 71), (Op.pick (Operand.tmp 65) (Operand.const (Value.bool true)) (Operand.tmp 70)), none, ann0⟩,
  ⟨(some 72), (Op.move (Operand.tmp 71)), none, ann0⟩,
  ⟨(some 73), (Op.fieldAddr 35 (Operand.tmp 12) 5), (some (72, false)), ann0⟩,
  ⟨(some 74), (Op.load 33 (Operand.tmp 73)), (some (72, false)), ann0⟩,
  ⟨(some 75), (Op.call { callee := (Callee.builtin Builtin.len), args := #[(Operand.tmp 74)], argTypes := #[33] }), (some (72, false)), ann0⟩,
  ⟨(some 76), (Op.fieldAddr 35 (Operand.tmp 4) 5), (some (72, false)), ann0⟩,
  ⟨(some 77), (Op.load 33 (Operand.tmp 76)), (some (72, false)), ann0⟩,
  ⟨(some 78), (Op.call { callee := (Callee.builtin Builtin.len), args := #[(Operand.tmp 77)], argTypes := #[33] }), (some (72, false)), ann0⟩,
  ⟨(some 79), (Op.binOp BinOp.neq 3 (Operand.tmp 75) (Operand.tmp 78) 3), (some (72, false)), ann0⟩,
  ⟨(some 80), (Op.pick (Operand.tmp 72) (Operand.const (Value.bool true)) (Operand.tmp 79)), none, ann0⟩] none) (.tidy [3, 4, 5, 47, 48, 49, 80] z (z + 6)))
 (.cond (Operand.tmp 80) (.seq (.reg [⟨(some 6), (Op.assign (Operand.const (Value.int IntKind.i64 17))), none, ann0⟩] none)
 .ret)
 .skip)))) (.tidy [3, 4, 5, 47, 48, 49] z (z + 6)))
 (.reg [⟨(some 81), (Op.binOp BinOp.add 3 (Operand.tmp 49) (Operand.const (Value.int IntKind.i64 1)) 3), none, ann0⟩,
  ⟨(some 49), (Op.move (Operand.tmp 81)), none, ann0⟩] none)))) (.tidy [3, 4, 5, 47, 48, 49] z (z + 5))
def s20_2 (z : Nat) : SC := c20_2 z
theorem e20_2 {C : Pg} {z : Nat} {st : St} {ks : List Fr} {K : Ex → St → Prop} : wpk C (s20_2 z) st ks K ↔ wpk C (c20_2 z) st ks K := Iff.rfl
/-- slots: 5 traffic, 13 sum, 83 , 84 , 85 ; objects: z + 5 -/
def c20_3 (z : Nat) : SC := .post (.seq (.reg [⟨(some 86), (Op.binOp BinOp.lss 3 (Operand.tmp 85) (Operand.tmp 84) 3), none, ann0⟩] none)
 (.seq (.cond (Operand.tmp 86) .skip
 (.exit 4))
 (.seq (.post (.block 5 (.seq (.reg [⟨(some 87), (Op.move (Operand.tmp 85)), none, ann0⟩,
  ⟨(some 88), (Op.indexAddr 33 (Operand.tmp 83) (Operand.tmp 85)), none, ann0⟩,
  ⟨(some 89), (Op.load 3 (Operand.tmp 88)), none, ann0⟩,
  ⟨(some 14), (Op.assign (Operand.tmp 87)), none, ann0⟩,
  ⟨(some 15), (Op.assign (Operand.tmp 89)), none, ann0⟩] none)
 (.seq (.post (.reg [⟨(some 90), (Op.move (Operand.tmp 15)), none, ann0⟩,
  ⟨(some 91), (Op.fieldAddr 35 (Operand.tmp 5) 5), none, ann0⟩,
  ⟨(some 92), (Op.load 33 (Operand.tmp 91)), none, ann0⟩,
  ⟨(some 93), (Op.move (Operand.tmp 14)), none, ann0⟩,
  ⟨(some 94), (Op.indexAddr 33 (Operand.tmp 92) (Operand.tmp 93)), none, ann0⟩,
  ⟨(some 95), (Op.load 3 (Operand.tmp 94)), none, ann0⟩,
  ⟨(some 96), (Op.binOp BinOp.gtr 3 (Operand.tmp 90) (Operand.tmp 95) 3), none, ann0⟩] none) (.tidy [5, 13, 83, 84, 85, 96] z (z + 5)))
 (.cond (Operand.tmp 96) (.seq (.reg [⟨(some 6), (Op.assign (Operand.const (Value.int IntKind.i64 2))), none, ann0⟩] none)
 .ret)
 .skip)))) (.tidy [5, 13, 83, 84, 85] z (z + 5)))
 (.reg [⟨(some 97), (Op.binOp BinOp.add 3 (Operand.tmp 85) (Operand.const (Value.int IntKind.i64 1)) 3), none, ann0⟩,
  ⟨(some 85), (Op.move (Operand.tmp 97)), none, ann0⟩] none)))) (.tidy [5, 13, 83, 84, 85] z (z + 5))
def s20_3 (z : Nat) : SC := c20_3 z
theorem e20_3 {C : Pg} {z : Nat} {st : St} {ks : List Fr} {K : Ex → St → Prop} : wpk C (s20_3 z) st ks K ↔ wpk C (c20_3 z) st ks K := Iff.rfl
/-- slots: 13 sum, 99 , 100 , 101 ; objects: z + 5 -/
def c20_4 (z : Nat) : SC := .post (.seq (.reg [⟨(some 102), (Op.binOp BinOp.lss 3 (Operand.tmp 101) (Operand.tmp 100) 3), none, ann0⟩] none)
 (.seq (.cond (Operand.tmp 102) .skip
 (.exit 6))
 (.seq (.post (.block 7 (.seq (.reg [⟨(some 103), (Op.indexAddr 33 (Operand.tmp 99) (Operand.tmp 101)), none, ann0⟩,
  ⟨(some 104), (Op.load 3 (Operand.tmp 103)), none, ann0⟩,
  ⟨(some 17), (Op.assign (Operand.tmp 104)), none, ann0⟩] none)
 (.seq (.post (.reg [⟨(some 105), (Op.move (Operand.tmp 13)), none, ann0⟩,
  ⟨(some 106), (Op.move (Operand.tmp 17)), none, ann0⟩,
  ⟨(some 107), (Op.binOp BinOp.add 3 (Operand.tmp 105) (Operand.tmp 106) 3), none, ann0⟩,
  ⟨(some 13), (Op.assign (Operand.tmp 107)), none, ann0⟩] none) (.tidy [13, 99, 100, 101] z (z + 5)))
 (.seq (.reg [⟨(some 108), (Op.move (Operand.tmp 13)), none, ann0⟩,
  ⟨(some 109), (Op.binOp BinOp.gtr 3 (Operand.tmp 108) (Operand.const (Value.int IntKind.i64 4294967296)) 3), none, ann0⟩] none)
 (.cond (Operand.tmp 109) (.seq (.reg [⟨(some 6), (Op.assign (Operand.const (Value.int IntKind.i64 20))), none, ann0⟩] none)
 .ret)
 .skip))))) (.tidy [13, 99, 100, 101] z (z + 5)))
 (.reg [⟨(some 110), (Op.binOp BinOp.add 3 (Operand.tmp 101) (Operand.const (Value.int IntKind.i64 1)) 3), none, ann0⟩,
  ⟨(some 101), (Op.move (Operand.tmp 110)), none, ann0⟩] none)))) (.tidy [13, 99, 100, 101] z (z + 5))
def s20_4 (z : Nat) : SC := c20_4 z
theorem e20_4 {C : Pg} {z : Nat} {st : St} {ks : List Fr} {K : Ex → St → Prop} : wpk C (s20_4 z) st ks K ↔ wpk C (c20_4 z) st ks K := Iff.rfl
/-- sleuth/alert.CheckInput -/
def s20 (z : Nat) : SFn := ⟨3, 111, [(ResultVar.tmp 6)],
 (.seq (.reg [⟨(some 3), (Op.box 23 (Operand.tmp 0)), none, ⟨1, false, false⟩⟩,
  ⟨(some 4), (Op.box 35 (Operand.tmp 1)), none, ⟨1, false, false⟩⟩,
  ⟨(some 5), (Op.box 35 (Operand.tmp 2)), none, ⟨1, false, false⟩⟩,
  ⟨(some 6), (Op.assign (Operand.const (Value.int IntKind.i64 0))), none, ann0⟩] none)
 (.seq (.post (.seq (.reg [⟨(some 18), (Op.load 23 (Operand.tmp 3)), none, ann0⟩,
  ⟨(some 19), (Op.call { callee := (Callee.value (Operand.func 14)), args := #[(Operand.tmp 18)], argTypes := #[23] }), none, ann0⟩,
  ⟨(some 7), (Op.assign (Operand.tmp 19)), none, ann0⟩] none)
 (.seq (.reg [⟨(some 20), (Op.move (Operand.tmp 7)), none, ann0⟩,
  ⟨(some 21), (Op.binOp BinOp.neq 27 (Operand.tmp 20) (Operand.const (Value.int IntKind.i64 0)) 27), none, ann0⟩] none)
 (.cond (Operand.tmp 21) (.seq (.reg [⟨(some 22), (Op.move (Operand.tmp 7)), none, ann0⟩,
  ⟨(some 6), (Op.assign (Operand.tmp 22)), none, ann0⟩] none)
 .ret)
 .skip))) (.tidy [3, 4, 5] z (z + 3)))
 (.seq (.post (.seq (.reg [⟨(some 23), (Op.load 35 (Operand.tmp 4)), none, ann0⟩,
  ⟨(some 24), (Op.load 35 (Operand.tmp 5)), none, ann0⟩,
  ⟨(some 25), (Op.buildSlice 95 2 #[(0, (Operand.tmp 23)), (1, (Operand.tmp 24))]), none, ⟨1, true, false⟩⟩,
  ⟨(some 26), (Op.call { callee := (Callee.builtin Builtin.len), args := #[(Operand.tmp 25)], argTypes := #[95] }), none, ann0⟩,
  ⟨(some 27), (Op.move (Operand.const (Value.int IntKind.i64 0))), none, ann0⟩] none)
 (.post (.block 0 (.pre (.tidy [3, 4, 5, 25, 26, 27] z (z + 4)) (.loop (s20_1 z)))) (.tidy [3, 4, 5] z (z + 4)))) (.tidy [3, 4, 5] z (z + 4)))
 (.seq (.post (.seq (.post (.reg [⟨(some 37), (Op.fieldAddr 35 (Operand.tmp 4) 2), none, ann0⟩,
  ⟨(some 38), (Op.load 3 (Operand.tmp 37)), none, ann0⟩,
  ⟨(some 39), (Op.binOp BinOp.neq 3 (Operand.tmp 38) (Operand.const (Value.int IntKind.i64 2)) 3), none, ann0⟩,
  ⟨(some 40), (Op.move (Operand.tmp 39)), none, ann0⟩,
  ⟨(some 41), (Op.fieldAddr 35 (Operand.tmp 5) 2), (some (40, false)), ann0⟩,
  ⟨(some 42), (Op.load 3 (Operand.tmp 41)), (some (40, false)), ann0⟩,
  ⟨(some 43), (Op.binOp BinOp.neq 3 (Operand.tmp 42) (Operand.const (Value.int IntKind.i64 1)) 3), (some (40, false)), ann0⟩,
  ⟨(some 44), (Op.pick (Operand.tmp 40) (Operand.const (Value.bool true)) (Operand.tmp 43)), none, ann0⟩] none) (.tidy [3, 4, 5, 44] z (z + 4)))
 (.cond (Operand.tmp 44) (.seq (.reg [⟨(some 6), (Op.assign (Operand.const (Value.int IntKind.i64 12))), none, ann0⟩] none)
 .ret)
 .skip)) (.tidy [3, 4, 5] z (z + 4)))
 (.seq (.post (.seq (.reg [⟨(some 45), (Op.load 35 (Operand.tmp 4)), none, ann0⟩,
  ⟨(some 46), (Op.load 35 (Operand.tmp 5)), none, ann0⟩,
  ⟨(some 47), (Op.buildSlice 95 2 #[(0, (Operand.tmp 45)), (1, (Operand.tmp 46))]), none, ⟨1, true, false⟩⟩,
  ⟨(some 48), (Op.call { callee := (Callee.builtin Builtin.len), args := #[(Operand.tmp 47)], argTypes := #[95] }), none, ann0⟩,
  ⟨(some 49), (Op.move (Operand.const (Value.int IntKind.i64 0))), none, ann0⟩] none)
 (.post (.block 2 (.pre (.tidy [3, 4, 5, 47, 48, 49] z (z + 5)) (.loop (s20_2 z)))) (.tidy [4, 5] z (z + 5)))) (.tidy [4, 5] z (z + 5)))
 (.seq (.reg [⟨(some 13), (Op.assign (Operand.const (Value.int IntKind.i64 0))), none, ann0⟩] none)
 (.seq (.post (.seq (.reg [⟨(some 82), (Op.fieldAddr 35 (Operand.tmp 4) 5), none, ann0⟩,
  ⟨(some 83), (Op.load 33 (Operand.tmp 82)), none, ann0⟩,
  ⟨(some 84), (Op.call { callee := (Callee.builtin Builtin.len), args := #[(Operand.tmp 83)], argTypes := #[33] }), none, ann0⟩,
  ⟨(some 85), (Op.move (Operand.const (Value.int IntKind.i64 0))), none, ann0⟩] none)
 (.post (.block 4 (.pre (.tidy [5, 13, 83, 84, 85] z (z + 5)) (.loop (s20_3 z)))) (.tidy [5, 13] z (z + 5)))) (.tidy [5, 13] z (z + 5)))
 (.seq (.post (.seq (.reg [⟨(some 98), (Op.fieldAddr 35 (Operand.tmp 5) 5), none, ann0⟩,
  ⟨(some 99), (Op.load 33 (Operand.tmp 98)), none, ann0⟩,
  ⟨(some 100), (Op.call { callee := (Callee.builtin Builtin.len), args := #[(Operand.tmp 99)], argTypes := #[33] }), none, ann0⟩,
  ⟨(some 101), (Op.move (Operand.const (Value.int IntKind.i64 0))), none, ann0⟩] none)
 (.post (.block 6 (.pre (.tidy [13, 99, 100, 101] z (z + 5)) (.loop (s20_4 z)))) (.tidy [] z (z + 5)))) (.tidy [] z (z + 5)))
 (.seq (.reg [⟨(some 6), (Op.assign (Operand.const (Value.int IntKind.i64 0))), none, ann0⟩] none)
 .ret)))))))))⟩
theorem F20 (z : Nat) : FOk Try.prog 20 (s20 z) := by unfold FOk; kernel_rfl
/-- slots: 0 errors, 1 traffic, 2 observe, 7 out, 10 , 11 ; objects: z + 1 -/
def c37_1 (z : Nat) : SC := .post (.seq (.reg [⟨(some 12), (Op.binOp BinOp.lss 3 (Operand.tmp 11) (Operand.tmp 10) 3), none, ann0⟩] none)
 (.seq (.cond (Operand.tmp 12) .skip
 (.exit 0))
 (.seq (.post (.block 1 (.seq (.reg [⟨(some 13), (Op.move (Operand.tmp 11)), none, ann0⟩,
  ⟨(some 8), (Op.assign (Operand.tmp 13)), none, ann0⟩] none)
 (.reg [⟨(some 14), (Op.move (Operand.tmp 7)), none, ann0⟩,
  ⟨(some 15), (Op.move (Operand.tmp 2)), none, ann0⟩,
  ⟨(some 16), (Op.move (Operand.tmp 0)), none, ann0⟩,
  ⟨(some 17), (Op.move (Operand.tmp 8)), none, ann0⟩,
  ⟨(some 18), (Op.indexAddr 33 (Operand.tmp 16) (Operand.tmp 17)), none, ann0⟩,
  ⟨(some 19), (Op.load 3 (Operand.tmp 18)), none, ann0⟩,
  ⟨(some 20), (Op.move (Operand.tmp 1)), none, ann0⟩,
  ⟨(some 21), (Op.move (Operand.tmp 8)), none, ann0⟩,
  ⟨(some 22), (Op.indexAddr 33 (Operand.tmp 20) (Operand.tmp 21)), none, ann0⟩,
  ⟨(some 23), (Op.load 3 (Operand.tmp 22)), none, ann0⟩,
  ⟨(some 24), (Op.call { callee := (Callee.value (Operand.tmp 15)), args := #[(Operand.tmp 19), (Operand.tmp 23)], argTypes := #[3, 3] }), none, ann0⟩,
  ⟨(some 25), (Op.buildSlice 33 1 #[(0, (Operand.tmp 24))]), none, ⟨1, true, false⟩⟩,
  ⟨(some 26), (Op.call { callee := (Callee.builtin Builtin.append), args := #[(Operand.tmp 14), (Operand.tmp 25)], argTypes := #[33, 33] }), none, ann0⟩,
  ⟨(some 7), (Op.assign (Operand.tmp 26)), none, ann0⟩] (some [0, 0, 0, 0, 12, 28, 0, 0, 192, 448, 1022, 2046, 4095, 8191])))) (.tidy [0, 1, 2, 7, 10, 11] z (z + 2)))
 (.reg [⟨(some 27), (Op.binOp BinOp.add 3 (Operand.tmp 11) (Operand.const (Value.int IntKind.i64 1)) 3), none, ann0⟩,
  ⟨(some 11), (Op.move (Operand.tmp 27)), none, ann0⟩] none)))) (.tidy [0, 1, 2, 7, 10, 11] z (z + 1))
def s37_1 (z : Nat) : SC := c37_1 z
theorem e37_1 {C : Pg} {z : Nat} {st : St} {ks : List Fr} {K : Ex → St → Prop} : wpk C (s37_1 z) st ks K ↔ wpk C (c37_1 z) st ks K := Iff.rfl
/-- sleuth/alert.evaluate -/
def s37 (z : Nat) : SFn := ⟨3, 29, [(ResultVar.tmp 6)],
 (.post (.seq (.reg [⟨(some 6), (Op.assign (Operand.const (Value.slice none 0 0))), none, ann0⟩] none)
 (.seq (.post (.reg [⟨(some 7), (Op.assign (Operand.const (Value.slice none 0 0))), none, ann0⟩] none) (.mkv 7 3 1))
 (.seq (.post (.seq (.reg [⟨(some 9), (Op.move (Operand.tmp 0)), none, ann0⟩,
  ⟨(some 10), (Op.call { callee := (Callee.builtin Builtin.len), args := #[(Operand.tmp 9)], argTypes := #[33] }), none, ann0⟩,
  ⟨(some 11), (Op.move (Operand.const (Value.int IntKind.i64 0))), none, ann0⟩] none)
 (.post (.block 0 (.pre (.tidy [0, 1, 2, 7, 10, 11] z (z + 1)) (.loop (s37_1 z)))) (.tidy [7] z (z + 1)))) (.tidy [7] z (z + 1)))
 (.seq (.reg [⟨(some 28), (Op.move (Operand.tmp 7)), none, ann0⟩,
  ⟨(some 6), (Op.assign (Operand.tmp 28)), none, ann0⟩] none)
 .ret)))) (.frz 6))⟩
theorem F37 (z : Nat) : FOk Try.prog 37 (s37 z) := by unfold FOk; kernel_rfl
/-- sleuth/alert.States -/
def s18 (z : Nat) : SFn := ⟨3, 27, [(ResultVar.tmp 6), (ResultVar.tmp 7)],
 (.post (.seq (.reg [⟨(some 3), (Op.box 23 (Operand.tmp 0)), none, ⟨1, false, false⟩⟩,
  ⟨(some 4), (Op.box 35 (Operand.tmp 1)), none, ⟨1, false, false⟩⟩,
  ⟨(some 5), (Op.box 35 (Operand.tmp 2)), none, ⟨1, false, false⟩⟩,
  ⟨(some 6), (Op.assign (Operand.const (Value.slice none 0 0))), none, ann0⟩,
  ⟨(some 7), (Op.assign (Operand.const (Value.int IntKind.i64 0))), none, ann0⟩] none)
 (.seq (.post (.seq (.post (.reg [⟨(some 10), (Op.load 23 (Operand.tmp 3)), none, ann0⟩,
  ⟨(some 11), (Op.load 35 (Operand.tmp 4)), none, ann0⟩,
  ⟨(some 12), (Op.load 35 (Operand.tmp 5)), none, ann0⟩,
  ⟨(some 13), (Op.call { callee := (Callee.value (Operand.func 20)), args := #[(Operand.tmp 10), (Operand.tmp 11), (Operand.tmp 12)], argTypes := #[23, 35, 35] }), none, ann0⟩,
  ⟨(some 8), (Op.assign (Operand.tmp 13)), none, ann0⟩] none) (.tidy [3, 4, 5, 8] z (z + 3)))
 (.seq (.reg [⟨(some 14), (Op.move (Operand.tmp 8)), none, ann0⟩,
  ⟨(some 15), (Op.binOp BinOp.neq 27 (Operand.tmp 14) (Operand.const (Value.int IntKind.i64 0)) 27), none, ann0⟩] none)
 (.cond (Operand.tmp 15) (.seq (.reg [⟨(some 16), (Op.move (Operand.tmp 8)), none, ann0⟩,
  ⟨(some 6), (Op.assign (Operand.const (Value.slice none 0 0))), none, ann0⟩,
  ⟨(some 7), (Op.assign (Operand.tmp 16)), none, ann0⟩] none)
 .ret)
 .skip))) (.tidy [3, 4, 5] z (z + 3)))
 (.seq (.reg [⟨(some 17), (Op.load 23 (Operand.tmp 3)), none, ann0⟩,
  ⟨(some 18), (Op.build 91 #[(0, (Operand.tmp 17))]), none, ann0⟩,
  ⟨(some 19), (Op.box 91 (Operand.tmp 18)), none, ⟨1, false, false⟩⟩,
  ⟨(some 9), (Op.assign (Operand.tmp 19)), none, ann0⟩] none)
 (.seq (.reg [⟨(some 20), (Op.fieldAddr 35 (Operand.tmp 4) 5), none, ann0⟩,
  ⟨(some 21), (Op.load 33 (Operand.tmp 20)), none, ann0⟩,
  ⟨(some 22), (Op.fieldAddr 35 (Operand.tmp 5) 5), none, ann0⟩,
  ⟨(some 23), (Op.load 33 (Operand.tmp 22)), none, ann0⟩,
  ⟨(some 24), (Op.move (Operand.tmp 9)), none, ann0⟩,
  ⟨(some 25), (Op.makeFunc (Fn.func 38) #[(Operand.tmp 24)] #[]), none, ann0⟩,
  ⟨(some 26), (Op.call { callee := (Callee.value (Operand.func 37)), args := #[(Operand.tmp 21), (Operand.tmp 23), (Operand.tmp 25)], argTypes := #[33, 33, 93] }), none, ann0⟩,
  ⟨(some 6), (Op.assign (Operand.tmp 26)), none, ann0⟩,
  ⟨(some 7), (Op.assign (Operand.const (Value.int IntKind.i64 0))), none, ann0⟩] none)
 .ret)))) (.frz 6))⟩
theorem F18 (z : Nat) : FOk Try.prog 18 (s18 z) := by unfold FOk; kernel_rfl
/-- slots: 4 errors, 8 l, 10 out, 25 , 26 , 27 ; objects: z + 4 -/
def c19_1 (z : Nat) : SC := .post (.seq (.reg [⟨(some 28), (Op.binOp BinOp.lss 3 (Operand.tmp 27) (Operand.tmp 26) 3), none, ann0⟩] none)
 (.seq (.cond (Operand.tmp 28) .skip
 (.exit 0))
 (.seq (.post (.block 1 (.seq (.reg [⟨(some 29), (Op.move (Operand.tmp 27)), none, ann0⟩,
  ⟨(some 30), (Op.indexAddr 33 (Operand.tmp 25) (Operand.tmp 27)), none, ann0⟩,
  ⟨(some 31), (Op.load 3 (Operand.tmp 30)), none, ann0⟩,
  ⟨(some 11), (Op.assign (Operand.tmp 29)), none, ann0⟩,
  ⟨(some 12), (Op.assign (Operand.tmp 31)), none, ann0⟩] none)
 (.seq (.post (.reg [⟨(some 32), (Op.fieldAddr 35 (Operand.tmp 4) 4), none, ann0⟩,
  ⟨(some 33), (Op.load 3 (Operand.tmp 32)), none, ann0⟩,
  ⟨(some 34), (Op.move (Operand.tmp 11)), none, ann0⟩,
  ⟨(some 35), (Op.binOp BinOp.add 3 (Operand.tmp 33) (Operand.tmp 34) 3), none, ann0⟩,
  ⟨(some 13), (Op.assign (Operand.tmp 35)), none, ann0⟩] none) (.tidy [4, 8, 10, 11, 12, 13, 25, 26, 27] z (z + 4)))
 (.seq (.seq (.reg [⟨(some 36), (Op.move (Operand.tmp 12)), none, ann0⟩,
  ⟨(some 37), (Op.binOp BinOp.eql 3 (Operand.tmp 36) (Operand.const (Value.int IntKind.i64 0)) 3), none, ann0⟩] none)
 (.cond (Operand.tmp 37) (.exit 1)
 .skip))
 (.seq (.post (.seq (.post (.reg [⟨(some 38), (Op.move (Operand.tmp 11)), none, ann0⟩,
  ⟨(some 39), (Op.binOp BinOp.eql 3 (Operand.tmp 38) (Operand.const (Value.int IntKind.i64 0)) 3), none, ann0⟩,
  ⟨(some 40), (Op.move (Operand.tmp 39)), none, ann0⟩,
  ⟨(some 41), (Op.move (Operand.tmp 8)), (some (40, false)), ann0⟩,
  ⟨(some 42), (Op.move (Operand.tmp 11)), (some (40, false)), ann0⟩,
  ⟨(some 43), (Op.binOp BinOp.sub 3 (Operand.tmp 42) (Operand.const (Value.int IntKind.i64 1)) 3), (some (40, false)), ann0⟩,
  ⟨(some 44), (Op.indexAddr 33 (Operand.tmp 41) (Operand.tmp 43)), (some (40, false)), ann0⟩,
  ⟨(some 45), (Op.load 3 (Operand.tmp 44)), (some (40, false)), ann0⟩,
  ⟨(some 46), (Op.binOp BinOp.eql 3 (Operand.tmp 45) (Operand.const (Value.int IntKind.i64 0)) 3), (some (40, false)), ann0⟩,
  ⟨(some 47), (Op.pick (Operand.tmp 40) (Operand.const (Value.bool true)) (Operand.tmp 46)), none, ann0⟩] none) (.tidy [4, 8, 10, 12, 13, 25, 26, 27, 47] z (z + 4)))
 (.cond (Operand.tmp 47) (.reg [⟨(some 48), (Op.move (Operand.tmp 10)), none, ann0⟩,
  ⟨(some 49), (Op.move (Operand.tmp 13)), none, ann0⟩,
  ⟨(some 50), (Op.build 57 #[(0, (Operand.tmp 49)), (2, (Operand.const (Value.int IntKind.i64 (-1))))]), none, ann0⟩,
  ⟨(some 51), (Op.buildSlice 39 1 #[(0, (Operand.tmp 50))]), none, ⟨1, true, false⟩⟩,
  ⟨(some 52), (Op.call { callee := (Callee.builtin Builtin.append), args := #[(Operand.tmp 48), (Operand.tmp 51)], argTypes := #[39, 39] }), none, ann0⟩,
  ⟨(some 10), (Op.assign (Operand.tmp 52)), none, ann0⟩] none)
 .skip)) (.tidy [4, 8, 10, 12, 13, 25, 26, 27] z (z + 5)))
 (.seq (.reg [⟨(some 53), (Op.move (Operand.tmp 10)), none, ann0⟩,
  ⟨(some 54), (Op.move (Operand.tmp 10)), none, ann0⟩,
  ⟨(some 55), (Op.call { callee := (Callee.builtin Builtin.len), args := #[(Operand.tmp 54)], argTypes := #[39] }), none, ann0⟩,
  ⟨(some 56), (Op.binOp BinOp.sub 3 (Operand.tmp 55) (Operand.const (Value.int IntKind.i64 1)) 3), none, ann0⟩,
  ⟨(some 57), (Op.indexAddr 39 (Operand.tmp 53) (Operand.tmp 56)), none, ann0⟩,
  ⟨(some 14), (Op.assign (Operand.tmp 57)), none, ann0⟩] none)
 (.seq (.post (.reg [⟨(some 58), (Op.move (Operand.tmp 14)), none, ann0⟩,
  ⟨(some 59), (Op.move (Operand.tmp 13)), none, ann0⟩,
  ⟨(some 60), (Op.binOp BinOp.add 3 (Operand.tmp 59) (Operand.const (Value.int IntKind.i64 1)) 3), none, ann0⟩,
  ⟨(some 61), (Op.nilCheck (Operand.tmp 58)), none, ann0⟩,
  ⟨(some 62), (Op.fieldAddr 57 (Operand.tmp 61) 1), none, ann0⟩,
  ⟨none, (Op.store 3 (Operand.tmp 62) (Operand.tmp 60)), none, ann0⟩] none) (.tidy [4, 8, 10, 12, 13, 14, 25, 26, 27] z (z + 5)))
 (.seq (.post (.reg [⟨(some 63), (Op.move (Operand.tmp 12)), none, ann0⟩,
  ⟨(some 64), (Op.binOp BinOp.eql 3 (Operand.tmp 63) (Operand.const (Value.int IntKind.i64 2)) 3), none, ann0⟩,
  ⟨(some 65), (Op.move (Operand.tmp 64)), none, ann0⟩,
  ⟨(some 66), (Op.move (Operand.tmp 14)), (some (65, true)), ann0⟩,
  ⟨(some 67), (Op.nilCheck (Operand.tmp 66)), (some (65, true)), ann0⟩,
  ⟨(some 68), (Op.fieldAddr 57 (Operand.tmp 67) 2), (some (65, true)), ann0⟩,
  ⟨(some 69), (Op.load 3 (Operand.tmp 68)), (some (65, true)), ann0⟩,
  ⟨(some 70), (Op.binOp BinOp.lss 3 (Operand.tmp 69) (Operand.const (Value.int IntKind.i64 0)) 3), (some (65, true)), ann0⟩,
  ⟨(some 71), (Op.pick (Operand.tmp 65) (Operand.tmp 70) (Operand.const (Value.bool false))), none, ann0⟩] none) (.tidy [4, 8, 10, 13, 14, 25, 26, 27, 71] z (z + 5)))
 (.cond (Operand.tmp 71) (.reg [⟨(some 72), (Op.move (Operand.tmp 14)), none, ann0⟩,
  ⟨(some 73), (Op.move (Operand.tmp 13)), none, ann0⟩,
  ⟨(some 74), (Op.nilCheck (Operand.tmp 72)), none, ann0⟩,
  ⟨(some 75), (Op.fieldAddr 57 (Operand.tmp 74) 2), none, ann0⟩,
  ⟨none, (Op.store 3 (Operand.tmp 75) (Operand.tmp 73)), none, ann0⟩] none)
 .skip))))))))) (.tidy [4, 8, 10, 25, 26, 27] z (z + 5)))
 (.reg [⟨(some 76), (Op.binOp BinOp.add 3 (Operand.tmp 27) (Operand.const (Value.int IntKind.i64 1)) 3), none, ann0⟩,
  ⟨(some 27), (Op.move (Operand.tmp 76)), none, ann0⟩] none)))) (.tidy [4, 8, 10, 25, 26, 27] z (z + 4))
def s19_1 (z : Nat) : SC := c19_1 z
theorem e19_1 {C : Pg} {z : Nat} {st : St} {ks : List Fr} {K : Ex → St → Prop} : wpk C (s19_1 z) st ks K ↔ wpk C (c19_1 z) st ks K := Iff.rfl
/-- sleuth/alert.Episodes -/
def s19 (z : Nat) : SFn := ⟨3, 78, [(ResultVar.tmp 6), (ResultVar.tmp 7)],
 (.post (.seq (.reg [⟨(some 3), (Op.box 23 (Operand.tmp 0)), none, ⟨1, false, false⟩⟩,
  ⟨(some 4), (Op.box 35 (Operand.tmp 1)), none, ⟨1, false, false⟩⟩,
  ⟨(some 5), (Op.box 35 (Operand.tmp 2)), none, ⟨1, false, false⟩⟩,
  ⟨(some 6), (Op.assign (Operand.const (Value.slice none 0 0))), none, ann0⟩,
  ⟨(some 7), (Op.assign (Operand.const (Value.int IntKind.i64 0))), none, ann0⟩] none)
 (.seq (.post (.reg [⟨(some 16), (Op.load 23 (Operand.tmp 3)), none, ann0⟩,
  ⟨(some 17), (Op.load 35 (Operand.tmp 4)), none, ann0⟩,
  ⟨(some 18), (Op.load 35 (Operand.tmp 5)), none, ann0⟩,
  ⟨(some 19), (Op.call { callee := (Callee.value (Operand.func 18)), args := #[(Operand.tmp 16), (Operand.tmp 17), (Operand.tmp 18)], argTypes := #[23, 35, 35] }), none, ann0⟩,
  ⟨(some 15), (Op.move (Operand.tmp 19)), none, ann0⟩,
  ⟨(some 20), (Op.extract (Operand.tmp 15) 0), none, ann0⟩,
  ⟨(some 21), (Op.extract (Operand.tmp 15) 1), none, ann0⟩,
  ⟨(some 8), (Op.assign (Operand.tmp 20)), none, ann0⟩,
  ⟨(some 9), (Op.assign (Operand.tmp 21)), none, ann0⟩] none) (.tidy [4, 8, 9] z (z + 3)))
 (.seq (.post (.seq (.reg [⟨(some 22), (Op.move (Operand.tmp 9)), none, ann0⟩,
  ⟨(some 23), (Op.binOp BinOp.neq 27 (Operand.tmp 22) (Operand.const (Value.int IntKind.i64 0)) 27), none, ann0⟩] none)
 (.cond (Operand.tmp 23) (.seq (.reg [⟨(some 24), (Op.move (Operand.tmp 9)), none, ann0⟩,
  ⟨(some 6), (Op.assign (Operand.const (Value.slice none 0 0))), none, ann0⟩,
  ⟨(some 7), (Op.assign (Operand.tmp 24)), none, ann0⟩] none)
 .ret)
 .skip)) (.tidy [4, 8] z (z + 3)))
 (.seq (.post (.reg [⟨(some 10), (Op.assign (Operand.const (Value.slice none 0 0))), none, ann0⟩] none) (.mkv 10 57 3))
 (.seq (.post (.seq (.reg [⟨(some 25), (Op.move (Operand.tmp 8)), none, ann0⟩,
  ⟨(some 26), (Op.call { callee := (Callee.builtin Builtin.len), args := #[(Operand.tmp 25)], argTypes := #[33] }), none, ann0⟩,
  ⟨(some 27), (Op.move (Operand.const (Value.int IntKind.i64 0))), none, ann0⟩] none)
 (.post (.block 0 (.pre (.tidy [4, 8, 10, 25, 26, 27] z (z + 4)) (.loop (s19_1 z)))) (.tidy [10] z (z + 4)))) (.tidy [10] z (z + 4)))
 (.seq (.reg [⟨(some 77), (Op.move (Operand.tmp 10)), none, ann0⟩,
  ⟨(some 6), (Op.assign (Operand.tmp 77)), none, ann0⟩,
  ⟨(some 7), (Op.assign (Operand.const (Value.int IntKind.i64 0))), none, ann0⟩] none)
 .ret)))))) (.frz 6))⟩
theorem F19 (z : Nat) : FOk Try.prog 19 (s19 z) := by unfold FOk; kernel_rfl
/-- sleuth/alert.Budget -/
def s23 (z : Nat) : SFn := ⟨2, 22, [(ResultVar.tmp 4), (ResultVar.tmp 5)],
 (.seq (.reg [⟨(some 4), (Op.assign (Operand.const (Value.int IntKind.i64 0))), none, ann0⟩,
  ⟨(some 5), (Op.assign (Operand.const (Value.int IntKind.i64 0))), none, ann0⟩] none)
 (.seq (.post (.seq (.post (.reg [⟨(some 6), (Op.move (Operand.tmp 1)), none, ann0⟩,
  ⟨(some 7), (Op.call { callee := (Callee.value (Operand.func 35)), args := #[(Operand.tmp 6)], argTypes := #[3] }), none, ann0⟩,
  ⟨(some 8), (Op.unOp UnOp.not 4 (Operand.tmp 7)), none, ann0⟩,
  ⟨(some 9), (Op.move (Operand.tmp 8)), none, ann0⟩,
  ⟨(some 10), (Op.move (Operand.tmp 0)), (some (9, false)), ann0⟩,
  ⟨(some 11), (Op.binOp BinOp.lss 3 (Operand.tmp 10) (Operand.const (Value.int IntKind.i64 0)) 3), (some (9, false)), ann0⟩,
  ⟨(some 12), (Op.pick (Operand.tmp 9) (Operand.const (Value.bool true)) (Operand.tmp 11)), none, ann0⟩,
  ⟨(some 13), (Op.move (Operand.tmp 12)), none, ann0⟩,
  ⟨(some 14), (Op.move (Operand.tmp 0)), (some (13, false)), ann0⟩,
  ⟨(some 15), (Op.binOp BinOp.gtr 3 (Operand.tmp 14) (Operand.const (Value.int IntKind.i64 4294967296)) 3), (some (13, false)), ann0⟩,
  ⟨(some 16), (Op.pick (Operand.tmp 13) (Operand.const (Value.bool true)) (Operand.tmp 15)), none, ann0⟩] none) (.tidy [0, 1, 16] z (z + 0)))
 (.cond (Operand.tmp 16) (.seq (.reg [⟨(some 4), (Op.assign (Operand.const (Value.int IntKind.i64 0))), none, ann0⟩,
  ⟨(some 5), (Op.assign (Operand.const (Value.int IntKind.i64 2))), none, ann0⟩] none)
 .ret)
 .skip)) (.tidy [0, 1] z (z + 0)))
 (.seq (.reg [⟨(some 17), (Op.move (Operand.tmp 0)), none, ann0⟩,
  ⟨(some 18), (Op.move (Operand.tmp 1)), none, ann0⟩,
  ⟨(some 19), (Op.binOp BinOp.sub 3 (Operand.const (Value.int IntKind.i64 1000000)) (Operand.tmp 18) 3), none, ann0⟩,
  ⟨(some 20), (Op.binOp BinOp.mul 3 (Operand.tmp 17) (Operand.tmp 19) 3), none, ann0⟩,
  ⟨(some 21), (Op.binOp BinOp.quo 3 (Operand.tmp 20) (Operand.const (Value.int IntKind.i64 1000000)) 3), none, ann0⟩,
  ⟨(some 4), (Op.assign (Operand.tmp 21)), none, ann0⟩,
  ⟨(some 5), (Op.assign (Operand.const (Value.int IntKind.i64 0))), none, ann0⟩] none)
 .ret)))⟩
theorem F23 (z : Nat) : FOk Try.prog 23 (s23 z) := by unfold FOk; kernel_rfl
/-- sleuth/alert.burn -/
def s40 (z : Nat) : SFn := ⟨3, 16, [(ResultVar.tmp 6)],
 (.seq (.reg [⟨(some 6), (Op.assign (Operand.const (Value.int IntKind.i64 0))), none, ann0⟩] none)
 (.seq (.seq (.reg [⟨(some 7), (Op.move (Operand.tmp 1)), none, ann0⟩,
  ⟨(some 8), (Op.binOp BinOp.eql 3 (Operand.tmp 7) (Operand.const (Value.int IntKind.i64 0)) 3), none, ann0⟩] none)
 (.cond (Operand.tmp 8) (.seq (.reg [⟨(some 6), (Op.assign (Operand.const (Value.int IntKind.i64 0))), none, ann0⟩] none)
 .ret)
 .skip))
 (.seq (.reg [⟨(some 9), (Op.move (Operand.tmp 0)), none, ann0⟩,
  ⟨(some 10), (Op.binOp BinOp.mul 3 (Operand.tmp 9) (Operand.const (Value.int IntKind.i64 1000000000)) 3), none, ann0⟩,
  ⟨(some 11), (Op.move (Operand.tmp 1)), none, ann0⟩,
  ⟨(some 12), (Op.move (Operand.tmp 2)), none, ann0⟩,
  ⟨(some 13), (Op.binOp BinOp.sub 3 (Operand.const (Value.int IntKind.i64 1000000)) (Operand.tmp 12) 3), none, ann0⟩,
  ⟨(some 14), (Op.binOp BinOp.mul 3 (Operand.tmp 11) (Operand.tmp 13) 3), none, ann0⟩,
  ⟨(some 15), (Op.binOp BinOp.quo 3 (Operand.tmp 10) (Operand.tmp 14) 3), none, ann0⟩,
  ⟨(some 6), (Op.assign (Operand.tmp 15)), none, ann0⟩] none)
 .ret)))⟩
theorem F40 (z : Nat) : FOk Try.prog 40 (s40 z) := by unfold FOk; kernel_rfl
/-- sleuth/alert.Burn -/
def s24 (z : Nat) : SFn := ⟨3, 32, [(ResultVar.tmp 6), (ResultVar.tmp 7)],
 (.seq (.reg [⟨(some 6), (Op.assign (Operand.const (Value.int IntKind.i64 0))), none, ann0⟩,
  ⟨(some 7), (Op.assign (Operand.const (Value.int IntKind.i64 0))), none, ann0⟩] none)
 (.seq (.post (.seq (.post (.reg [⟨(some 8), (Op.move (Operand.tmp 2)), none, ann0⟩,
  ⟨(some 9), (Op.call { callee := (Callee.value (Operand.func 35)), args := #[(Operand.tmp 8)], argTypes := #[3] }), none, ann0⟩,
  ⟨(some 10), (Op.unOp UnOp.not 4 (Operand.tmp 9)), none, ann0⟩,
  ⟨(some 11), (Op.move (Operand.tmp 10)), none, ann0⟩,
  ⟨(some 12), (Op.move (Operand.tmp 1)), (some (11, false)), ann0⟩,
  ⟨(some 13), (Op.binOp BinOp.lss 3 (Operand.tmp 12) (Operand.const (Value.int IntKind.i64 0)) 3), (some (11, false)), ann0⟩,
  ⟨(some 14), (Op.pick (Operand.tmp 11) (Operand.const (Value.bool true)) (Operand.tmp 13)), none, ann0⟩,
  ⟨(some 15), (Op.move (Operand.tmp 14)), none, ann0⟩,
  ⟨(some 16), (Op.move (Operand.tmp 1)), (some (15, false)), ann0⟩,
  ⟨(some 17), (Op.binOp BinOp.gtr 3 (Operand.tmp 16) (Operand.const (Value.int IntKind.i64 4294967296)) 3), (some (15, false)), ann0⟩,
  ⟨(some 18), (Op.pick (Operand.tmp 15) (Operand.const (Value.bool true)) (Operand.tmp 17)), none, ann0⟩,
  ⟨(some 19), (Op.move (Operand.tmp 18)), none, ann0⟩,
  ⟨(some 20), (Op.move (Operand.tmp 0)), (some (19, false)), ann0⟩,
  ⟨(some 21), (Op.binOp BinOp.lss 3 (Operand.tmp 20) (Operand.const (Value.int IntKind.i64 0)) 3), (some (19, false)), ann0⟩,
  ⟨(some 22), (Op.pick (Operand.tmp 19) (Operand.const (Value.bool true)) (Operand.tmp 21)), none, ann0⟩,
  ⟨(some 23), (Op.move (Operand.tmp 22)), none, ann0⟩,
  ⟨(some 24), (Op.move (Operand.tmp 0)), (some (23, false)), ann0⟩,
  ⟨(some 25), (Op.move (Operand.tmp 1)), (some (23, false)), ann0⟩,
  ⟨(some 26), (Op.binOp BinOp.gtr 3 (Operand.tmp 24) (Operand.tmp 25) 3), (some (23, false)), ann0⟩,
  ⟨(some 27), (Op.pick (Operand.tmp 23) (Operand.const (Value.bool true)) (Operand.tmp 26)), none, ann0⟩] none) (.tidy [0, 1, 2, 27] z (z + 0)))
 (.cond (Operand.tmp 27) (.seq (.reg [⟨(some 6), (Op.assign (Operand.const (Value.int IntKind.i64 0))), none, ann0⟩,
  ⟨(some 7), (Op.assign (Operand.const (Value.int IntKind.i64 2))), none, ann0⟩] none)
 .ret)
 .skip)) (.tidy [0, 1, 2] z (z + 0)))
 (.seq (.reg [⟨(some 28), (Op.move (Operand.tmp 0)), none, ann0⟩,
  ⟨(some 29), (Op.move (Operand.tmp 1)), none, ann0⟩,
  ⟨(some 30), (Op.move (Operand.tmp 2)), none, ann0⟩,
  ⟨(some 31), (Op.call { callee := (Callee.value (Operand.func 40)), args := #[(Operand.tmp 28), (Operand.tmp 29), (Operand.tmp 30)], argTypes := #[3, 3, 3] }), none, ann0⟩,
  ⟨(some 6), (Op.assign (Operand.tmp 31)), none, ann0⟩,
  ⟨(some 7), (Op.assign (Operand.const (Value.int IntKind.i64 0))), none, ann0⟩] none)
 .ret)))⟩
theorem F24 (z : Nat) : FOk Try.prog 24 (s24 z) := by unfold FOk; kernel_rfl
/-- slots: 1 x, 2 errors, 3 traffic, 4 i; objects: z + 5 -/
def c26_1 (z : Nat) : SC := .post (.seq (.post (.seq (.post (.reg [⟨(some 13), (Op.move (Operand.tmp 4)), none, ann0⟩,
  ⟨(some 14), (Op.fieldAddr 52 (Operand.tmp 1) 1), none, ann0⟩,
  ⟨(some 15), (Op.load 50 (Operand.tmp 14)), none, ann0⟩,
  ⟨(some 16), (Op.call { callee := (Callee.builtin Builtin.len), args := #[(Operand.tmp 15)], argTypes := #[50] }), none, ann0⟩,
  ⟨(some 17), (Op.binOp BinOp.lss 3 (Operand.tmp 13) (Operand.tmp 16) 3), none, ann0⟩,
  ⟨(some 18), (Op.move (Operand.tmp 17)), none, ann0⟩,
  ⟨(some 19), (Op.move (Operand.tmp 4)), (some (18, true)), ann0⟩,
  ⟨(some 20), (Op.binOp BinOp.lss 3 (Operand.tmp 19) (Operand.const (Value.int IntKind.i64 16)) 3), (some (18, true)), ann0⟩,
  ⟨(some 21), (Op.pick (Operand.tmp 18) (Operand.tmp 20) (Operand.const (Value.bool false))), none, ann0⟩] none) (.tidy [1, 2, 3, 4, 21] z (z + 5)))
 (.cond (Operand.tmp 21) .skip
 (.exit 0))) (.tidy [1, 2, 3, 4] z (z + 5)))
 (.seq (.post (.block 1 (.seq (.post (.reg [⟨(some 24), (Op.fieldAddr 35 (Operand.tmp 3) 5), none, ann0⟩,
  ⟨(some 25), (Op.load 33 (Operand.tmp 24)), none, ann0⟩,
  ⟨(some 26), (Op.fieldAddr 52 (Operand.tmp 1) 1), none, ann0⟩,
  ⟨(some 27), (Op.load 50 (Operand.tmp 26)), none, ann0⟩,
  ⟨(some 28), (Op.move (Operand.tmp 4)), none, ann0⟩,
  ⟨(some 29), (Op.indexAddr 50 (Operand.tmp 27) (Operand.tmp 28)), none, ann0⟩,
  ⟨(some 30), (Op.indexAddr 59 (Operand.tmp 29) (Operand.const (Value.int IntKind.i64 0))), none, ann0⟩,
  ⟨(some 31), (Op.load 5 (Operand.tmp 30)), none, ann0⟩,
  ⟨(some 32), (Op.convert 5 3 (Operand.tmp 31)), none, ann0⟩,
  ⟨(some 33), (Op.buildSlice 33 1 #[(0, (Operand.tmp 32))]), none, ⟨1, true, false⟩⟩,
  ⟨(some 34), (Op.call { callee := (Callee.builtin Builtin.append), args := #[(Operand.tmp 25), (Operand.tmp 33)], argTypes := #[33, 33] }), none, ann0⟩,
  ⟨(some 35), (Op.fieldAddr 35 (Operand.tmp 3) 5), none, ann0⟩,
  ⟨none, (Op.store 33 (Operand.tmp 35) (Operand.tmp 34)), none, ann0⟩] (some [0, 1, 0, 4, 0, 28, 60, 124, 252, 508, 1023, 2047, 4095])) (.tidy [1, 2, 3, 4] z (z + 6)))
 (.reg [⟨(some 36), (Op.fieldAddr 35 (Operand.tmp 2) 5), none, ann0⟩,
  ⟨(some 37), (Op.load 33 (Operand.tmp 36)), none, ann0⟩,
  ⟨(some 38), (Op.fieldAddr 52 (Operand.tmp 1) 1), none, ann0⟩,
  ⟨(some 39), (Op.load 50 (Operand.tmp 38)), none, ann0⟩,
  ⟨(some 40), (Op.move (Operand.tmp 4)), none, ann0⟩,
  ⟨(some 41), (Op.indexAddr 50 (Operand.tmp 39) (Operand.tmp 40)), none, ann0⟩,
  ⟨(some 42), (Op.indexAddr 59 (Operand.tmp 41) (Operand.const (Value.int IntKind.i64 0))), none, ann0⟩,
  ⟨(some 43), (Op.load 5 (Operand.tmp 42)), none, ann0⟩,
  ⟨(some 44), (Op.fieldAddr 52 (Operand.tmp 1) 1), none, ann0⟩,
  ⟨(some 45), (Op.load 50 (Operand.tmp 44)), none, ann0⟩,
  ⟨(some 46), (Op.move (Operand.tmp 4)), none, ann0⟩,
  ⟨(some 47), (Op.indexAddr 50 (Operand.tmp 45) (Operand.tmp 46)), none, ann0⟩,
  ⟨(some 48), (Op.indexAddr 59 (Operand.tmp 47) (Operand.const (Value.int IntKind.i64 1))), none, ann0⟩,
  ⟨(some 49), (Op.load 5 (Operand.tmp 48)), none, ann0⟩,
  ⟨(some 50), (Op.call { callee := (Callee.builtin Builtin.min), args := #[(Operand.tmp 43), (Operand.tmp 49)], argTypes := #[5, 5] }), none, ann0⟩,
  ⟨(some 51), (Op.convert 5 3 (Operand.tmp 50)), none, ann0⟩,
  ⟨(some 52), (Op.buildSlice 33 1 #[(0, (Operand.tmp 51))]), none, ⟨1, true, false⟩⟩,
  ⟨(some 53), (Op.call { callee := (Callee.builtin Builtin.append), args := #[(Operand.tmp 37), (Operand.tmp 52)], argTypes := #[33, 33] }), none, ann0⟩,
  ⟨(some 54), (Op.fieldAddr 35 (Operand.tmp 2) 5), none, ann0⟩,
  ⟨none, (Op.store 33 (Operand.tmp 54) (Operand.tmp 53)), none, ann0⟩] (some [0, 1, 0, 4, 0, 28, 60, 124, 0, 256, 0, 1792, 3840, 7936, 16380, 32764, 65532, 131071, 262143, 524287])))) (.tidy [1, 2, 3, 4] z (z + 7)))
 (.reg [⟨(some 22), (Op.move (Operand.tmp 4)), none, ann0⟩,
  ⟨(some 23), (Op.binOp BinOp.add 3 (Operand.tmp 22) (Operand.const (Value.int IntKind.i64 1)) 3), none, ann0⟩,
  ⟨(some 4), (Op.assign (Operand.tmp 23)), none, ann0⟩] none))) (.tidy [1, 2, 3, 4] z (z + 5))
def s26_1 (z : Nat) : SC := c26_1 z
theorem e26_1 {C : Pg} {z : Nat} {st : St} {ks : List Fr} {K : Ex → St → Prop} : wpk C (s26_1 z) st ks K ↔ wpk C (c26_1 z) st ks K := Iff.rfl
/-- sleuth/sleuthlaw49.input -/
def s26 (z : Nat) : SFn := ⟨1, 57, [(ResultVar.cell 2 35), (ResultVar.cell 3 35)],
 (.seq (.reg [⟨(some 1), (Op.box 52 (Operand.tmp 0)), none, ⟨1, false, false⟩⟩,
  ⟨(some 2), (Op.alloc 35), none, ⟨1, false, false⟩⟩,
  ⟨(some 3), (Op.alloc 35), none, ⟨1, false, false⟩⟩] none)
 (.seq (.reg [⟨(some 5), (Op.fieldAddr 52 (Operand.tmp 1) 0), none, ann0⟩,
  ⟨(some 6), (Op.load 5 (Operand.tmp 5)), none, ann0⟩,
  ⟨(some 7), (Op.convert 5 3 (Operand.tmp 6)), none, ann0⟩,
  ⟨(some 8), (Op.build 35 #[(0, (Operand.const (Value.string ⟨#[97, 112, 105]⟩))), (2, (Operand.const (Value.int IntKind.i64 2))), (4, (Operand.tmp 7))]), none, ann0⟩,
  ⟨none, (Op.store 35 (Operand.tmp 2) (Operand.tmp 8)), none, ann0⟩] none)
 (.seq (.post (.reg [⟨(some 9), (Op.fieldAddr 52 (Operand.tmp 1) 0), none, ann0⟩,
  ⟨(some 10), (Op.load 5 (Operand.tmp 9)), none, ann0⟩,
  ⟨(some 11), (Op.convert 5 3 (Operand.tmp 10)), none, ann0⟩,
  ⟨(some 12), (Op.build 35 #[(0, (Operand.const (Value.string ⟨#[97, 112, 105]⟩))), (2, (Operand.const (Value.int IntKind.i64 1))), (4, (Operand.tmp 11))]), none, ann0⟩,
  ⟨none, (Op.store 35 (Operand.tmp 3) (Operand.tmp 12)), none, ann0⟩] none) (.tidy [1, 2, 3] z (z + 3)))
 (.seq (.post (.seq (.reg [⟨(some 4), (Op.assign (Operand.const (Value.int IntKind.i64 0))), none, ann0⟩] none)
 (.post (.post (.post (.pre (.mkb 2 6 3 1) (.pre (.mkb 3 6 3 1) (.block 0 (.pre (.tidy [1, 2, 3, 4] z (z + 5)) (.loop (s26_1 z)))))) (.tidy [2, 3] z (z + 5))) (.frb 2 6)) (.frb 3 6))) (.tidy [2, 3] z (z + 5)))
 (.seq (.reg [⟨(some 55), (Op.load 35 (Operand.tmp 2)), none, ann0⟩,
  ⟨(some 56), (Op.load 35 (Operand.tmp 3)), none, ann0⟩,
  ⟨none, (Op.store 35 (Operand.tmp 2) (Operand.tmp 55)), none, ann0⟩,
  ⟨none, (Op.store 35 (Operand.tmp 3) (Operand.tmp 56)), none, ann0⟩] (some [0, 0, 1, 7]))
 .ret)))))⟩
theorem F26 (z : Nat) : FOk Try.prog 26 (s26 z) := by unfold FOk; kernel_rfl
/-- sleuth/sleuthlaw49.known -/
def s13 (z : Nat) : SFn := ⟨0, 74, [(ResultVar.tmp 0)],
 (.seq (.reg [⟨(some 0), (Op.assign (Operand.const (Value.bool false))), none, ann0⟩] none)
 (.seq (.reg [⟨(some 10), (Op.build 23 #[(0, (Operand.const (Value.string ⟨#[114]⟩))), (1, (Operand.const (Value.string ⟨#[97, 112, 105]⟩))), (3, (Operand.const (Value.int IntKind.i64 990000))), (4, (Operand.const (Value.int IntKind.i64 3))), (5, (Operand.const (Value.int IntKind.i64 1))), (6, (Operand.const (Value.int IntKind.i64 2000))), (7, (Operand.const (Value.int IntKind.i64 1)))]), none, ann0⟩,
  ⟨(some 1), (Op.alloc 23), none, ⟨1, false, false⟩⟩,
  ⟨none, (Op.store 23 (Operand.tmp 1) (Operand.tmp 10)), none, ann0⟩] none)
 (.seq (.post (.reg [⟨(some 12), (Op.build 59 #[(0, (Operand.const (Value.int IntKind.u8 100))), (1, (Operand.const (Value.int IntKind.u8 0)))]), none, ann0⟩,
  ⟨(some 13), (Op.build 59 #[(0, (Operand.const (Value.int IntKind.u8 100))), (1, (Operand.const (Value.int IntKind.u8 6)))]), none, ann0⟩,
  ⟨(some 14), (Op.build 59 #[(0, (Operand.const (Value.int IntKind.u8 100))), (1, (Operand.const (Value.int IntKind.u8 3)))]), none, ann0⟩,
  ⟨(some 15), (Op.build 59 #[(0, (Operand.const (Value.int IntKind.u8 100))), (1, (Operand.const (Value.int IntKind.u8 0)))]), none, ann0⟩,
  ⟨(some 16), (Op.build 59 #[(0, (Operand.const (Value.int IntKind.u8 100))), (1, (Operand.const (Value.int IntKind.u8 9)))]), none, ann0⟩,
  ⟨(some 17), (Op.buildSlice 50 5 #[(0, (Operand.tmp 12)), (1, (Operand.tmp 13)), (2, (Operand.tmp 14)), (3, (Operand.tmp 15)), (4, (Operand.tmp 16))]), none, ⟨1, true, false⟩⟩,
  ⟨(some 18), (Op.build 52 #[(0, (Operand.const (Value.int IntKind.u8 10))), (1, (Operand.tmp 17))]), none, ann0⟩,
  ⟨(some 19), (Op.call { callee := (Callee.value (Operand.func 26)), args := #[(Operand.tmp 18)], argTypes := #[52] }), none, ann0⟩,
  ⟨(some 11), (Op.move (Operand.tmp 19)), none, ann0⟩,
  ⟨(some 20), (Op.extract (Operand.tmp 11) 0), none, ann0⟩,
  ⟨(some 21), (Op.extract (Operand.tmp 11) 1), none, ann0⟩,
  ⟨(some 2), (Op.alloc 35), none, ⟨1, false, false⟩⟩,
  ⟨(some 3), (Op.alloc 35), none, ⟨1, false, false⟩⟩,
  ⟨none, (Op.store 35 (Operand.tmp 2) (Operand.tmp 20)), none, ann0⟩,
  ⟨none, (Op.store 35 (Operand.tmp 3) (Operand.tmp 21)), none, ann0⟩] none) (.tidy [1, 2, 3] z (z + 4)))
 (.seq (.post (.reg [⟨(some 23), (Op.load 23 (Operand.tmp 1)), none, ann0⟩,
  ⟨(some 24), (Op.load 35 (Operand.tmp 2)), none, ann0⟩,
  ⟨(some 25), (Op.load 35 (Operand.tmp 3)), none, ann0⟩,
  ⟨(some 26), (Op.call { callee := (Callee.value (Operand.func 19)), args := #[(Operand.tmp 23), (Operand.tmp 24), (Operand.tmp 25)], argTypes := #[23, 35, 35] }), none, ann0⟩,
  ⟨(some 22), (Op.move (Operand.tmp 26)), none, ann0⟩,
  ⟨(some 27), (Op.extract (Operand.tmp 22) 0), none, ann0⟩,
  ⟨(some 28), (Op.extract (Operand.tmp 22) 1), none, ann0⟩,
  ⟨(some 4), (Op.assign (Operand.tmp 27)), none, ann0⟩,
  ⟨(some 5), (Op.assign (Operand.tmp 28)), none, ann0⟩] none) (.tidy [4, 5] z (z + 4)))
 (.seq (.reg [⟨(some 30), (Op.call { callee := (Callee.value (Operand.func 23)), args := #[(Operand.const (Value.int IntKind.i64 250)), (Operand.const (Value.int IntKind.i64 990000))], argTypes := #[3, 3] }), none, ann0⟩,
  ⟨(some 29), (Op.move (Operand.tmp 30)), none, ann0⟩,
  ⟨(some 31), (Op.extract (Operand.tmp 29) 0), none, ann0⟩,
  ⟨(some 32), (Op.extract (Operand.tmp 29) 1), none, ann0⟩,
  ⟨(some 6), (Op.assign (Operand.tmp 31)), none, ann0⟩,
  ⟨(some 7), (Op.assign (Operand.tmp 32)), none, ann0⟩] none)
 (.seq (.post (.reg [⟨(some 34), (Op.call { callee := (Callee.value (Operand.func 24)), args := #[(Operand.const (Value.int IntKind.i64 5)), (Operand.const (Value.int IntKind.i64 250)), (Operand.const (Value.int IntKind.i64 990000))], argTypes := #[3, 3, 3] }), none, ann0⟩,
  ⟨(some 33), (Op.move (Operand.tmp 34)), none, ann0⟩,
  ⟨(some 35), (Op.extract (Operand.tmp 33) 0), none, ann0⟩,
  ⟨(some 36), (Op.extract (Operand.tmp 33) 1), none, ann0⟩,
  ⟨(some 8), (Op.assign (Operand.tmp 35)), none, ann0⟩,
  ⟨(some 9), (Op.assign (Operand.tmp 36)), none, ann0⟩] none) (.tidy [4, 5, 6, 7, 8, 9] z (z + 4)))
 (.seq (.reg [⟨(some 37), (Op.move (Operand.tmp 5)), none, ann0⟩,
  ⟨(some 38), (Op.binOp BinOp.eql 27 (Operand.tmp 37) (Operand.const (Value.int IntKind.i64 0)) 27), none, ann0⟩,
  ⟨(some 39), (Op.move (Operand.tmp 38)), none, ann0⟩,
  ⟨(some 40), (Op.move (Operand.tmp 4)), (some (39, true)), ann0⟩,
  ⟨(some 41), (Op.call { callee := (Callee.builtin Builtin.len), args := #[(Operand.tmp 40)], argTypes := #[39] }), (some (39, true)), ann0⟩,
  ⟨(some 42), (Op.binOp BinOp.eql 3 (Operand.tmp 41) (Operand.const (Value.int IntKind.i64 2)) 3), (some (39, true)), ann0⟩,
  ⟨(some 43), (Op.pick (Operand.tmp 39) (Operand.tmp 42) (Operand.const (Value.bool false))), none, ann0⟩,
  ⟨(some 44), (Op.move (Operand.tmp 43)), none, ann0⟩,
  ⟨(some 45), (Op.move (Operand.tmp 4)), (some (44, true)), ann0⟩,
  ⟨(some 46), (Op.indexAddr 39 (Operand.tmp 45) (Operand.const (Value.int IntKind.i64 0))), (some (44, true)), ann0⟩,
  ⟨(some 47), (Op.load 57 (Operand.tmp 46)), (some (44, true)), ann0⟩,
  ⟨(some 48), (Op.build 57 #[(0, (Operand.const (Value.int IntKind.i64 11))), (1, (Operand.const (Value.int IntKind.i64 13))), (2, (Operand.const (Value.int IntKind.i64 12)))]), (some (44, true)), ann0⟩,
  ⟨(some 49), (Op.binOp BinOp.eql 57 (Operand.tmp 47) (Operand.tmp 48) 57), (some (44, true)), ann0⟩,
  ⟨(some 50), (Op.pick (Operand.tmp 44) (Operand.tmp 49) (Operand.const (Value.bool false))), none, ann0⟩,
  ⟨(some 51), (Op.move (Operand.tmp 50)), none, ann0⟩,
  ⟨(some 52), (Op.move (Operand.tmp 4)), (some (51, true)), ann0⟩,
  ⟨(some 53), (Op.indexAddr 39 (Operand.tmp 52) (Operand.const (Value.int IntKind.i64 1))), (some (51, true)), ann0⟩,
  ⟨(some 54), (Op.load 57 (Operand.tmp 53)), (some (51, true)), ann0⟩,
  ⟨(some 55), (Op.build 57 #[(0, (Operand.const (Value.int IntKind.i64 14))), (1, (Operand.const (Value.int IntKind.i64 15))), (2, (Operand.const (Value.int IntKind.i64 (-1))))]), (some (51, true)), ann0⟩,
  ⟨(some 56), (Op.binOp BinOp.eql 57 (Operand.tmp 54) (Operand.tmp 55) 57), (some (51, true)), ann0⟩,
  ⟨(some 57), (Op.pick (Operand.tmp 51) (Operand.tmp 56) (Operand.const (Value.bool false))), none, ann0⟩,
  ⟨(some 58), (Op.move (Operand.tmp 57)), none, ann0⟩,
  ⟨(some 59), (Op.move (Operand.tmp 7)), (some (58, true)), ann0⟩,
  ⟨(some 60), (Op.binOp BinOp.eql 27 (Operand.tmp 59) (Operand.const (Value.int IntKind.i64 0)) 27), (some (58, true)), ann0⟩,
  ⟨(some 61), (Op.pick (Operand.tmp 58) (Operand.tmp 60) (Operand.const (Value.bool false))), none, ann0⟩,
  ⟨(some 62), (Op.move (Operand.tmp 61)), none, ann0⟩,
  ⟨(some 63), (Op.move (Operand.tmp 6)), (some (62, true)), ann0⟩,
  ⟨(some 64), (Op.binOp BinOp.eql 3 (Operand.tmp 63) (Operand.const (Value.int IntKind.i64 2)) 3), (some (62, true)), ann0⟩,
  ⟨(some 65), (Op.pick (Operand.tmp 62) (Operand.tmp 64) (Operand.const (Value.bool false))), none, ann0⟩,
  ⟨(some 66), (Op.move (Operand.tmp 65)), none, ann0⟩,
  ⟨(some 67), (Op.move (Operand.tmp 9)), (some (66, true)), ann0⟩,
  ⟨(some 68), (Op.binOp BinOp.eql 27 (Operand.tmp 67) (Operand.const (Value.int IntKind.i64 0)) 27), (some (66, true)), ann0⟩,
  ⟨(some 69), (Op.pick (Operand.tmp 66) (Operand.tmp 68) (Operand.const (Value.bool false))), none, ann0⟩,
  ⟨(some 70), (Op.move (Operand.tmp 69)), none, ann0⟩,
  ⟨(some 71), (Op.move (Operand.tmp 8)), (some (70, true)), ann0⟩,
  ⟨(some 72), (Op.binOp BinOp.eql 3 (Operand.tmp 71) (Operand.const (Value.int IntKind.i64 2000)) 3), (some (70, true)), ann0⟩,
  ⟨(some 73), (Op.pick (Operand.tmp 70) (Operand.tmp 72) (Operand.const (Value.bool false))), none, ann0⟩,
  ⟨(some 0), (Op.assign (Operand.tmp 73)), none, ann0⟩] none)
 .ret)))))))⟩
theorem F13 (z : Nat) : FOk Try.prog 13 (s13 z) := by unfold FOk; kernel_rfl
/-- sleuth/sleuthlaw49.check -/
def s15 (z : Nat) : SFn := ⟨1, 69, [(ResultVar.tmp 2)],
 (.seq (.reg [⟨(some 1), (Op.box 23 (Operand.tmp 0)), none, ⟨1, false, false⟩⟩,
  ⟨(some 2), (Op.assign (Operand.const (Value.int IntKind.i64 0))), none, ann0⟩] none)
 (.seq (.post (.seq (.post (.reg [⟨(some 3), (Op.fieldAddr 23 (Operand.tmp 1) 0), none, ann0⟩,
  ⟨(some 4), (Op.load 9 (Operand.tmp 3)), none, ann0⟩,
  ⟨(some 5), (Op.call { callee := (Callee.value (Operand.func 34)), args := #[(Operand.tmp 4)], argTypes := #[9] }), none, ann0⟩,
  ⟨(some 6), (Op.unOp UnOp.not 4 (Operand.tmp 5)), none, ann0⟩,
  ⟨(some 7), (Op.move (Operand.tmp 6)), none, ann0⟩,
  ⟨(some 8), (Op.fieldAddr 23 (Operand.tmp 1) 1), (some (7, false)), ann0⟩,
  ⟨(some 9), (Op.load 9 (Operand.tmp 8)), (some (7, false)), ann0⟩,
  ⟨(some 10), (Op.call { callee := (Callee.value (Operand.func 34)), args := #[(Operand.tmp 9)], argTypes := #[9] }), (some (7, false)), ann0⟩,
  ⟨(some 11), (Op.unOp UnOp.not 4 (Operand.tmp 10)), (some (7, false)), ann0⟩,
  ⟨(some 12), (Op.pick (Operand.tmp 7) (Operand.const (Value.bool true)) (Operand.tmp 11)), none, ann0⟩,
  ⟨(some 13), (Op.move (Operand.tmp 12)), none, ann0⟩,
  ⟨(some 14), (Op.fieldAddr 23 (Operand.tmp 1) 2), (some (13, false)), ann0⟩,
  ⟨(some 15), (Op.load 9 (Operand.tmp 14)), (some (13, false)), ann0⟩,
  ⟨(some 16), (Op.binOp BinOp.neq 9 (Operand.tmp 15) (Operand.const (Value.string ⟨#[]⟩)) 9), (some (13, false)), ann0⟩,
  ⟨(some 17), (Op.move (Operand.tmp 16)), (some (13, false)), ann0⟩,
  ⟨(some 18), (Op.fieldAddr 23 (Operand.tmp 1) 2), (some (17, true)), ann0⟩,
  ⟨(some 19), (Op.load 9 (Operand.tmp 18)), (some (17, true)), ann0⟩,
  ⟨(some 20), (Op.call { callee := (Callee.value (Operand.func 34)), args := #[(Operand.tmp 19)], argTypes := #[9] }), (some (17, true)), ann0⟩,
  ⟨(some 21), (Op.unOp UnOp.not 4 (Operand.tmp 20)), (some (17, true)), ann0⟩,
  ⟨(some 22), (Op.pick (Operand.tmp 17) (Operand.tmp 21) (Operand.const (Value.bool false))), (some (13, false)), ann0⟩,
  ⟨(some 23), (Op.pick (Operand.tmp 13) (Operand.const (Value.bool true)) (Operand.tmp 22)), none, ann0⟩] none) (.tidy [1, 23] z (z + 1)))
 (.cond (Operand.tmp 23) (.seq (.reg [⟨(some 2), (Op.assign (Operand.const (Value.int IntKind.i64 11))), none, ann0⟩] none)
 .ret)
 .skip)) (.tidy [1] z (z + 1)))
 (.seq (.post (.seq (.post (.reg [⟨(some 24), (Op.fieldAddr 23 (Operand.tmp 1) 3), none, ann0⟩,
  ⟨(some 25), (Op.load 3 (Operand.tmp 24)), none, ann0⟩,
  ⟨(some 26), (Op.binOp BinOp.lss 3 (Operand.tmp 25) (Operand.const (Value.int IntKind.i64 0)) 3), none, ann0⟩,
  ⟨(some 27), (Op.move (Operand.tmp 26)), none, ann0⟩,
  ⟨(some 28), (Op.fieldAddr 23 (Operand.tmp 1) 3), (some (27, false)), ann0⟩,
  ⟨(some 29), (Op.load 3 (Operand.tmp 28)), (some (27, false)), ann0⟩,
  ⟨(some 30), (Op.binOp BinOp.gtr 3 (Operand.tmp 29) (Operand.const (Value.int IntKind.i64 999999)) 3), (some (27, false)), ann0⟩,
  ⟨(some 31), (Op.pick (Operand.tmp 27) (Operand.const (Value.bool true)) (Operand.tmp 30)), none, ann0⟩,
  ⟨(some 32), (Op.move (Operand.tmp 31)), none, ann0⟩,
  ⟨(some 33), (Op.fieldAddr 23 (Operand.tmp 1) 5), (some (32, false)), ann0⟩,
  ⟨(some 34), (Op.load 3 (Operand.tmp 33)), (some (32, false)), ann0⟩,
  ⟨(some 35), (Op.binOp BinOp.lss 3 (Operand.tmp 34) (Operand.const (Value.int IntKind.i64 1)) 3), (some (32, false)), ann0⟩,
  ⟨(some 36), (Op.pick (Operand.tmp 32) (Operand.const (Value.bool true)) (Operand.tmp 35)), none, ann0⟩,
  ⟨(some 37), (Op.move (Operand.tmp 36)), none, ann0⟩,
  ⟨(some 38), (Op.fieldAddr 23 (Operand.tmp 1) 5), (some (37, false)), ann0⟩,
  ⟨(some 39), (Op.load 3 (Operand.tmp 38)), (some (37, false)), ann0⟩,
  ⟨(some 40), (Op.fieldAddr 23 (Operand.tmp 1) 4), (some (37, false)), ann0⟩,
  ⟨(some 41), (Op.load 3 (Operand.tmp 40)), (some (37, false)), ann0⟩,
  ⟨(some 42), (Op.binOp BinOp.gtr 3 (Operand.tmp 39) (Operand.tmp 41) 3), (some (37, false)), ann0⟩,
  ⟨(some 43), (Op.pick (Operand.tmp 37) (Operand.const (Value.bool true)) (Operand.tmp 42)), none, ann0⟩,
  ⟨(some 44), (Op.move (Operand.tmp 43)), none, ann0⟩,
  ⟨(some 45), (Op.fieldAddr 23 (Operand.tmp 1) 4), (some (44, false)), ann0⟩,
  ⟨(some 46), (Op.load 3 (Operand.tmp 45)), (some (44, false)), ann0⟩,
  ⟨(some 47), (Op.binOp BinOp.gtr 3 (Operand.tmp 46) (Operand.const (Value.int IntKind.i64 256)) 3), (some (44, false)), ann0⟩,
  ⟨(some 48), (Op.pick (Operand.tmp 44) (Operand.const (Value.bool true)) (Operand.tmp 47)), none, ann0⟩,
  ⟨(some 49), (Op.move (Operand.tmp 48)), none, ann0⟩,
  ⟨(some 50), (Op.fieldAddr 23 (Operand.tmp 1) 6), (some (49, false)), ann0⟩,
  ⟨(some 51), (Op.load 3 (Operand.tmp 50)), (some (49, false)), ann0⟩,
  ⟨(some 52), (Op.binOp BinOp.lss 3 (Operand.tmp 51) (Operand.const (Value.int IntKind.i64 1)) 3), (some (49, false)), ann0⟩,
  ⟨(some 53), (Op.pick (Operand.tmp 49) (Operand.const (Value.bool true)) (Operand.tmp 52)), none, ann0⟩,
  ⟨(some 54), (Op.move (Operand.tmp 53)), none, ann0⟩,
  ⟨(some 55), (Op.fieldAddr 23 (Operand.tmp 1) 6), (some (54, false)), ann0⟩,
  ⟨(some 56), (Op.load 3 (Operand.tmp 55)), (some (54, false)), ann0⟩,
  ⟨(some 57), (Op.binOp BinOp.gtr 3 (Operand.tmp 56) (Operand.const (Value.int IntKind.i64 1000000000)) 3), (some (54, false)), ann0⟩,
  ⟨(some 58), (Op.pick (Operand.tmp 54) (Operand.const (Value.bool true)) (Operand.tmp 57)), none, ann0⟩,
  ⟨(some 59), (Op.move (Operand.tmp 58)), none, ann0⟩,
  ⟨(some 60), (Op.fieldAddr 23 (Operand.tmp 1) 7), (some (59, false)), ann0⟩,
  ⟨(some 61), (Op.load 3 (Operand.tmp 60)), (some (59, false)), ann0⟩,
  ⟨(some 62), (Op.binOp BinOp.lss 3 (Operand.tmp 61) (Operand.const (Value.int IntKind.i64 0)) 3), (some (59, false)), ann0⟩,
  ⟨(some 63), (Op.pick (Operand.tmp 59) (Operand.const (Value.bool true)) (Operand.tmp 62)), none, ann0⟩,
  ⟨(some 64), (Op.move (Operand.tmp 63)), none, ann0⟩,
  ⟨(some 65), (Op.fieldAddr 23 (Operand.tmp 1) 7), (some (64, false)), ann0⟩,
  ⟨(some 66), (Op.load 3 (Operand.tmp 65)), (some (64, false)), ann0⟩,
  ⟨(some 67), (Op.binOp BinOp.gtr 3 (Operand.tmp 66) (Operand.const (Value.int IntKind.i64 256)) 3), (some (64, false)), ann0⟩,
  ⟨(some 68), (Op.pick (Operand.tmp 64) (Operand.const (Value.bool true)) (Operand.tmp 67)), none, ann0⟩] none) (.tidy [68] z (z + 1)))
 (.cond (Operand.tmp 68) (.seq (.reg [⟨(some 2), (Op.assign (Operand.const (Value.int IntKind.i64 2))), none, ann0⟩] none)
 .ret)
 .skip)) (.tidy [] z (z + 1)))
 (.seq (.reg [⟨(some 2), (Op.assign (Operand.const (Value.int IntKind.i64 0))), none, ann0⟩] none)
 .ret))))⟩
theorem F15 (z : Nat) : FOk Try.prog 15 (s15 z) := by unfold FOk; kernel_rfl
/-- sleuth/sleuthlaw49.rule -/
def s16 (z : Nat) : SFn := ⟨1, 36, [(ResultVar.cell 2 23)],
 (.seq (.reg [⟨(some 1), (Op.box 25 (Operand.tmp 0)), none, ⟨1, false, false⟩⟩,
  ⟨(some 2), (Op.alloc 23), none, ⟨1, false, false⟩⟩] none)
 (.seq (.post (.reg [⟨(some 4), (Op.fieldAddr 25 (Operand.tmp 1) 0), none, ann0⟩,
  ⟨(some 5), (Op.load 5 (Operand.tmp 4)), none, ann0⟩,
  ⟨(some 6), (Op.binOp BinOp.rem 5 (Operand.tmp 5) (Operand.const (Value.int IntKind.u8 200)) 5), none, ann0⟩,
  ⟨(some 7), (Op.convert 5 3 (Operand.tmp 6)), none, ann0⟩,
  ⟨(some 8), (Op.binOp BinOp.add 3 (Operand.const (Value.int IntKind.i64 1)) (Operand.tmp 7) 3), none, ann0⟩,
  ⟨(some 9), (Op.binOp BinOp.mul 3 (Operand.const (Value.int IntKind.i64 1000)) (Operand.tmp 8) 3), none, ann0⟩,
  ⟨(some 10), (Op.binOp BinOp.sub 3 (Operand.const (Value.int IntKind.i64 1000000)) (Operand.tmp 9) 3), none, ann0⟩,
  ⟨(some 11), (Op.fieldAddr 25 (Operand.tmp 1) 1), none, ann0⟩,
  ⟨(some 12), (Op.load 5 (Operand.tmp 11)), none, ann0⟩,
  ⟨(some 13), (Op.binOp BinOp.rem 5 (Operand.tmp 12) (Operand.const (Value.int IntKind.u8 6)) 5), none, ann0⟩,
  ⟨(some 14), (Op.convert 5 3 (Operand.tmp 13)), none, ann0⟩,
  ⟨(some 15), (Op.binOp BinOp.add 3 (Operand.const (Value.int IntKind.i64 1)) (Operand.tmp 14) 3), none, ann0⟩,
  ⟨(some 16), (Op.fieldAddr 25 (Operand.tmp 1) 3), none, ann0⟩,
  ⟨(some 17), (Op.load 5 (Operand.tmp 16)), none, ann0⟩,
  ⟨(some 18), (Op.binOp BinOp.rem 5 (Operand.tmp 17) (Operand.const (Value.int IntKind.u8 10)) 5), none, ann0⟩,
  ⟨(some 19), (Op.convert 5 3 (Operand.tmp 18)), none, ann0⟩,
  ⟨(some 20), (Op.binOp BinOp.add 3 (Operand.const (Value.int IntKind.i64 1)) (Operand.tmp 19) 3), none, ann0⟩,
  ⟨(some 21), (Op.binOp BinOp.mul 3 (Operand.const (Value.int IntKind.i64 500)) (Operand.tmp 20) 3), none, ann0⟩,
  ⟨(some 22), (Op.fieldAddr 25 (Operand.tmp 1) 4), none, ann0⟩,
  ⟨(some 23), (Op.load 5 (Operand.tmp 22)), none, ann0⟩,
  ⟨(some 24), (Op.binOp BinOp.rem 5 (Operand.tmp 23) (Operand.const (Value.int IntKind.u8 4)) 5), none, ann0⟩,
  ⟨(some 25), (Op.convert 5 3 (Operand.tmp 24)), none, ann0⟩,
  ⟨(some 26), (Op.build 23 #[(0, (Operand.const (Value.string ⟨#[114]⟩))), (1, (Operand.const (Value.string ⟨#[97, 112, 105]⟩))), (3, (Operand.tmp 10)), (5, (Operand.tmp 15)), (6, (Operand.tmp 21)), (7, (Operand.tmp 25))]), none, ann0⟩,
  ⟨(some 3), (Op.alloc 23), none, ⟨1, false, false⟩⟩,
  ⟨none, (Op.store 23 (Operand.tmp 3) (Operand.tmp 26)), none, ann0⟩] none) (.tidy [1, 2, 3] z (z + 3)))
 (.seq (.post (.reg [⟨(some 27), (Op.fieldAddr 23 (Operand.tmp 3) 5), none, ann0⟩,
  ⟨(some 28), (Op.load 3 (Operand.tmp 27)), none, ann0⟩,
  ⟨(some 29), (Op.fieldAddr 25 (Operand.tmp 1) 2), none, ann0⟩,
  ⟨(some 30), (Op.load 5 (Operand.tmp 29)), none, ann0⟩,
  ⟨(some 31), (Op.binOp BinOp.rem 5 (Operand.tmp 30) (Operand.const (Value.int IntKind.u8 7)) 5), none, ann0⟩,
  ⟨(some 32), (Op.convert 5 3 (Operand.tmp 31)), none, ann0⟩,
  ⟨(some 33), (Op.binOp BinOp.add 3 (Operand.tmp 28) (Operand.tmp 32) 3), none, ann0⟩,
  ⟨(some 34), (Op.fieldAddr 23 (Operand.tmp 3) 4), none, ann0⟩,
  ⟨none, (Op.store 3 (Operand.tmp 34) (Operand.tmp 33)), none, ann0⟩] none) (.tidy [2, 3] z (z + 3)))
 (.seq (.reg [⟨(some 35), (Op.load 23 (Operand.tmp 3)), none, ann0⟩,
  ⟨none, (Op.store 23 (Operand.tmp 2) (Operand.tmp 35)), none, ann0⟩] none)
 .ret))))⟩
theorem F16 (z : Nat) : FOk Try.prog 16 (s16 z) := by unfold FOk; kernel_rfl
/-- sleuth/sleuthlaw49.AlertChecks -/
def s3 (z : Nat) : SFn := ⟨2, 37, [(ResultVar.tmp 4)],
 (.seq (.reg [⟨(some 2), (Op.box 23 (Operand.tmp 0)), none, ⟨1, false, false⟩⟩,
  ⟨(some 3), (Op.box 25 (Operand.tmp 1)), none, ⟨1, false, false⟩⟩,
  ⟨(some 4), (Op.assign (Operand.const (Value.bool false))), none, ann0⟩] none)
 (.seq (.post (.seq (.post (.reg [⟨(some 5), (Op.call { callee := (Callee.value (Operand.func 13)), args := #[], argTypes := #[] }), none, ann0⟩,
  ⟨(some 6), (Op.unOp UnOp.not 4 (Operand.tmp 5)), none, ann0⟩,
  ⟨(some 7), (Op.move (Operand.tmp 6)), none, ann0⟩,
  ⟨(some 8), (Op.fieldAddr 23 (Operand.tmp 2) 0), (some (7, false)), ann0⟩,
  ⟨(some 9), (Op.load 9 (Operand.tmp 8)), (some (7, false)), ann0⟩,
  ⟨(some 10), (Op.call { callee := (Callee.builtin Builtin.len), args := #[(Operand.tmp 9)], argTypes := #[9] }), (some (7, false)), ann0⟩,
  ⟨(some 11), (Op.binOp BinOp.gtr 3 (Operand.tmp 10) (Operand.const (Value.int IntKind.i64 80)) 3), (some (7, false)), ann0⟩,
  ⟨(some 12), (Op.pick (Operand.tmp 7) (Operand.const (Value.bool true)) (Operand.tmp 11)), none, ann0⟩,
  ⟨(some 13), (Op.move (Operand.tmp 12)), none, ann0⟩,
  ⟨(some 14), (Op.fieldAddr 23 (Operand.tmp 2) 1), (some (13, false)), ann0⟩,
  ⟨(some 15), (Op.load 9 (Operand.tmp 14)), (some (13, false)), ann0⟩,
  ⟨(some 16), (Op.call { callee := (Callee.builtin Builtin.len), args := #[(Operand.tmp 15)], argTypes := #[9] }), (some (13, false)), ann0⟩,
  ⟨(some 17), (Op.binOp BinOp.gtr 3 (Operand.tmp 16) (Operand.const (Value.int IntKind.i64 80)) 3), (some (13, false)), ann0⟩,
  ⟨(some 18), (Op.pick (Operand.tmp 13) (Operand.const (Value.bool true)) (Operand.tmp 17)), none, ann0⟩,
  ⟨(some 19), (Op.move (Operand.tmp 18)), none, ann0⟩,
  ⟨(some 20), (Op.fieldAddr 23 (Operand.tmp 2) 2), (some (19, false)), ann0⟩,
  ⟨(some 21), (Op.load 9 (Operand.tmp 20)), (some (19, false)), ann0⟩,
  ⟨(some 22), (Op.call { callee := (Callee.builtin Builtin.len), args := #[(Operand.tmp 21)], argTypes := #[9] }), (some (19, false)), ann0⟩,
  ⟨(some 23), (Op.binOp BinOp.gtr 3 (Operand.tmp 22) (Operand.const (Value.int IntKind.i64 80)) 3), (some (19, false)), ann0⟩,
  ⟨(some 24), (Op.pick (Operand.tmp 19) (Operand.const (Value.bool true)) (Operand.tmp 23)), none, ann0⟩] none) (.tidy [2, 3, 24] z (z + 2)))
 (.cond (Operand.tmp 24) (.seq (.reg [⟨(some 25), (Op.call { callee := (Callee.value (Operand.func 13)), args := #[], argTypes := #[] }), none, ann0⟩,
  ⟨(some 4), (Op.assign (Operand.tmp 25)), none, ann0⟩] none)
 .ret)
 .skip)) (.tidy [2, 3] z (z + 2)))
 (.seq (.reg [⟨(some 26), (Op.load 23 (Operand.tmp 2)), none, ann0⟩,
  ⟨(some 27), (Op.call { callee := (Callee.value (Operand.func 14)), args := #[(Operand.tmp 26)], argTypes := #[23] }), none, ann0⟩,
  ⟨(some 28), (Op.load 23 (Operand.tmp 2)), none, ann0⟩,
  ⟨(some 29), (Op.call { callee := (Callee.value (Operand.func 15)), args := #[(Operand.tmp 28)], argTypes := #[23] }), none, ann0⟩,
  ⟨(some 30), (Op.binOp BinOp.eql 27 (Operand.tmp 27) (Operand.tmp 29) 27), none, ann0⟩,
  ⟨(some 31), (Op.move (Operand.tmp 30)), none, ann0⟩,
  ⟨(some 32), (Op.load 25 (Operand.tmp 3)), (some (31, true)), ann0⟩,
  ⟨(some 33), (Op.call { callee := (Callee.value (Operand.func 16)), args := #[(Operand.tmp 32)], argTypes := #[25] }), (some (31, true)), ann0⟩,
  ⟨(some 34), (Op.call { callee := (Callee.value (Operand.func 14)), args := #[(Operand.tmp 33)], argTypes := #[23] }), (some (31, true)), ann0⟩,
  ⟨(some 35), (Op.binOp BinOp.eql 27 (Operand.tmp 34) (Operand.const (Value.int IntKind.i64 0)) 27), (some (31, true)), ann0⟩,
  ⟨(some 36), (Op.pick (Operand.tmp 31) (Operand.tmp 35) (Operand.const (Value.bool false))), none, ann0⟩,
  ⟨(some 4), (Op.assign (Operand.tmp 36)), none, ann0⟩] (some [0, 1, 0, 7, 15, 31, 63, 127, 255, 511, 1023, 2047]))
 .ret)))⟩
theorem F3 (z : Nat) : FOk Try.prog 3 (s3 z) := by unfold FOk; kernel_rfl
/-- slots: 4 errors, 5 traffic, 10 sum, 11 i; objects: z + 3 -/
def c17_1 (z : Nat) : SC := .post (.seq (.post (.seq (.reg [⟨(some 77), (Op.move (Operand.tmp 11)), none, ann0⟩,
  ⟨(some 78), (Op.fieldAddr 35 (Operand.tmp 4) 5), none, ann0⟩,
  ⟨(some 79), (Op.load 33 (Operand.tmp 78)), none, ann0⟩,
  ⟨(some 80), (Op.call { callee := (Callee.builtin Builtin.len), args := #[(Operand.tmp 79)], argTypes := #[33] }), none, ann0⟩,
  ⟨(some 81), (Op.binOp BinOp.lss 3 (Operand.tmp 77) (Operand.tmp 80) 3), none, ann0⟩] none)
 (.cond (Operand.tmp 81) .skip
 (.exit 0))) (.tidy [4, 5, 10, 11] z (z + 3)))
 (.seq (.post (.block 1 (.seq (.post (.seq (.post (.reg [⟨(some 84), (Op.fieldAddr 35 (Operand.tmp 4) 5), none, ann0⟩,
  ⟨(some 85), (Op.load 33 (Operand.tmp 84)), none, ann0⟩,
  ⟨(some 86), (Op.move (Operand.tmp 11)), none, ann0⟩,
  ⟨(some 87), (Op.indexAddr 33 (Operand.tmp 85) (Operand.tmp 86)), none, ann0⟩,
  ⟨(some 88), (Op.load 3 (Operand.tmp 87)), none, ann0⟩,
  ⟨(some 89), (Op.fieldAddr 35 (Operand.tmp 5) 5), none, ann0⟩,
  ⟨(some 90), (Op.load 33 (Operand.tmp 89)), none, ann0⟩,
  ⟨(some 91), (Op.move (Operand.tmp 11)), none, ann0⟩,
  ⟨(some 92), (Op.indexAddr 33 (Operand.tmp 90) (Operand.tmp 91)), none, ann0⟩,
  ⟨(some 93), (Op.load 3 (Operand.tmp 92)), none, ann0⟩,
  ⟨(some 94), (Op.binOp BinOp.gtr 3 (Operand.tmp 88) (Operand.tmp 93) 3), none, ann0⟩] (some [0, 1, 0, 7, 15, 0, 32, 0, 224, 480, 1023])) (.tidy [4, 5, 10, 11, 94] z (z + 3)))
 (.cond (Operand.tmp 94) (.seq (.reg [⟨(some 6), (Op.assign (Operand.const (Value.int IntKind.i64 2))), none, ann0⟩] none)
 .ret)
 .skip)) (.tidy [4, 5, 10, 11] z (z + 3)))
 (.reg [⟨(some 95), (Op.move (Operand.tmp 10)), none, ann0⟩,
  ⟨(some 96), (Op.fieldAddr 35 (Operand.tmp 5) 5), none, ann0⟩,
  ⟨(some 97), (Op.load 33 (Operand.tmp 96)), none, ann0⟩,
  ⟨(some 98), (Op.move (Operand.tmp 11)), none, ann0⟩,
  ⟨(some 99), (Op.indexAddr 33 (Operand.tmp 97) (Operand.tmp 98)), none, ann0⟩,
  ⟨(some 100), (Op.load 3 (Operand.tmp 99)), none, ann0⟩,
  ⟨(some 101), (Op.binOp BinOp.add 3 (Operand.tmp 95) (Operand.tmp 100) 3), none, ann0⟩,
  ⟨(some 10), (Op.assign (Operand.tmp 101)), none, ann0⟩] none))) (.tidy [4, 5, 10, 11] z (z + 3)))
 (.reg [⟨(some 82), (Op.move (Operand.tmp 11)), none, ann0⟩,
  ⟨(some 83), (Op.binOp BinOp.add 3 (Operand.tmp 82) (Operand.const (Value.int IntKind.i64 1)) 3), none, ann0⟩,
  ⟨(some 11), (Op.assign (Operand.tmp 83)), none, ann0⟩] none))) (.tidy [4, 5, 10, 11] z (z + 3))
def s17_1 (z : Nat) : SC := c17_1 z
theorem e17_1 {C : Pg} {z : Nat} {st : St} {ks : List Fr} {K : Ex → St → Prop} : wpk C (s17_1 z) st ks K ↔ wpk C (c17_1 z) st ks K := Iff.rfl
/-- sleuth/sleuthlaw49.checkInput -/
def s17 (z : Nat) : SFn := ⟨3, 104, [(ResultVar.tmp 6)],
 (.seq (.reg [⟨(some 3), (Op.box 23 (Operand.tmp 0)), none, ⟨1, false, false⟩⟩,
  ⟨(some 4), (Op.box 35 (Operand.tmp 1)), none, ⟨1, false, false⟩⟩,
  ⟨(some 5), (Op.box 35 (Operand.tmp 2)), none, ⟨1, false, false⟩⟩,
  ⟨(some 6), (Op.assign (Operand.const (Value.int IntKind.i64 0))), none, ann0⟩] none)
 (.seq (.post (.seq (.reg [⟨(some 12), (Op.load 23 (Operand.tmp 3)), none, ann0⟩,
  ⟨(some 13), (Op.call { callee := (Callee.value (Operand.func 15)), args := #[(Operand.tmp 12)], argTypes := #[23] }), none, ann0⟩,
  ⟨(some 7), (Op.assign (Operand.tmp 13)), none, ann0⟩] none)
 (.seq (.reg [⟨(some 14), (Op.move (Operand.tmp 7)), none, ann0⟩,
  ⟨(some 15), (Op.binOp BinOp.neq 27 (Operand.tmp 14) (Operand.const (Value.int IntKind.i64 0)) 27), none, ann0⟩] none)
 (.cond (Operand.tmp 15) (.seq (.reg [⟨(some 16), (Op.move (Operand.tmp 7)), none, ann0⟩,
  ⟨(some 6), (Op.assign (Operand.tmp 16)), none, ann0⟩] none)
 .ret)
 .skip))) (.tidy [3, 4, 5] z (z + 3)))
 (.seq (.post (.seq (.reg [⟨(some 17), (Op.load 35 (Operand.tmp 4)), none, ann0⟩,
  ⟨(some 18), (Op.call { callee := (Callee.value (Operand.func 36)), args := #[(Operand.tmp 17)], argTypes := #[35] }), none, ann0⟩,
  ⟨(some 8), (Op.assign (Operand.tmp 18)), none, ann0⟩] none)
 (.seq (.reg [⟨(some 19), (Op.move (Operand.tmp 8)), none, ann0⟩,
  ⟨(some 20), (Op.binOp BinOp.neq 27 (Operand.tmp 19) (Operand.const (Value.int IntKind.i64 0)) 27), none, ann0⟩] none)
 (.cond (Operand.tmp 20) (.seq (.reg [⟨(some 21), (Op.move (Operand.tmp 8)), none, ann0⟩,
  ⟨(some 6), (Op.assign (Operand.tmp 21)), none, ann0⟩] none)
 .ret)
 .skip))) (.tidy [3, 4, 5] z (z + 3)))
 (.seq (.post (.seq (.reg [⟨(some 22), (Op.load 35 (Operand.tmp 5)), none, ann0⟩,
  ⟨(some 23), (Op.call { callee := (Callee.value (Operand.func 36)), args := #[(Operand.tmp 22)], argTypes := #[35] }), none, ann0⟩,
  ⟨(some 9), (Op.assign (Operand.tmp 23)), none, ann0⟩] none)
 (.seq (.reg [⟨(some 24), (Op.move (Operand.tmp 9)), none, ann0⟩,
  ⟨(some 25), (Op.binOp BinOp.neq 27 (Operand.tmp 24) (Operand.const (Value.int IntKind.i64 0)) 27), none, ann0⟩] none)
 (.cond (Operand.tmp 25) (.seq (.reg [⟨(some 26), (Op.move (Operand.tmp 9)), none, ann0⟩,
  ⟨(some 6), (Op.assign (Operand.tmp 26)), none, ann0⟩] none)
 .ret)
 .skip))) (.tidy [3, 4, 5] z (z + 3)))
 (.seq (.post (.seq (.post (.reg [⟨(some 27), (Op.fieldAddr 35 (Operand.tmp 4) 2), none, ann0⟩,
  ⟨(some 28), (Op.load 3 (Operand.tmp 27)), none, ann0⟩,
  ⟨(some 29), (Op.binOp BinOp.neq 3 (Operand.tmp 28) (Operand.const (Value.int IntKind.i64 2)) 3), none, ann0⟩,
  ⟨(some 30), (Op.move (Operand.tmp 29)), none, ann0⟩,
  ⟨(some 31), (Op.fieldAddr 35 (Operand.tmp 5) 2), (some (30, false)), ann0⟩,
  ⟨(some 32), (Op.load 3 (Operand.tmp 31)), (some (30, false)), ann0⟩,
  ⟨(some 33), (Op.binOp BinOp.neq 3 (Operand.tmp 32) (Operand.const (Value.int IntKind.i64 1)) 3), (some (30, false)), ann0⟩,
  ⟨(some 34), (Op.pick (Operand.tmp 30) (Operand.const (Value.bool true)) (Operand.tmp 33)), none, ann0⟩] none) (.tidy [3, 4, 5, 34] z (z + 3)))
 (.cond (Operand.tmp 34) (.seq (.reg [⟨(some 6), (Op.assign (Operand.const (Value.int IntKind.i64 12))), none, ann0⟩] none)
 .ret)
 .skip)) (.tidy [3, 4, 5] z (z + 3)))
 (.seq (.post (.seq (.post (.reg [⟨(some 35), (Op.fieldAddr 35 (Operand.tmp 4) 0), none, ann0⟩,
  ⟨(some 36), (Op.load 9 (Operand.tmp 35)), none, ann0⟩,
  ⟨(some 37), (Op.fieldAddr 23 (Operand.tmp 3) 1), none, ann0⟩,
  ⟨(some 38), (Op.load 9 (Operand.tmp 37)), none, ann0⟩,
  ⟨(some 39), (Op.binOp BinOp.neq 9 (Operand.tmp 36) (Operand.tmp 38) 9), none, ann0⟩,
  ⟨(some 40), (Op.move (Operand.tmp 39)), none, ann0⟩,
  ⟨(some 41), (Op.fieldAddr 35 (Operand.tmp 5) 0), (some (40, false)), ann0⟩,
  ⟨(some 42), (Op.load 9 (Operand.tmp 41)), (some (40, false)), ann0⟩,
  ⟨(some 43), (Op.fieldAddr 23 (Operand.tmp 3) 1), (some (40, false)), ann0⟩,
  ⟨(some 44), (Op.load 9 (Operand.tmp 43)), (some (40, false)), ann0⟩,
  ⟨(some 45), (Op.binOp BinOp.neq 9 (Operand.tmp 42) (Operand.tmp 44) 9), (some (40, false)), ann0⟩,
  ⟨(some 46), (Op.pick (Operand.tmp 40) (Operand.const (Value.bool true)) (Operand.tmp 45)), none, ann0⟩,
  ⟨(some 47), (Op.move (Operand.tmp 46)), none, ann0⟩,
  ⟨(some 48), (Op.fieldAddr 35 (Operand.tmp 4) 1), (some (47, false)), ann0⟩,
  ⟨(some 49), (Op.load 9 (Operand.tmp 48)), (some (47, false)), ann0⟩,
  ⟨(some 50), (Op.fieldAddr 23 (Operand.tmp 3) 2), (some (47, false)), ann0⟩,
  ⟨(some 51), (Op.load 9 (Operand.tmp 50)), (some (47, false)), ann0⟩,
  ⟨(some 52), (Op.binOp BinOp.neq 9 (Operand.tmp 49) (Operand.tmp 51) 9), (some (47, false)), ann0⟩,
  ⟨(some 53), (Op.pick (Operand.tmp 47) (Operand.const (Value.bool true)) (Operand.tmp 52)), none, ann0⟩,
  ⟨(some 54), (Op.move (Operand.tmp 53)), none, ann0⟩,
  ⟨(some 55), (Op.fieldAddr 35 (Operand.tmp 5) 1), (some (54, false)), ann0⟩,
  ⟨(some 56), (Op.load 9 (Operand.tmp 55)), (some (54, false)), ann0⟩,
  ⟨(some 57), (Op.fieldAddr 23 (Operand.tmp 3) 2), (some (54, false)), ann0⟩,
  ⟨(some 58), (Op.load 9 (Operand.tmp 57)), (some (54, false)), ann0⟩,
  ⟨(some 59), (Op.binOp BinOp.neq 9 (Operand.tmp 56) (Operand.tmp 58) 9), (some (54, false)), ann0⟩,
  ⟨(some 60), (Op.pick (Operand.tmp 54) (Operand.const (Value.bool true)) (Operand.tmp 59)), none, ann0⟩,
  ⟨(some 61), (Op.move (Operand.tmp 60)), none, ann0⟩,
  ⟨(some 62), (Op.fieldAddr 35 (Operand.tmp 4) 4), (some (61, false)), ann0⟩,
  ⟨(some 63), (Op.load 3 (Operand.tmp 62)), (some (61, false)), ann0⟩,
  ⟨(some 64), (Op.fieldAddr 35 (Operand.tmp 5) 4), (some (61, false)), ann0⟩,
  ⟨(some 65), (Op.load 3 (Operand.tmp 64)), (some (61, false)), ann0⟩,
  ⟨(some 66), (Op.binOp BinOp.neq 3 (Operand.tmp 63) (Operand.tmp 65) 3), (some (61, false)), ann0⟩,
  ⟨(some 67), (Op.pick (Operand.tmp 61) (Operand.const (Value.bool true)) (Operand.tmp 66)), none, ann0⟩,
  ⟨(some 68), (Op.move (Operand.tmp 67)), none, ann0⟩,
  ⟨(some 69), (Op.fieldAddr 35 (Operand.tmp 4) 5), (some (68, false)), ann0⟩,
  ⟨(some 70), (Op.load 33 (Operand.tmp 69)), (some (68, false)), ann0⟩,
  ⟨(some 71), (Op.call { callee := (Callee.builtin Builtin.len), args := #[(Operand.tmp 70)], argTypes := #[33] }), (some (68, false)), ann0⟩,
  ⟨(some 72), (Op.fieldAddr 35 (Operand.tmp 5) 5), (some (68, false)), ann0⟩,
  ⟨(some 73), (Op.load 33 (Operand.tmp 72)), (some (68, false)), ann0⟩,
  ⟨(some 74), (Op.call { callee := (Callee.builtin Builtin.len), args := #[(Operand.tmp 73)], argTypes := #[33] }), (some (68, false)), ann0⟩,
  ⟨(some 75), (Op.binOp BinOp.neq 3 (Operand.tmp 71) (Operand.tmp 74) 3), (some (68, false)), ann0⟩,
  ⟨(some 76), (Op.pick (Operand.tmp 68) (Operand.const (Value.bool true)) (Operand.tmp 75)), none, ann0⟩] none) (.tidy [4, 5, 76] z (z + 3)))
 (.cond (Operand.tmp 76) (.seq (.reg [⟨(some 6), (Op.assign (Operand.const (Value.int IntKind.i64 17))), none, ann0⟩] none)
 .ret)
 .skip)) (.tidy [4, 5] z (z + 3)))
 (.seq (.reg [⟨(some 10), (Op.assign (Operand.const (Value.int IntKind.i64 0))), none, ann0⟩] none)
 (.seq (.post (.seq (.reg [⟨(some 11), (Op.assign (Operand.const (Value.int IntKind.i64 0))), none, ann0⟩] none)
 (.post (.block 0 (.pre (.tidy [4, 5, 10, 11] z (z + 3)) (.loop (s17_1 z)))) (.tidy [10] z (z + 3)))) (.tidy [10] z (z + 3)))
 (.seq (.seq (.reg [⟨(some 102), (Op.move (Operand.tmp 10)), none, ann0⟩,
  ⟨(some 103), (Op.binOp BinOp.gtr 3 (Operand.tmp 102) (Operand.const (Value.int IntKind.i64 4294967296)) 3), none, ann0⟩] none)
 (.cond (Operand.tmp 103) (.seq (.reg [⟨(some 6), (Op.assign (Operand.const (Value.int IntKind.i64 20))), none, ann0⟩] none)
 .ret)
 .skip))
 (.seq (.reg [⟨(some 6), (Op.assign (Operand.const (Value.int IntKind.i64 0))), none, ann0⟩] none)
 .ret))))))))))⟩
theorem F17 (z : Nat) : FOk Try.prog 17 (s17 z) := by unfold FOk; kernel_rfl
/-- slots: 0 a, 1 b, 5 i; objects: z + 0 -/
def c21_1 (z : Nat) : SC := .post (.seq (.post (.seq (.reg [⟨(some 11), (Op.move (Operand.tmp 5)), none, ann0⟩,
  ⟨(some 12), (Op.move (Operand.tmp 0)), none, ann0⟩,
  ⟨(some 13), (Op.call { callee := (Callee.builtin Builtin.len), args := #[(Operand.tmp 12)], argTypes := #[33] }), none, ann0⟩,
  ⟨(some 14), (Op.binOp BinOp.lss 3 (Operand.tmp 11) (Operand.tmp 13) 3), none, ann0⟩] none)
 (.cond (Operand.tmp 14) .skip
 (.exit 0))) (.tidy [0, 1, 5] z (z + 0)))
 (.seq (.post (.block 1 (.seq (.post (.reg [⟨(some 17), (Op.move (Operand.tmp 0)), none, ann0⟩,
  ⟨(some 18), (Op.move (Operand.tmp 5)), none, ann0⟩,
  ⟨(some 19), (Op.indexAddr 33 (Operand.tmp 17) (Operand.tmp 18)), none, ann0⟩,
  ⟨(some 20), (Op.load 3 (Operand.tmp 19)), none, ann0⟩,
  ⟨(some 21), (Op.move (Operand.tmp 1)), none, ann0⟩,
  ⟨(some 22), (Op.move (Operand.tmp 5)), none, ann0⟩,
  ⟨(some 23), (Op.indexAddr 33 (Operand.tmp 21) (Operand.tmp 22)), none, ann0⟩,
  ⟨(some 24), (Op.load 3 (Operand.tmp 23)), none, ann0⟩,
  ⟨(some 25), (Op.binOp BinOp.neq 3 (Operand.tmp 20) (Operand.tmp 24) 3), none, ann0⟩] (some [0, 0, 3, 7, 0, 0, 48, 112, 255])) (.tidy [0, 1, 5, 25] z (z + 0)))
 (.cond (Operand.tmp 25) (.seq (.reg [⟨(some 4), (Op.assign (Operand.const (Value.bool false))), none, ann0⟩] none)
 .ret)
 .skip))) (.tidy [0, 1, 5] z (z + 0)))
 (.reg [⟨(some 15), (Op.move (Operand.tmp 5)), none, ann0⟩,
  ⟨(some 16), (Op.binOp BinOp.add 3 (Operand.tmp 15) (Operand.const (Value.int IntKind.i64 1)) 3), none, ann0⟩,
  ⟨(some 5), (Op.assign (Operand.tmp 16)), none, ann0⟩] none))) (.tidy [0, 1, 5] z (z + 0))
def s21_1 (z : Nat) : SC := c21_1 z
theorem e21_1 {C : Pg} {z : Nat} {st : St} {ks : List Fr} {K : Ex → St → Prop} : wpk C (s21_1 z) st ks K ↔ wpk C (c21_1 z) st ks K := Iff.rfl
/-- sleuth/sleuthlaw49.same -/
def s21 (z : Nat) : SFn := ⟨2, 26, [(ResultVar.tmp 4)],
 (.seq (.reg [⟨(some 4), (Op.assign (Operand.const (Value.bool false))), none, ann0⟩] none)
 (.seq (.post (.seq (.reg [⟨(some 6), (Op.move (Operand.tmp 0)), none, ann0⟩,
  ⟨(some 7), (Op.call { callee := (Callee.builtin Builtin.len), args := #[(Operand.tmp 6)], argTypes := #[33] }), none, ann0⟩,
  ⟨(some 8), (Op.move (Operand.tmp 1)), none, ann0⟩,
  ⟨(some 9), (Op.call { callee := (Callee.builtin Builtin.len), args := #[(Operand.tmp 8)], argTypes := #[33] }), none, ann0⟩,
  ⟨(some 10), (Op.binOp BinOp.neq 3 (Operand.tmp 7) (Operand.tmp 9) 3), none, ann0⟩] none)
 (.cond (Operand.tmp 10) (.seq (.reg [⟨(some 4), (Op.assign (Operand.const (Value.bool false))), none, ann0⟩] none)
 .ret)
 .skip)) (.tidy [0, 1] z (z + 0)))
 (.seq (.post (.seq (.reg [⟨(some 5), (Op.assign (Operand.const (Value.int IntKind.i64 0))), none, ann0⟩] none)
 (.post (.block 0 (.pre (.tidy [0, 1, 5] z (z + 0)) (.loop (s21_1 z)))) (.tidy [] z (z + 0)))) (.tidy [] z (z + 0)))
 (.seq (.reg [⟨(some 4), (Op.assign (Operand.const (Value.bool true))), none, ann0⟩] none)
 .ret))))⟩
theorem F21 (z : Nat) : FOk Try.prog 21 (s21 z) := by unfold FOk; kernel_rfl
/-- sleuth/sleuthlaw49.burn -/
def s25 (z : Nat) : SFn := ⟨3, 16, [(ResultVar.tmp 6)],
 (.seq (.reg [⟨(some 6), (Op.assign (Operand.const (Value.int IntKind.i64 0))), none, ann0⟩] none)
 (.seq (.seq (.reg [⟨(some 7), (Op.move (Operand.tmp 1)), none, ann0⟩,
  ⟨(some 8), (Op.binOp BinOp.eql 3 (Operand.tmp 7) (Operand.const (Value.int IntKind.i64 0)) 3), none, ann0⟩] none)
 (.cond (Operand.tmp 8) (.seq (.reg [⟨(some 6), (Op.assign (Operand.const (Value.int IntKind.i64 0))), none, ann0⟩] none)
 .ret)
 .skip))
 (.seq (.reg [⟨(some 9), (Op.move (Operand.tmp 0)), none, ann0⟩,
  ⟨(some 10), (Op.binOp BinOp.mul 3 (Operand.tmp 9) (Operand.const (Value.int IntKind.i64 1000000000)) 3), none, ann0⟩,
  ⟨(some 11), (Op.move (Operand.tmp 1)), none, ann0⟩,
  ⟨(some 12), (Op.move (Operand.tmp 2)), none, ann0⟩,
  ⟨(some 13), (Op.binOp BinOp.sub 3 (Operand.const (Value.int IntKind.i64 1000000)) (Operand.tmp 12) 3), none, ann0⟩,
  ⟨(some 14), (Op.binOp BinOp.mul 3 (Operand.tmp 11) (Operand.tmp 13) 3), none, ann0⟩,
  ⟨(some 15), (Op.binOp BinOp.quo 3 (Operand.tmp 10) (Operand.tmp 14) 3), none, ann0⟩,
  ⟨(some 6), (Op.assign (Operand.tmp 15)), none, ann0⟩] none)
 .ret)))⟩
theorem F25 (z : Nat) : FOk Try.prog 25 (s25 z) := by unfold FOk; kernel_rfl
/-- slots: 0 errors, 1 traffic, 2 i, 4 target, 11 a, 12 b, 13 k; objects: z + 0 -/
def c39_1 (z : Nat) : SC := .post (.seq (.seq (.reg [⟨(some 19), (Op.move (Operand.tmp 13)), none, ann0⟩,
  ⟨(some 20), (Op.move (Operand.tmp 2)), none, ann0⟩,
  ⟨(some 21), (Op.binOp BinOp.leq 3 (Operand.tmp 19) (Operand.tmp 20) 3), none, ann0⟩] none)
 (.cond (Operand.tmp 21) .skip
 (.exit 0)))
 (.seq (.post (.block 1 (.reg [⟨(some 24), (Op.move (Operand.tmp 11)), none, ann0⟩,
  ⟨(some 25), (Op.move (Operand.tmp 0)), none, ann0⟩,
  ⟨(some 26), (Op.move (Operand.tmp 13)), none, ann0⟩,
  ⟨(some 27), (Op.indexAddr 33 (Operand.tmp 25) (Operand.tmp 26)), none, ann0⟩,
  ⟨(some 28), (Op.load 3 (Operand.tmp 27)), none, ann0⟩,
  ⟨(some 29), (Op.binOp BinOp.add 3 (Operand.tmp 24) (Operand.tmp 28) 3), none, ann0⟩,
  ⟨(some 30), (Op.move (Operand.tmp 12)), none, ann0⟩,
  ⟨(some 31), (Op.move (Operand.tmp 1)), none, ann0⟩,
  ⟨(some 32), (Op.move (Operand.tmp 13)), none, ann0⟩,
  ⟨(some 33), (Op.indexAddr 33 (Operand.tmp 31) (Operand.tmp 32)), none, ann0⟩,
  ⟨(some 34), (Op.load 3 (Operand.tmp 33)), none, ann0⟩,
  ⟨(some 35), (Op.binOp BinOp.add 3 (Operand.tmp 30) (Operand.tmp 34) 3), none, ann0⟩,
  ⟨(some 11), (Op.assign (Operand.tmp 29)), none, ann0⟩,
  ⟨(some 12), (Op.assign (Operand.tmp 35)), none, ann0⟩] (some [0, 0, 0, 6, 14, 31, 0, 0, 0, 384, 896, 1984, 63, 8191]))) (.tidy [0, 1, 2, 4, 11, 12, 13] z (z + 0)))
 (.reg [⟨(some 22), (Op.move (Operand.tmp 13)), none, ann0⟩,
  ⟨(some 23), (Op.binOp BinOp.add 3 (Operand.tmp 22) (Operand.const (Value.int IntKind.i64 1)) 3), none, ann0⟩,
  ⟨(some 13), (Op.assign (Operand.tmp 23)), none, ann0⟩] none))) (.tidy [0, 1, 2, 4, 11, 12, 13] z (z + 0))
def s39_1 (z : Nat) : SC := c39_1 z
theorem e39_1 {C : Pg} {z : Nat} {st : St} {ks : List Fr} {K : Ex → St → Prop} : wpk C (s39_1 z) st ks K ↔ wpk C (c39_1 z) st ks K := Iff.rfl
/-- sleuth/sleuthlaw49.rate -/
def s39 (z : Nat) : SFn := ⟨5, 40, [(ResultVar.tmp 10)],
 (.seq (.reg [⟨(some 10), (Op.assign (Operand.const (Value.int IntKind.i64 0))), none, ann0⟩] none)
 (.seq (.reg [⟨(some 11), (Op.assign (Operand.const (Value.int IntKind.i64 0))), none, ann0⟩,
  ⟨(some 12), (Op.assign (Operand.const (Value.int IntKind.i64 0))), none, ann0⟩] none)
 (.seq (.post (.seq (.post (.reg [⟨(some 14), (Op.move (Operand.tmp 2)), none, ann0⟩,
  ⟨(some 15), (Op.move (Operand.tmp 3)), none, ann0⟩,
  ⟨(some 16), (Op.binOp BinOp.sub 3 (Operand.tmp 14) (Operand.tmp 15) 3), none, ann0⟩,
  ⟨(some 17), (Op.binOp BinOp.add 3 (Operand.tmp 16) (Operand.const (Value.int IntKind.i64 1)) 3), none, ann0⟩,
  ⟨(some 18), (Op.call { callee := (Callee.builtin Builtin.max), args := #[(Operand.const (Value.int IntKind.i64 0)), (Operand.tmp 17)], argTypes := #[3, 3] }), none, ann0⟩,
  ⟨(some 13), (Op.assign (Operand.tmp 18)), none, ann0⟩] none) (.tidy [0, 1, 2, 4, 11, 12, 13] z (z + 0)))
 (.post (.block 0 (.pre (.tidy [0, 1, 2, 4, 11, 12, 13] z (z + 0)) (.loop (s39_1 z)))) (.tidy [4, 11, 12] z (z + 0)))) (.tidy [4, 11, 12] z (z + 0)))
 (.seq (.reg [⟨(some 36), (Op.move (Operand.tmp 11)), none, ann0⟩,
  ⟨(some 37), (Op.move (Operand.tmp 12)), none, ann0⟩,
  ⟨(some 38), (Op.move (Operand.tmp 4)), none, ann0⟩,
  ⟨(some 39), (Op.call { callee := (Callee.value (Operand.func 25)), args := #[(Operand.tmp 36), (Operand.tmp 37), (Operand.tmp 38)], argTypes := #[3, 3, 3] }), none, ann0⟩,
  ⟨(some 10), (Op.assign (Operand.tmp 39)), none, ann0⟩] none)
 .ret))))⟩
theorem F39 (z : Nat) : FOk Try.prog 39 (s39 z) := by unfold FOk; kernel_rfl
/-- slots: 1 errors, 2 traffic, 3 r, 7 out, 8 n, 9 i; objects: z + 2 -/
def c22_1 (z : Nat) : SC := .post (.seq (.post (.seq (.reg [⟨(some 10), (Op.move (Operand.tmp 9)), none, ann0⟩,
  ⟨(some 11), (Op.move (Operand.tmp 1)), none, ann0⟩,
  ⟨(some 12), (Op.call { callee := (Callee.builtin Builtin.len), args := #[(Operand.tmp 11)], argTypes := #[33] }), none, ann0⟩,
  ⟨(some 13), (Op.binOp BinOp.lss 3 (Operand.tmp 10) (Operand.tmp 12) 3), none, ann0⟩] none)
 (.cond (Operand.tmp 13) .skip
 (.exit 0))) (.tidy [1, 2, 3, 7, 8, 9] z (z + 2)))
 (.seq (.post (.block 1 (.seq (.post (.seq (.post (.reg [⟨(some 16), (Op.move (Operand.tmp 1)), none, ann0⟩,
  ⟨(some 17), (Op.move (Operand.tmp 2)), none, ann0⟩,
  ⟨(some 18), (Op.move (Operand.tmp 9)), none, ann0⟩,
  ⟨(some 19), (Op.fieldAddr 23 (Operand.tmp 3) 4), none, ann0⟩,
  ⟨(some 20), (Op.load 3 (Operand.tmp 19)), none, ann0⟩,
  ⟨(some 21), (Op.fieldAddr 23 (Operand.tmp 3) 3), none, ann0⟩,
  ⟨(some 22), (Op.load 3 (Operand.tmp 21)), none, ann0⟩,
  ⟨(some 23), (Op.call { callee := (Callee.value (Operand.func 39)), args := #[(Operand.tmp 16), (Operand.tmp 17), (Operand.tmp 18), (Operand.tmp 20), (Operand.tmp 22)], argTypes := #[33, 33, 3, 3, 3] }), none, ann0⟩,
  ⟨(some 24), (Op.fieldAddr 23 (Operand.tmp 3) 6), none, ann0⟩,
  ⟨(some 25), (Op.load 3 (Operand.tmp 24)), none, ann0⟩,
  ⟨(some 26), (Op.binOp BinOp.lss 3 (Operand.tmp 23) (Operand.tmp 25) 3), none, ann0⟩,
  ⟨(some 27), (Op.move (Operand.tmp 26)), none, ann0⟩,
  ⟨(some 28), (Op.move (Operand.tmp 1)), (some (27, false)), ann0⟩,
  ⟨(some 29), (Op.move (Operand.tmp 2)), (some (27, false)), ann0⟩,
  ⟨(some 30), (Op.move (Operand.tmp 9)), (some (27, false)), ann0⟩,
  ⟨(some 31), (Op.fieldAddr 23 (Operand.tmp 3) 5), (some (27, false)), ann0⟩,
  ⟨(some 32), (Op.load 3 (Operand.tmp 31)), (some (27, false)), ann0⟩,
  ⟨(some 33), (Op.fieldAddr 23 (Operand.tmp 3) 3), (some (27, false)), ann0⟩,
  ⟨(some 34), (Op.load 3 (Operand.tmp 33)), (some (27, false)), ann0⟩,
  ⟨(some 35), (Op.call { callee := (Callee.value (Operand.func 39)), args := #[(Operand.tmp 28), (Operand.tmp 29), (Operand.tmp 30), (Operand.tmp 32), (Operand.tmp 34)], argTypes := #[33, 33, 3, 3, 3] }), (some (27, false)), ann0⟩,
  ⟨(some 36), (Op.fieldAddr 23 (Operand.tmp 3) 6), (some (27, false)), ann0⟩,
  ⟨(some 37), (Op.load 3 (Operand.tmp 36)), (some (27, false)), ann0⟩,
  ⟨(some 38), (Op.binOp BinOp.lss 3 (Operand.tmp 35) (Operand.tmp 37) 3), (some (27, false)), ann0⟩,
  ⟨(some 39), (Op.pick (Operand.tmp 27) (Operand.const (Value.bool true)) (Operand.tmp 38)), none, ann0⟩] (some [0, 0, 0, 0, 8, 0, 32, 127, 0, 256, 1023, 2047, 4095, 4095, 4095, 4095, 36863, 4095, 135167, 524287, 4095, 1052671, 4194303, 8388607])) (.tidy [1, 2, 3, 7, 8, 9, 39] z (z + 2)))
 (.cond (Operand.tmp 39) (.seq (.reg [⟨(some 8), (Op.assign (Operand.const (Value.int IntKind.i64 0))), none, ann0⟩] none)
 (.seq (.reg [⟨(some 40), (Op.move (Operand.tmp 7)), none, ann0⟩,
  ⟨(some 41), (Op.buildSlice 33 1 #[(0, (Operand.const (Value.int IntKind.i64 0)))]), none, ⟨1, true, false⟩⟩,
  ⟨(some 42), (Op.call { callee := (Callee.builtin Builtin.append), args := #[(Operand.tmp 40), (Operand.tmp 41)], argTypes := #[33, 33] }), none, ann0⟩,
  ⟨(some 7), (Op.assign (Operand.tmp 42)), none, ann0⟩] none)
 (.exit 1)))
 .skip)) (.tidy [1, 2, 3, 7, 8, 9] z (z + 3)))
 (.seq (.reg [⟨(some 43), (Op.move (Operand.tmp 8)), none, ann0⟩,
  ⟨(some 44), (Op.binOp BinOp.add 3 (Operand.tmp 43) (Operand.const (Value.int IntKind.i64 1)) 3), none, ann0⟩,
  ⟨(some 8), (Op.assign (Operand.tmp 44)), none, ann0⟩] none)
 (.seq (.reg [⟨(some 45), (Op.move (Operand.tmp 8)), none, ann0⟩,
  ⟨(some 46), (Op.fieldAddr 23 (Operand.tmp 3) 7), none, ann0⟩,
  ⟨(some 47), (Op.load 3 (Operand.tmp 46)), none, ann0⟩,
  ⟨(some 48), (Op.binOp BinOp.gtr 3 (Operand.tmp 45) (Operand.tmp 47) 3), none, ann0⟩] none)
 (.cond (Operand.tmp 48) (.reg [⟨(some 49), (Op.move (Operand.tmp 7)), none, ann0⟩,
  ⟨(some 50), (Op.buildSlice 33 1 #[(0, (Operand.const (Value.int IntKind.i64 2)))]), none, ⟨1, true, false⟩⟩,
  ⟨(some 51), (Op.call { callee := (Callee.builtin Builtin.append), args := #[(Operand.tmp 49), (Operand.tmp 50)], argTypes := #[33, 33] }), none, ann0⟩,
  ⟨(some 7), (Op.assign (Operand.tmp 51)), none, ann0⟩] none)
 (.reg [⟨(some 52), (Op.move (Operand.tmp 7)), none, ann0⟩,
  ⟨(some 53), (Op.buildSlice 33 1 #[(0, (Operand.const (Value.int IntKind.i64 1)))]), none, ⟨1, true, false⟩⟩,
  ⟨(some 54), (Op.call { callee := (Callee.builtin Builtin.append), args := #[(Operand.tmp 52), (Operand.tmp 53)], argTypes := #[33, 33] }), none, ann0⟩,
  ⟨(some 7), (Op.assign (Operand.tmp 54)), none, ann0⟩] none)))))) (.tidy [1, 2, 3, 7, 8, 9] z (z + 4)))
 (.reg [⟨(some 14), (Op.move (Operand.tmp 9)), none, ann0⟩,
  ⟨(some 15), (Op.binOp BinOp.add 3 (Operand.tmp 14) (Operand.const (Value.int IntKind.i64 1)) 3), none, ann0⟩,
  ⟨(some 9), (Op.assign (Operand.tmp 15)), none, ann0⟩] none))) (.tidy [1, 2, 3, 7, 8, 9] z (z + 2))
def s22_1 (z : Nat) : SC := c22_1 z
theorem e22_1 {C : Pg} {z : Nat} {st : St} {ks : List Fr} {K : Ex → St → Prop} : wpk C (s22_1 z) st ks K ↔ wpk C (c22_1 z) st ks K := Iff.rfl
/-- sleuth/sleuthlaw49.states -/
def s22 (z : Nat) : SFn := ⟨3, 56, [(ResultVar.tmp 6)],
 (.post (.seq (.reg [⟨(some 3), (Op.box 23 (Operand.tmp 0)), none, ⟨1, false, false⟩⟩,
  ⟨(some 6), (Op.assign (Operand.const (Value.slice none 0 0))), none, ann0⟩] none)
 (.seq (.post (.reg [⟨(some 7), (Op.assign (Operand.const (Value.slice none 0 0))), none, ann0⟩] none) (.mkv 7 3 1))
 (.seq (.reg [⟨(some 8), (Op.assign (Operand.const (Value.int IntKind.i64 0))), none, ann0⟩] none)
 (.seq (.post (.seq (.reg [⟨(some 9), (Op.assign (Operand.const (Value.int IntKind.i64 0))), none, ann0⟩] none)
 (.post (.block 0 (.pre (.tidy [1, 2, 3, 7, 8, 9] z (z + 2)) (.loop (s22_1 z)))) (.tidy [7] z (z + 2)))) (.tidy [7] z (z + 2)))
 (.seq (.reg [⟨(some 55), (Op.move (Operand.tmp 7)), none, ann0⟩,
  ⟨(some 6), (Op.assign (Operand.tmp 55)), none, ann0⟩] none)
 .ret))))) (.frz 6))⟩
theorem F22 (z : Nat) : FOk Try.prog 22 (s22 z) := by unfold FOk; kernel_rfl
/-- sleuth/sleuthlaw49.AlertInputs -/
def s4 (z : Nat) : SFn := ⟨3, 106, [(ResultVar.tmp 6)],
 (.seq (.reg [⟨(some 3), (Op.box 25 (Operand.tmp 0)), none, ⟨1, false, false⟩⟩,
  ⟨(some 4), (Op.box 35 (Operand.tmp 1)), none, ⟨1, false, false⟩⟩,
  ⟨(some 5), (Op.box 35 (Operand.tmp 2)), none, ⟨1, false, false⟩⟩,
  ⟨(some 6), (Op.assign (Operand.const (Value.bool false))), none, ann0⟩] none)
 (.seq (.post (.seq (.post (.reg [⟨(some 13), (Op.call { callee := (Callee.value (Operand.func 13)), args := #[], argTypes := #[] }), none, ann0⟩,
  ⟨(some 14), (Op.unOp UnOp.not 4 (Operand.tmp 13)), none, ann0⟩,
  ⟨(some 15), (Op.move (Operand.tmp 14)), none, ann0⟩,
  ⟨(some 16), (Op.fieldAddr 35 (Operand.tmp 4) 5), (some (15, false)), ann0⟩,
  ⟨(some 17), (Op.load 33 (Operand.tmp 16)), (some (15, false)), ann0⟩,
  ⟨(some 18), (Op.call { callee := (Callee.builtin Builtin.len), args := #[(Operand.tmp 17)], argTypes := #[33] }), (some (15, false)), ann0⟩,
  ⟨(some 19), (Op.binOp BinOp.gtr 3 (Operand.tmp 18) (Operand.const (Value.int IntKind.i64 6)) 3), (some (15, false)), ann0⟩,
  ⟨(some 20), (Op.pick (Operand.tmp 15) (Operand.const (Value.bool true)) (Operand.tmp 19)), none, ann0⟩,
  ⟨(some 21), (Op.move (Operand.tmp 20)), none, ann0⟩,
  ⟨(some 22), (Op.fieldAddr 35 (Operand.tmp 5) 5), (some (21, false)), ann0⟩,
  ⟨(some 23), (Op.load 33 (Operand.tmp 22)), (some (21, false)), ann0⟩,
  ⟨(some 24), (Op.call { callee := (Callee.builtin Builtin.len), args := #[(Operand.tmp 23)], argTypes := #[33] }), (some (21, false)), ann0⟩,
  ⟨(some 25), (Op.binOp BinOp.gtr 3 (Operand.tmp 24) (Operand.const (Value.int IntKind.i64 6)) 3), (some (21, false)), ann0⟩,
  ⟨(some 26), (Op.pick (Operand.tmp 21) (Operand.const (Value.bool true)) (Operand.tmp 25)), none, ann0⟩,
  ⟨(some 27), (Op.move (Operand.tmp 26)), none, ann0⟩,
  ⟨(some 28), (Op.fieldAddr 35 (Operand.tmp 4) 0), (some (27, false)), ann0⟩,
  ⟨(some 29), (Op.load 9 (Operand.tmp 28)), (some (27, false)), ann0⟩,
  ⟨(some 30), (Op.call { callee := (Callee.builtin Builtin.len), args := #[(Operand.tmp 29)], argTypes := #[9] }), (some (27, false)), ann0⟩,
  ⟨(some 31), (Op.fieldAddr 35 (Operand.tmp 4) 1), (some (27, false)), ann0⟩,
  ⟨(some 32), (Op.load 9 (Operand.tmp 31)), (some (27, false)), ann0⟩,
  ⟨(some 33), (Op.call { callee := (Callee.builtin Builtin.len), args := #[(Operand.tmp 32)], argTypes := #[9] }), (some (27, false)), ann0⟩,
  ⟨(some 34), (Op.binOp BinOp.add 3 (Operand.tmp 30) (Operand.tmp 33) 3), (some (27, false)), ann0⟩,
  ⟨(some 35), (Op.fieldAddr 35 (Operand.tmp 5) 0), (some (27, false)), ann0⟩,
  ⟨(some 36), (Op.load 9 (Operand.tmp 35)), (some (27, false)), ann0⟩,
  ⟨(some 37), (Op.call { callee := (Callee.builtin Builtin.len), args := #[(Operand.tmp 36)], argTypes := #[9] }), (some (27, false)), ann0⟩,
  ⟨(some 38), (Op.binOp BinOp.add 3 (Operand.tmp 34) (Operand.tmp 37) 3), (some (27, false)), ann0⟩,
  ⟨(some 39), (Op.fieldAddr 35 (Operand.tmp 5) 1), (some (27, false)), ann0⟩,
  ⟨(some 40), (Op.load 9 (Operand.tmp 39)), (some (27, false)), ann0⟩,
  ⟨(some 41), (Op.call { callee := (Callee.builtin Builtin.len), args := #[(Operand.tmp 40)], argTypes := #[9] }), (some (27, false)), ann0⟩,
  ⟨(some 42), (Op.binOp BinOp.add 3 (Operand.tmp 38) (Operand.tmp 41) 3), (some (27, false)), ann0⟩,
  ⟨(some 43), (Op.binOp BinOp.gtr 3 (Operand.tmp 42) (Operand.const (Value.int IntKind.i64 300)) 3), (some (27, false)), ann0⟩,
  ⟨(some 44), (Op.pick (Operand.tmp 27) (Operand.const (Value.bool true)) (Operand.tmp 43)), none, ann0⟩] none) (.tidy [3, 4, 5, 44] z (z + 3)))
 (.cond (Operand.tmp 44) (.seq (.reg [⟨(some 45), (Op.call { callee := (Callee.value (Operand.func 13)), args := #[], argTypes := #[] }), none, ann0⟩,
  ⟨(some 6), (Op.assign (Operand.tmp 45)), none, ann0⟩] none)
 .ret)
 .skip)) (.tidy [3, 4, 5] z (z + 3)))
 (.seq (.reg [⟨(some 46), (Op.load 25 (Operand.tmp 3)), none, ann0⟩,
  ⟨(some 47), (Op.call { callee := (Callee.value (Operand.func 16)), args := #[(Operand.tmp 46)], argTypes := #[25] }), none, ann0⟩,
  ⟨(some 7), (Op.alloc 23), none, ⟨1, false, false⟩⟩,
  ⟨none, (Op.store 23 (Operand.tmp 7) (Operand.tmp 47)), none, ann0⟩] none)
 (.seq (.post (.reg [⟨(some 48), (Op.load 23 (Operand.tmp 7)), none, ann0⟩,
  ⟨(some 49), (Op.load 35 (Operand.tmp 4)), none, ann0⟩,
  ⟨(some 50), (Op.load 35 (Operand.tmp 5)), none, ann0⟩,
  ⟨(some 51), (Op.call { callee := (Callee.value (Operand.func 17)), args := #[(Operand.tmp 48), (Operand.tmp 49), (Operand.tmp 50)], argTypes := #[23, 35, 35] }), none, ann0⟩,
  ⟨(some 8), (Op.assign (Operand.tmp 51)), none, ann0⟩] none) (.tidy [4, 5, 7, 8] z (z + 4)))
 (.seq (.post (.reg [⟨(some 53), (Op.load 23 (Operand.tmp 7)), none, ann0⟩,
  ⟨(some 54), (Op.load 35 (Operand.tmp 4)), none, ann0⟩,
  ⟨(some 55), (Op.load 35 (Operand.tmp 5)), none, ann0⟩,
  ⟨(some 56), (Op.call { callee := (Callee.value (Operand.func 18)), args := #[(Operand.tmp 53), (Operand.tmp 54), (Operand.tmp 55)], argTypes := #[23, 35, 35] }), none, ann0⟩,
  ⟨(some 52), (Op.move (Operand.tmp 56)), none, ann0⟩,
  ⟨(some 57), (Op.extract (Operand.tmp 52) 0), none, ann0⟩,
  ⟨(some 58), (Op.extract (Operand.tmp 52) 1), none, ann0⟩,
  ⟨(some 9), (Op.assign (Operand.tmp 57)), none, ann0⟩,
  ⟨(some 10), (Op.assign (Operand.tmp 58)), none, ann0⟩] none) (.tidy [4, 5, 7, 8, 9, 10] z (z + 4)))
 (.seq (.post (.reg [⟨(some 60), (Op.load 23 (Operand.tmp 7)), none, ann0⟩,
  ⟨(some 61), (Op.load 35 (Operand.tmp 4)), none, ann0⟩,
  ⟨(some 62), (Op.load 35 (Operand.tmp 5)), none, ann0⟩,
  ⟨(some 63), (Op.call { callee := (Callee.value (Operand.func 19)), args := #[(Operand.tmp 60), (Operand.tmp 61), (Operand.tmp 62)], argTypes := #[23, 35, 35] }), none, ann0⟩,
  ⟨(some 59), (Op.move (Operand.tmp 63)), none, ann0⟩,
  ⟨(some 64), (Op.extract (Operand.tmp 59) 0), none, ann0⟩,
  ⟨(some 65), (Op.extract (Operand.tmp 59) 1), none, ann0⟩,
  ⟨(some 11), (Op.assign (Operand.tmp 64)), none, ann0⟩,
  ⟨(some 12), (Op.assign (Operand.tmp 65)), none, ann0⟩] none) (.tidy [4, 5, 7, 8, 9, 10, 11, 12] z (z + 4)))
 (.seq (.post (.seq (.post (.reg [⟨(some 66), (Op.load 23 (Operand.tmp 7)), none, ann0⟩,
  ⟨(some 67), (Op.load 35 (Operand.tmp 4)), none, ann0⟩,
  ⟨(some 68), (Op.load 35 (Operand.tmp 5)), none, ann0⟩,
  ⟨(some 69), (Op.call { callee := (Callee.value (Operand.func 20)), args := #[(Operand.tmp 66), (Operand.tmp 67), (Operand.tmp 68)], argTypes := #[23, 35, 35] }), none, ann0⟩,
  ⟨(some 70), (Op.move (Operand.tmp 8)), none, ann0⟩,
  ⟨(some 71), (Op.binOp BinOp.neq 27 (Operand.tmp 69) (Operand.tmp 70) 27), none, ann0⟩,
  ⟨(some 72), (Op.move (Operand.tmp 71)), none, ann0⟩,
  ⟨(some 73), (Op.move (Operand.tmp 10)), (some (72, false)), ann0⟩,
  ⟨(some 74), (Op.move (Operand.tmp 8)), (some (72, false)), ann0⟩,
  ⟨(some 75), (Op.binOp BinOp.neq 27 (Operand.tmp 73) (Operand.tmp 74) 27), (some (72, false)), ann0⟩,
  ⟨(some 76), (Op.pick (Operand.tmp 72) (Operand.const (Value.bool true)) (Operand.tmp 75)), none, ann0⟩,
  ⟨(some 77), (Op.move (Operand.tmp 76)), none, ann0⟩,
  ⟨(some 78), (Op.move (Operand.tmp 12)), (some (77, false)), ann0⟩,
  ⟨(some 79), (Op.move (Operand.tmp 8)), (some (77, false)), ann0⟩,
  ⟨(some 80), (Op.binOp BinOp.neq 27 (Operand.tmp 78) (Operand.tmp 79) 27), (some (77, false)), ann0⟩,
  ⟨(some 81), (Op.pick (Operand.tmp 77) (Operand.const (Value.bool true)) (Operand.tmp 80)), none, ann0⟩] none) (.tidy [4, 5, 7, 8, 9, 11, 81] z (z + 4)))
 (.cond (Operand.tmp 81) (.seq (.reg [⟨(some 6), (Op.assign (Operand.const (Value.bool false))), none, ann0⟩] none)
 .ret)
 .skip)) (.tidy [4, 5, 7, 8, 9, 11] z (z + 4)))
 (.seq (.reg [⟨(some 82), (Op.move (Operand.tmp 8)), none, ann0⟩,
  ⟨(some 83), (Op.binOp BinOp.eql 27 (Operand.tmp 82) (Operand.const (Value.int IntKind.i64 0)) 27), none, ann0⟩,
  ⟨(some 84), (Op.move (Operand.tmp 83)), none, ann0⟩,
  ⟨(some 85), (Op.move (Operand.tmp 9)), (some (84, true)), ann0⟩,
  ⟨(some 86), (Op.load 23 (Operand.tmp 7)), (some (84, true)), ann0⟩,
  ⟨(some 87), (Op.fieldAddr 35 (Operand.tmp 4) 5), (some (84, true)), ann0⟩,
  ⟨(some 88), (Op.load 33 (Operand.tmp 87)), (some (84, true)), ann0⟩,
  ⟨(some 89), (Op.fieldAddr 35 (Operand.tmp 5) 5), (some (84, true)), ann0⟩,
  ⟨(some 90), (Op.load 33 (Operand.tmp 89)), (some (84, true)), ann0⟩,
  ⟨(some 91), (Op.call { callee := (Callee.value (Operand.func 22)), args := #[(Operand.tmp 86), (Operand.tmp 88), (Operand.tmp 90)], argTypes := #[23, 33, 33] }), (some (84, true)), ann0⟩,
  ⟨(some 92), (Op.call { callee := (Callee.value (Operand.func 21)), args := #[(Operand.tmp 85), (Operand.tmp 91)], argTypes := #[33, 33] }), (some (84, true)), ann0⟩,
  ⟨(some 93), (Op.pick (Operand.tmp 84) (Operand.tmp 92) (Operand.const (Value.bool false))), none, ann0⟩,
  ⟨(some 94), (Op.move (Operand.tmp 93)), none, ann0⟩,
  ⟨(some 95), (Op.move (Operand.tmp 8)), (some (94, false)), ann0⟩,
  ⟨(some 96), (Op.binOp BinOp.neq 27 (Operand.tmp 95) (Operand.const (Value.int IntKind.i64 0)) 27), (some (94, false)), ann0⟩,
  ⟨(some 97), (Op.move (Operand.tmp 96)), (some (94, false)), ann0⟩,
  ⟨(some 98), (Op.move (Operand.tmp 9)), (some (97, true)), ann0⟩,
  ⟨(some 99), (Op.call { callee := (Callee.builtin Builtin.len), args := #[(Operand.tmp 98)], argTypes := #[33] }), (some (97, true)), ann0⟩,
  ⟨(some 100), (Op.move (Operand.tmp 11)), (some (97, true)), ann0⟩,
  ⟨(some 101), (Op.call { callee := (Callee.builtin Builtin.len), args := #[(Operand.tmp 100)], argTypes := #[39] }), (some (97, true)), ann0⟩,
  ⟨(some 102), (Op.binOp BinOp.add 3 (Operand.tmp 99) (Operand.tmp 101) 3), (some (97, true)), ann0⟩,
  ⟨(some 103), (Op.binOp BinOp.eql 3 (Operand.tmp 102) (Operand.const (Value.int IntKind.i64 0)) 3), (some (97, true)), ann0⟩,
  ⟨(some 104), (Op.pick (Operand.tmp 97) (Operand.tmp 103) (Operand.const (Value.bool false))), (some (94, false)), ann0⟩,
  ⟨(some 105), (Op.pick (Operand.tmp 94) (Operand.const (Value.bool true)) (Operand.tmp 104)), none, ann0⟩,
  ⟨(some 6), (Op.assign (Operand.tmp 105)), none, ann0⟩] none)
 .ret))))))))⟩
theorem F4 (z : Nat) : FOk Try.prog 4 (s4 z) := by unfold FOk; kernel_rfl
/-- sleuth/sleuthlaw49.AlertBudgets -/
def s5 (z : Nat) : SFn := ⟨3, 132, [(ResultVar.tmp 6)],
 (.seq (.reg [⟨(some 6), (Op.assign (Operand.const (Value.bool false))), none, ann0⟩] none)
 (.seq (.seq (.reg [⟨(some 16), (Op.call { callee := (Callee.value (Operand.func 13)), args := #[], argTypes := #[] }), none, ann0⟩,
  ⟨(some 17), (Op.unOp UnOp.not 4 (Operand.tmp 16)), none, ann0⟩] none)
 (.cond (Operand.tmp 17) (.seq (.reg [⟨(some 6), (Op.assign (Operand.const (Value.bool false))), none, ann0⟩] none)
 .ret)
 .skip))
 (.seq (.post (.reg [⟨(some 19), (Op.move (Operand.tmp 1)), none, ann0⟩,
  ⟨(some 20), (Op.move (Operand.tmp 2)), none, ann0⟩,
  ⟨(some 21), (Op.call { callee := (Callee.value (Operand.func 23)), args := #[(Operand.tmp 19), (Operand.tmp 20)], argTypes := #[3, 3] }), none, ann0⟩,
  ⟨(some 18), (Op.move (Operand.tmp 21)), none, ann0⟩,
  ⟨(some 22), (Op.extract (Operand.tmp 18) 0), none, ann0⟩,
  ⟨(some 23), (Op.extract (Operand.tmp 18) 1), none, ann0⟩,
  ⟨(some 7), (Op.assign (Operand.tmp 22)), none, ann0⟩,
  ⟨(some 8), (Op.assign (Operand.tmp 23)), none, ann0⟩] none) (.tidy [0, 1, 2, 7, 8] z (z + 0)))
 (.seq (.post (.reg [⟨(some 25), (Op.move (Operand.tmp 0)), none, ann0⟩,
  ⟨(some 26), (Op.move (Operand.tmp 1)), none, ann0⟩,
  ⟨(some 27), (Op.move (Operand.tmp 2)), none, ann0⟩,
  ⟨(some 28), (Op.call { callee := (Callee.value (Operand.func 24)), args := #[(Operand.tmp 25), (Operand.tmp 26), (Operand.tmp 27)], argTypes := #[3, 3, 3] }), none, ann0⟩,
  ⟨(some 24), (Op.move (Operand.tmp 28)), none, ann0⟩,
  ⟨(some 29), (Op.extract (Operand.tmp 24) 0), none, ann0⟩,
  ⟨(some 30), (Op.extract (Operand.tmp 24) 1), none, ann0⟩,
  ⟨(some 9), (Op.assign (Operand.tmp 29)), none, ann0⟩,
  ⟨(some 10), (Op.assign (Operand.tmp 30)), none, ann0⟩] none) (.tidy [0, 1, 2, 7, 8, 9, 10] z (z + 0)))
 (.seq (.post (.reg [⟨(some 31), (Op.move (Operand.tmp 2)), none, ann0⟩,
  ⟨(some 32), (Op.binOp BinOp.geq 3 (Operand.tmp 31) (Operand.const (Value.int IntKind.i64 0)) 3), none, ann0⟩,
  ⟨(some 33), (Op.move (Operand.tmp 32)), none, ann0⟩,
  ⟨(some 34), (Op.move (Operand.tmp 2)), (some (33, true)), ann0⟩,
  ⟨(some 35), (Op.binOp BinOp.leq 3 (Operand.tmp 34) (Operand.const (Value.int IntKind.i64 999999)) 3), (some (33, true)), ann0⟩,
  ⟨(some 36), (Op.pick (Operand.tmp 33) (Operand.tmp 35) (Operand.const (Value.bool false))), none, ann0⟩,
  ⟨(some 37), (Op.move (Operand.tmp 36)), none, ann0⟩,
  ⟨(some 38), (Op.move (Operand.tmp 1)), (some (37, true)), ann0⟩,
  ⟨(some 39), (Op.binOp BinOp.geq 3 (Operand.tmp 38) (Operand.const (Value.int IntKind.i64 0)) 3), (some (37, true)), ann0⟩,
  ⟨(some 40), (Op.pick (Operand.tmp 37) (Operand.tmp 39) (Operand.const (Value.bool false))), none, ann0⟩,
  ⟨(some 41), (Op.move (Operand.tmp 40)), none, ann0⟩,
  ⟨(some 42), (Op.move (Operand.tmp 1)), (some (41, true)), ann0⟩,
  ⟨(some 43), (Op.binOp BinOp.leq 3 (Operand.tmp 42) (Operand.const (Value.int IntKind.i64 4294967296)) 3), (some (41, true)), ann0⟩,
  ⟨(some 44), (Op.pick (Operand.tmp 41) (Operand.tmp 43) (Operand.const (Value.bool false))), none, ann0⟩,
  ⟨(some 11), (Op.assign (Operand.tmp 44)), none, ann0⟩] none) (.tidy [0, 1, 2, 7, 8, 9, 10, 11] z (z + 0)))
 (.seq (.post (.seq (.reg [⟨(some 45), (Op.move (Operand.tmp 11)), none, ann0⟩,
  ⟨(some 46), (Op.unOp UnOp.not 4 (Operand.tmp 45)), none, ann0⟩] none)
 (.cond (Operand.tmp 46) (.seq (.reg [⟨(some 47), (Op.move (Operand.tmp 8)), none, ann0⟩,
  ⟨(some 48), (Op.binOp BinOp.eql 27 (Operand.tmp 47) (Operand.const (Value.int IntKind.i64 2)) 27), none, ann0⟩,
  ⟨(some 49), (Op.move (Operand.tmp 48)), none, ann0⟩,
  ⟨(some 50), (Op.move (Operand.tmp 10)), (some (49, true)), ann0⟩,
  ⟨(some 51), (Op.binOp BinOp.eql 27 (Operand.tmp 50) (Operand.const (Value.int IntKind.i64 2)) 27), (some (49, true)), ann0⟩,
  ⟨(some 52), (Op.pick (Operand.tmp 49) (Operand.tmp 51) (Operand.const (Value.bool false))), none, ann0⟩,
  ⟨(some 53), (Op.move (Operand.tmp 52)), none, ann0⟩,
  ⟨(some 54), (Op.move (Operand.tmp 7)), (some (53, true)), ann0⟩,
  ⟨(some 55), (Op.binOp BinOp.eql 3 (Operand.tmp 54) (Operand.const (Value.int IntKind.i64 0)) 3), (some (53, true)), ann0⟩,
  ⟨(some 56), (Op.pick (Operand.tmp 53) (Operand.tmp 55) (Operand.const (Value.bool false))), none, ann0⟩,
  ⟨(some 57), (Op.move (Operand.tmp 56)), none, ann0⟩,
  ⟨(some 58), (Op.move (Operand.tmp 9)), (some (57, true)), ann0⟩,
  ⟨(some 59), (Op.binOp BinOp.eql 3 (Operand.tmp 58) (Operand.const (Value.int IntKind.i64 0)) 3), (some (57, true)), ann0⟩,
  ⟨(some 60), (Op.pick (Operand.tmp 57) (Operand.tmp 59) (Operand.const (Value.bool false))), none, ann0⟩,
  ⟨(some 6), (Op.assign (Operand.tmp 60)), none, ann0⟩] none)
 .ret)
 .skip)) (.tidy [0, 1, 2, 7, 8, 9, 10] z (z + 0)))
 (.seq (.post (.seq (.post (.reg [⟨(some 61), (Op.move (Operand.tmp 8)), none, ann0⟩,
  ⟨(some 62), (Op.binOp BinOp.neq 27 (Operand.tmp 61) (Operand.const (Value.int IntKind.i64 0)) 27), none, ann0⟩,
  ⟨(some 63), (Op.move (Operand.tmp 62)), none, ann0⟩,
  ⟨(some 64), (Op.move (Operand.tmp 7)), (some (63, false)), ann0⟩,
  ⟨(some 65), (Op.move (Operand.tmp 1)), (some (63, false)), ann0⟩,
  ⟨(some 66), (Op.move (Operand.tmp 2)), (some (63, false)), ann0⟩,
  ⟨(some 67), (Op.binOp BinOp.sub 3 (Operand.const (Value.int IntKind.i64 1000000)) (Operand.tmp 66) 3), (some (63, false)), ann0⟩,
  ⟨(some 68), (Op.binOp BinOp.mul 3 (Operand.tmp 65) (Operand.tmp 67) 3), (some (63, false)), ann0⟩,
  ⟨(some 69), (Op.binOp BinOp.quo 3 (Operand.tmp 68) (Operand.const (Value.int IntKind.i64 1000000)) 3), (some (63, false)), ann0⟩,
  ⟨(some 70), (Op.binOp BinOp.neq 3 (Operand.tmp 64) (Operand.tmp 69) 3), (some (63, false)), ann0⟩,
  ⟨(some 71), (Op.pick (Operand.tmp 63) (Operand.const (Value.bool true)) (Operand.tmp 70)), none, ann0⟩] none) (.tidy [0, 1, 2, 7, 9, 10, 71] z (z + 0)))
 (.cond (Operand.tmp 71) (.seq (.reg [⟨(some 6), (Op.assign (Operand.const (Value.bool false))), none, ann0⟩] none)
 .ret)
 .skip)) (.tidy [0, 1, 2, 7, 9, 10] z (z + 0)))
 (.seq (.post (.reg [⟨(some 73), (Op.move (Operand.tmp 1)), none, ann0⟩,
  ⟨(some 74), (Op.binOp BinOp.quo 3 (Operand.tmp 73) (Operand.const (Value.int IntKind.i64 3)) 3), none, ann0⟩,
  ⟨(some 75), (Op.move (Operand.tmp 2)), none, ann0⟩,
  ⟨(some 76), (Op.call { callee := (Callee.value (Operand.func 23)), args := #[(Operand.tmp 74), (Operand.tmp 75)], argTypes := #[3, 3] }), none, ann0⟩,
  ⟨(some 72), (Op.move (Operand.tmp 76)), none, ann0⟩,
  ⟨(some 77), (Op.extract (Operand.tmp 72) 0), none, ann0⟩,
  ⟨(some 78), (Op.extract (Operand.tmp 72) 1), none, ann0⟩,
  ⟨(some 12), (Op.assign (Operand.tmp 77)), none, ann0⟩,
  ⟨(some 13), (Op.assign (Operand.tmp 78)), none, ann0⟩] none) (.tidy [0, 1, 2, 7, 9, 10, 12, 13] z (z + 0)))
 (.seq (.post (.reg [⟨(some 80), (Op.move (Operand.tmp 1)), none, ann0⟩,
  ⟨(some 81), (Op.move (Operand.tmp 1)), none, ann0⟩,
  ⟨(some 82), (Op.binOp BinOp.quo 3 (Operand.tmp 81) (Operand.const (Value.int IntKind.i64 3)) 3), none, ann0⟩,
  ⟨(some 83), (Op.binOp BinOp.sub 3 (Operand.tmp 80) (Operand.tmp 82) 3), none, ann0⟩,
  ⟨(some 84), (Op.move (Operand.tmp 2)), none, ann0⟩,
  ⟨(some 85), (Op.call { callee := (Callee.value (Operand.func 23)), args := #[(Operand.tmp 83), (Operand.tmp 84)], argTypes := #[3, 3] }), none, ann0⟩,
  ⟨(some 79), (Op.move (Operand.tmp 85)), none, ann0⟩,
  ⟨(some 86), (Op.extract (Operand.tmp 79) 0), none, ann0⟩,
  ⟨(some 87), (Op.extract (Operand.tmp 79) 1), none, ann0⟩,
  ⟨(some 14), (Op.assign (Operand.tmp 86)), none, ann0⟩,
  ⟨(some 15), (Op.assign (Operand.tmp 87)), none, ann0⟩] none) (.tidy [0, 1, 2, 7, 9, 10, 12, 13, 14, 15] z (z + 0)))
 (.seq (.post (.seq (.post (.reg [⟨(some 88), (Op.move (Operand.tmp 13)), none, ann0⟩,
  ⟨(some 89), (Op.binOp BinOp.neq 27 (Operand.tmp 88) (Operand.const (Value.int IntKind.i64 0)) 27), none, ann0⟩,
  ⟨(some 90), (Op.move (Operand.tmp 89)), none, ann0⟩,
  ⟨(some 91), (Op.move (Operand.tmp 15)), (some (90, false)), ann0⟩,
  ⟨(some 92), (Op.binOp BinOp.neq 27 (Operand.tmp 91) (Operand.const (Value.int IntKind.i64 0)) 27), (some (90, false)), ann0⟩,
  ⟨(some 93), (Op.pick (Operand.tmp 90) (Operand.const (Value.bool true)) (Operand.tmp 92)), none, ann0⟩,
  ⟨(some 94), (Op.move (Operand.tmp 93)), none, ann0⟩,
  ⟨(some 95), (Op.move (Operand.tmp 12)), (some (94, false)), ann0⟩,
  ⟨(some 96), (Op.move (Operand.tmp 14)), (some (94, false)), ann0⟩,
  ⟨(some 97), (Op.binOp BinOp.add 3 (Operand.tmp 95) (Operand.tmp 96) 3), (some (94, false)), ann0⟩,
  ⟨(some 98), (Op.move (Operand.tmp 7)), (some (94, false)), ann0⟩,
  ⟨(some 99), (Op.binOp BinOp.gtr 3 (Operand.tmp 97) (Operand.tmp 98) 3), (some (94, false)), ann0⟩,
  ⟨(some 100), (Op.pick (Operand.tmp 94) (Operand.const (Value.bool true)) (Operand.tmp 99)), none, ann0⟩,
  ⟨(some 101), (Op.move (Operand.tmp 100)), none, ann0⟩,
  ⟨(some 102), (Op.move (Operand.tmp 12)), (some (101, false)), ann0⟩,
  ⟨(some 103), (Op.move (Operand.tmp 14)), (some (101, false)), ann0⟩,
  ⟨(some 104), (Op.binOp BinOp.add 3 (Operand.tmp 102) (Operand.tmp 103) 3), (some (101, false)), ann0⟩,
  ⟨(some 105), (Op.binOp BinOp.add 3 (Operand.tmp 104) (Operand.const (Value.int IntKind.i64 1)) 3), (some (101, false)), ann0⟩,
  ⟨(some 106), (Op.move (Operand.tmp 7)), (some (101, false)), ann0⟩,
  ⟨(some 107), (Op.binOp BinOp.lss 3 (Operand.tmp 105) (Operand.tmp 106) 3), (some (101, false)), ann0⟩,
  ⟨(some 108), (Op.pick (Operand.tmp 101) (Operand.const (Value.bool true)) (Operand.tmp 107)), none, ann0⟩] none) (.tidy [0, 1, 2, 9, 10, 108] z (z + 0)))
 (.cond (Operand.tmp 108) (.seq (.reg [⟨(some 6), (Op.assign (Operand.const (Value.bool false))), none, ann0⟩] none)
 .ret)
 .skip)) (.tidy [0, 1, 2, 9, 10] z (z + 0)))
 (.seq (.post (.seq (.post (.reg [⟨(some 109), (Op.move (Operand.tmp 0)), none, ann0⟩,
  ⟨(some 110), (Op.binOp BinOp.lss 3 (Operand.tmp 109) (Operand.const (Value.int IntKind.i64 0)) 3), none, ann0⟩,
  ⟨(some 111), (Op.move (Operand.tmp 110)), none, ann0⟩,
  ⟨(some 112), (Op.move (Operand.tmp 0)), (some (111, false)), ann0⟩,
  ⟨(some 113), (Op.move (Operand.tmp 1)), (some (111, false)), ann0⟩,
  ⟨(some 114), (Op.binOp BinOp.gtr 3 (Operand.tmp 112) (Operand.tmp 113) 3), (some (111, false)), ann0⟩,
  ⟨(some 115), (Op.pick (Operand.tmp 111) (Operand.const (Value.bool true)) (Operand.tmp 114)), none, ann0⟩] none) (.tidy [0, 1, 2, 9, 10, 115] z (z + 0)))
 (.cond (Operand.tmp 115) (.seq (.reg [⟨(some 116), (Op.move (Operand.tmp 10)), none, ann0⟩,
  ⟨(some 117), (Op.binOp BinOp.eql 27 (Operand.tmp 116) (Operand.const (Value.int IntKind.i64 2)) 27), none, ann0⟩,
  ⟨(some 118), (Op.move (Operand.tmp 117)), none, ann0⟩,
  ⟨(some 119), (Op.move (Operand.tmp 9)), (some (118, true)), ann0⟩,
  ⟨(some 120), (Op.binOp BinOp.eql 3 (Operand.tmp 119) (Operand.const (Value.int IntKind.i64 0)) 3), (some (118, true)), ann0⟩,
  ⟨(some 121), (Op.pick (Operand.tmp 118) (Operand.tmp 120) (Operand.const (Value.bool false))), none, ann0⟩,
  ⟨(some 6), (Op.assign (Operand.tmp 121)), none, ann0⟩] none)
 .ret)
 .skip)) (.tidy [0, 1, 2, 9, 10] z (z + 0)))
 (.seq (.reg [⟨(some 122), (Op.move (Operand.tmp 10)), none, ann0⟩,
  ⟨(some 123), (Op.binOp BinOp.eql 27 (Operand.tmp 122) (Operand.const (Value.int IntKind.i64 0)) 27), none, ann0⟩,
  ⟨(some 124), (Op.move (Operand.tmp 123)), none, ann0⟩,
  ⟨(some 125), (Op.move (Operand.tmp 9)), (some (124, true)), ann0⟩,
  ⟨(some 126), (Op.move (Operand.tmp 0)), (some (124, true)), ann0⟩,
  ⟨(some 127), (Op.move (Operand.tmp 1)), (some (124, true)), ann0⟩,
  ⟨(some 128), (Op.move (Operand.tmp 2)), (some (124, true)), ann0⟩,
  ⟨(some 129), (Op.call { callee := (Callee.value (Operand.func 25)), args := #[(Operand.tmp 126), (Operand.tmp 127), (Operand.tmp 128)], argTypes := #[3, 3, 3] }), (some (124, true)), ann0⟩,
  ⟨(some 130), (Op.binOp BinOp.eql 3 (Operand.tmp 125) (Operand.tmp 129) 3), (some (124, true)), ann0⟩,
  ⟨(some 131), (Op.pick (Operand.tmp 124) (Operand.tmp 130) (Operand.const (Value.bool false))), none, ann0⟩,
  ⟨(some 6), (Op.assign (Operand.tmp 131)), none, ann0⟩] none)
 .ret))))))))))))⟩
theorem F5 (z : Nat) : FOk Try.prog 5 (s5 z) := by unfold FOk; kernel_rfl
/-- sleuth/sleuthlaw49.AlertStates -/
def s6 (z : Nat) : SFn := ⟨2, 37, [(ResultVar.tmp 4)],
 (.seq (.reg [⟨(some 2), (Op.box 25 (Operand.tmp 0)), none, ⟨1, false, false⟩⟩,
  ⟨(some 3), (Op.box 52 (Operand.tmp 1)), none, ⟨1, false, false⟩⟩,
  ⟨(some 4), (Op.assign (Operand.const (Value.bool false))), none, ann0⟩] none)
 (.seq (.seq (.reg [⟨(some 9), (Op.call { callee := (Callee.value (Operand.func 13)), args := #[], argTypes := #[] }), none, ann0⟩,
  ⟨(some 10), (Op.unOp UnOp.not 4 (Operand.tmp 9)), none, ann0⟩] none)
 (.cond (Operand.tmp 10) (.seq (.reg [⟨(some 4), (Op.assign (Operand.const (Value.bool false))), none, ann0⟩] none)
 .ret)
 .skip))
 (.seq (.post (.reg [⟨(some 12), (Op.load 52 (Operand.tmp 3)), none, ann0⟩,
  ⟨(some 13), (Op.call { callee := (Callee.value (Operand.func 26)), args := #[(Operand.tmp 12)], argTypes := #[52] }), none, ann0⟩,
  ⟨(some 11), (Op.move (Operand.tmp 13)), none, ann0⟩,
  ⟨(some 14), (Op.extract (Operand.tmp 11) 0), none, ann0⟩,
  ⟨(some 15), (Op.extract (Operand.tmp 11) 1), none, ann0⟩,
  ⟨(some 5), (Op.alloc 35), none, ⟨1, false, false⟩⟩,
  ⟨(some 6), (Op.alloc 35), none, ⟨1, false, false⟩⟩,
  ⟨none, (Op.store 35 (Operand.tmp 5) (Operand.tmp 14)), none, ann0⟩,
  ⟨none, (Op.store 35 (Operand.tmp 6) (Operand.tmp 15)), none, ann0⟩] none) (.tidy [2, 5, 6] z (z + 4)))
 (.seq (.post (.reg [⟨(some 17), (Op.load 25 (Operand.tmp 2)), none, ann0⟩,
  ⟨(some 18), (Op.call { callee := (Callee.value (Operand.func 16)), args := #[(Operand.tmp 17)], argTypes := #[25] }), none, ann0⟩,
  ⟨(some 19), (Op.load 35 (Operand.tmp 5)), none, ann0⟩,
  ⟨(some 20), (Op.load 35 (Operand.tmp 6)), none, ann0⟩,
  ⟨(some 21), (Op.call { callee := (Callee.value (Operand.func 18)), args := #[(Operand.tmp 18), (Operand.tmp 19), (Operand.tmp 20)], argTypes := #[23, 35, 35] }), none, ann0⟩,
  ⟨(some 16), (Op.move (Operand.tmp 21)), none, ann0⟩,
  ⟨(some 22), (Op.extract (Operand.tmp 16) 0), none, ann0⟩,
  ⟨(some 23), (Op.extract (Operand.tmp 16) 1), none, ann0⟩,
  ⟨(some 7), (Op.assign (Operand.tmp 22)), none, ann0⟩,
  ⟨(some 8), (Op.assign (Operand.tmp 23)), none, ann0⟩] (some [0, 1, 0, 0, 15, 31, 63, 63, 127, 511])) (.tidy [2, 5, 6, 7, 8] z (z + 4)))
 (.seq (.reg [⟨(some 24), (Op.move (Operand.tmp 8)), none, ann0⟩,
  ⟨(some 25), (Op.binOp BinOp.eql 27 (Operand.tmp 24) (Operand.const (Value.int IntKind.i64 0)) 27), none, ann0⟩,
  ⟨(some 26), (Op.move (Operand.tmp 25)), none, ann0⟩,
  ⟨(some 27), (Op.move (Operand.tmp 7)), (some (26, true)), ann0⟩,
  ⟨(some 28), (Op.load 25 (Operand.tmp 2)), (some (26, true)), ann0⟩,
  ⟨(some 29), (Op.call { callee := (Callee.value (Operand.func 16)), args := #[(Operand.tmp 28)], argTypes := #[25] }), (some (26, true)), ann0⟩,
  ⟨(some 30), (Op.fieldAddr 35 (Operand.tmp 5) 5), (some (26, true)), ann0⟩,
  ⟨(some 31), (Op.load 33 (Operand.tmp 30)), (some (26, true)), ann0⟩,
  ⟨(some 32), (Op.fieldAddr 35 (Operand.tmp 6) 5), (some (26, true)), ann0⟩,
  ⟨(some 33), (Op.load 33 (Operand.tmp 32)), (some (26, true)), ann0⟩,
  ⟨(some 34), (Op.call { callee := (Callee.value (Operand.func 22)), args := #[(Operand.tmp 29), (Operand.tmp 31), (Operand.tmp 33)], argTypes := #[23, 33, 33] }), (some (26, true)), ann0⟩,
  ⟨(some 35), (Op.call { callee := (Callee.value (Operand.func 21)), args := #[(Operand.tmp 27), (Operand.tmp 34)], argTypes := #[33, 33] }), (some (26, true)), ann0⟩,
  ⟨(some 36), (Op.pick (Operand.tmp 26) (Operand.tmp 35) (Operand.const (Value.bool false))), none, ann0⟩,
  ⟨(some 4), (Op.assign (Operand.tmp 36)), none, ann0⟩] (some [0, 1, 3, 7, 7, 23, 7, 71, 7, 263, 1015, 2047, 4095, 8191]))
 .ret)))))⟩
theorem F6 (z : Nat) : FOk Try.prog 6 (s6 z) := by unfold FOk; kernel_rfl
/-- slots: 2 , 3 , 7 , 8 , 9 , 10 , 11 ; objects: z + 5 -/
def c7_1 (z : Nat) : SC := .post (.seq (.post (.seq (.reg [⟨(some 31), (Op.move (Operand.tmp 11)), none, ann0⟩,
  ⟨(some 32), (Op.move (Operand.tmp 9)), none, ann0⟩,
  ⟨(some 33), (Op.call { callee := (Callee.builtin Builtin.len), args := #[(Operand.tmp 32)], argTypes := #[33] }), none, ann0⟩,
  ⟨(some 34), (Op.binOp BinOp.lss 3 (Operand.tmp 31) (Operand.tmp 33) 3), none, ann0⟩] none)
 (.cond (Operand.tmp 34) .skip
 (.exit 0))) (.tidy [2, 3, 7, 8, 9, 10, 11] z (z + 5)))
 (.seq (.post (.block 1 (.seq (.post (.seq (.reg [⟨(some 37), (Op.move (Operand.tmp 9)), none, ann0⟩,
  ⟨(some 38), (Op.move (Operand.tmp 11)), none, ann0⟩,
  ⟨(some 39), (Op.indexAddr 33 (Operand.tmp 37) (Operand.tmp 38)), none, ann0⟩,
  ⟨(some 40), (Op.load 3 (Operand.tmp 39)), none, ann0⟩,
  ⟨(some 41), (Op.binOp BinOp.eql 3 (Operand.tmp 40) (Operand.const (Value.int IntKind.i64 0)) 3), none, ann0⟩] none)
 (.cond (Operand.tmp 41) (.exit 1)
 .skip)) (.tidy [2, 3, 7, 8, 9, 10, 11] z (z + 5)))
 (.seq (.post (.seq (.post (.reg [⟨(some 42), (Op.move (Operand.tmp 11)), none, ann0⟩,
  ⟨(some 43), (Op.binOp BinOp.eql 3 (Operand.tmp 42) (Operand.const (Value.int IntKind.i64 0)) 3), none, ann0⟩,
  ⟨(some 44), (Op.move (Operand.tmp 43)), none, ann0⟩,
  ⟨(some 45), (Op.move (Operand.tmp 9)), (some (44, false)), ann0⟩,
  ⟨(some 46), (Op.move (Operand.tmp 11)), (some (44, false)), ann0⟩,
  ⟨(some 47), (Op.binOp BinOp.sub 3 (Operand.tmp 46) (Operand.const (Value.int IntKind.i64 1)) 3), (some (44, false)), ann0⟩,
  ⟨(some 48), (Op.indexAddr 33 (Operand.tmp 45) (Operand.tmp 47)), (some (44, false)), ann0⟩,
  ⟨(some 49), (Op.load 3 (Operand.tmp 48)), (some (44, false)), ann0⟩,
  ⟨(some 50), (Op.binOp BinOp.eql 3 (Operand.tmp 49) (Operand.const (Value.int IntKind.i64 0)) 3), (some (44, false)), ann0⟩,
  ⟨(some 51), (Op.pick (Operand.tmp 44) (Operand.const (Value.bool true)) (Operand.tmp 50)), none, ann0⟩] none) (.tidy [2, 3, 7, 8, 9, 10, 11, 51] z (z + 5)))
 (.cond (Operand.tmp 51) (.reg [⟨(some 52), (Op.move (Operand.tmp 10)), none, ann0⟩,
  ⟨(some 53), (Op.fieldAddr 35 (Operand.tmp 7) 4), none, ann0⟩,
  ⟨(some 54), (Op.load 3 (Operand.tmp 53)), none, ann0⟩,
  ⟨(some 55), (Op.move (Operand.tmp 11)), none, ann0⟩,
  ⟨(some 56), (Op.binOp BinOp.add 3 (Operand.tmp 54) (Operand.tmp 55) 3), none, ann0⟩,
  ⟨(some 57), (Op.build 57 #[(0, (Operand.tmp 56)), (2, (Operand.const (Value.int IntKind.i64 (-1))))]), none, ann0⟩,
  ⟨(some 58), (Op.buildSlice 39 1 #[(0, (Operand.tmp 57))]), none, ⟨1, true, false⟩⟩,
  ⟨(some 59), (Op.call { callee := (Callee.builtin Builtin.append), args := #[(Operand.tmp 52), (Operand.tmp 58)], argTypes := #[39, 39] }), none, ann0⟩,
  ⟨(some 10), (Op.assign (Operand.tmp 59)), none, ann0⟩] none)
 .skip)) (.tidy [2, 3, 7, 8, 9, 10, 11] z (z + 6)))
 (.seq (.reg [⟨(some 60), (Op.move (Operand.tmp 10)), none, ann0⟩,
  ⟨(some 61), (Op.call { callee := (Callee.builtin Builtin.len), args := #[(Operand.tmp 60)], argTypes := #[39] }), none, ann0⟩,
  ⟨(some 62), (Op.binOp BinOp.sub 3 (Operand.tmp 61) (Operand.const (Value.int IntKind.i64 1)) 3), none, ann0⟩,
  ⟨(some 12), (Op.assign (Operand.tmp 62)), none, ann0⟩] none)
 (.seq (.post (.reg [⟨(some 63), (Op.move (Operand.tmp 10)), none, ann0⟩,
  ⟨(some 64), (Op.move (Operand.tmp 12)), none, ann0⟩,
  ⟨(some 65), (Op.fieldAddr 35 (Operand.tmp 7) 4), none, ann0⟩,
  ⟨(some 66), (Op.load 3 (Operand.tmp 65)), none, ann0⟩,
  ⟨(some 67), (Op.move (Operand.tmp 11)), none, ann0⟩,
  ⟨(some 68), (Op.binOp BinOp.add 3 (Operand.tmp 66) (Operand.tmp 67) 3), none, ann0⟩,
  ⟨(some 69), (Op.binOp BinOp.add 3 (Operand.tmp 68) (Operand.const (Value.int IntKind.i64 1)) 3), none, ann0⟩,
  ⟨(some 70), (Op.indexAddr 39 (Operand.tmp 63) (Operand.tmp 64)), none, ann0⟩,
  ⟨(some 71), (Op.fieldAddr 57 (Operand.tmp 70) 1), none, ann0⟩,
  ⟨none, (Op.store 3 (Operand.tmp 71) (Operand.tmp 69)), none, ann0⟩] none) (.tidy [2, 3, 7, 8, 9, 10, 11, 12] z (z + 6)))
 (.seq (.post (.reg [⟨(some 72), (Op.move (Operand.tmp 9)), none, ann0⟩,
  ⟨(some 73), (Op.move (Operand.tmp 11)), none, ann0⟩,
  ⟨(some 74), (Op.indexAddr 33 (Operand.tmp 72) (Operand.tmp 73)), none, ann0⟩,
  ⟨(some 75), (Op.load 3 (Operand.tmp 74)), none, ann0⟩,
  ⟨(some 76), (Op.binOp BinOp.eql 3 (Operand.tmp 75) (Operand.const (Value.int IntKind.i64 2)) 3), none, ann0⟩,
  ⟨(some 77), (Op.move (Operand.tmp 76)), none, ann0⟩,
  ⟨(some 78), (Op.move (Operand.tmp 10)), (some (77, true)), ann0⟩,
  ⟨(some 79), (Op.move (Operand.tmp 12)), (some (77, true)), ann0⟩,
  ⟨(some 80), (Op.indexAddr 39 (Operand.tmp 78) (Operand.tmp 79)), (some (77, true)), ann0⟩,
  ⟨(some 81), (Op.fieldAddr 57 (Operand.tmp 80) 2), (some (77, true)), ann0⟩,
  ⟨(some 82), (Op.load 3 (Operand.tmp 81)), (some (77, true)), ann0⟩,
  ⟨(some 83), (Op.binOp BinOp.lss 3 (Operand.tmp 82) (Operand.const (Value.int IntKind.i64 0)) 3), (some (77, true)), ann0⟩,
  ⟨(some 84), (Op.pick (Operand.tmp 77) (Operand.tmp 83) (Operand.const (Value.bool false))), none, ann0⟩] none) (.tidy [2, 3, 7, 8, 9, 10, 11, 12, 84] z (z + 6)))
 (.cond (Operand.tmp 84) (.reg [⟨(some 85), (Op.move (Operand.tmp 10)), none, ann0⟩,
  ⟨(some 86), (Op.move (Operand.tmp 12)), none, ann0⟩,
  ⟨(some 87), (Op.fieldAddr 35 (Operand.tmp 7) 4), none, ann0⟩,
  ⟨(some 88), (Op.load 3 (Operand.tmp 87)), none, ann0⟩,
  ⟨(some 89), (Op.move (Operand.tmp 11)), none, ann0⟩,
  ⟨(some 90), (Op.binOp BinOp.add 3 (Operand.tmp 88) (Operand.tmp 89) 3), none, ann0⟩,
  ⟨(some 91), (Op.indexAddr 39 (Operand.tmp 85) (Operand.tmp 86)), none, ann0⟩,
  ⟨(some 92), (Op.fieldAddr 57 (Operand.tmp 91) 2), none, ann0⟩,
  ⟨none, (Op.store 3 (Operand.tmp 92) (Operand.tmp 90)), none, ann0⟩] none)
 .skip))))))) (.tidy [2, 3, 7, 8, 9, 10, 11] z (z + 6)))
 (.reg [⟨(some 35), (Op.move (Operand.tmp 11)), none, ann0⟩,
  ⟨(some 36), (Op.binOp BinOp.add 3 (Operand.tmp 35) (Operand.const (Value.int IntKind.i64 1)) 3), none, ann0⟩,
  ⟨(some 11), (Op.assign (Operand.tmp 36)), none, ann0⟩] none))) (.tidy [2, 3, 7, 8, 9, 10, 11] z (z + 5))
def s7_1 (z : Nat) : SC := c7_1 z
theorem e7_1 {C : Pg} {z : Nat} {st : St} {ks : List Fr} {K : Ex → St → Prop} : wpk C (s7_1 z) st ks K ↔ wpk C (c7_1 z) st ks K := Iff.rfl
/-- slots: 2 , 3 , 7 , 8 , 10 , 13 , 14 , 16 ; objects: z + 5 -/
def c7_3 (z : Nat) : SC := .post (.seq (.post (.seq (.reg [⟨(some 114), (Op.move (Operand.tmp 16)), none, ann0⟩,
  ⟨(some 115), (Op.move (Operand.tmp 14)), none, ann0⟩,
  ⟨(some 116), (Op.call { callee := (Callee.builtin Builtin.len), args := #[(Operand.tmp 115)], argTypes := #[39] }), none, ann0⟩,
  ⟨(some 117), (Op.binOp BinOp.lss 3 (Operand.tmp 114) (Operand.tmp 116) 3), none, ann0⟩] none)
 (.cond (Operand.tmp 117) .skip
 (.exit 4))) (.tidy [2, 3, 7, 8, 10, 13, 14, 16] z (z + 5)))
 (.seq (.post (.block 5 (.seq (.post (.seq (.post (.reg [⟨(some 120), (Op.move (Operand.tmp 14)), none, ann0⟩,
  ⟨(some 121), (Op.move (Operand.tmp 16)), none, ann0⟩,
  ⟨(some 122), (Op.indexAddr 39 (Operand.tmp 120) (Operand.tmp 121)), none, ann0⟩,
  ⟨(some 123), (Op.load 57 (Operand.tmp 122)), none, ann0⟩,
  ⟨(some 124), (Op.move (Operand.tmp 10)), none, ann0⟩,
  ⟨(some 125), (Op.move (Operand.tmp 16)), none, ann0⟩,
  ⟨(some 126), (Op.indexAddr 39 (Operand.tmp 124) (Operand.tmp 125)), none, ann0⟩,
  ⟨(some 127), (Op.load 57 (Operand.tmp 126)), none, ann0⟩,
  ⟨(some 128), (Op.binOp BinOp.neq 57 (Operand.tmp 123) (Operand.tmp 127) 57), none, ann0⟩] (some [0, 0, 3, 7, 0, 0, 48, 112, 255])) (.tidy [2, 3, 7, 8, 10, 13, 14, 16, 128] z (z + 5)))
 (.cond (Operand.tmp 128) (.seq (.reg [⟨(some 6), (Op.assign (Operand.const (Value.bool false))), none, ann0⟩] none)
 .ret)
 .skip)) (.tidy [2, 3, 7, 8, 10, 13, 14, 16] z (z + 5)))
 (.seq (.post (.reg [⟨(some 129), (Op.move (Operand.tmp 10)), none, ann0⟩,
  ⟨(some 130), (Op.move (Operand.tmp 16)), none, ann0⟩,
  ⟨(some 131), (Op.move (Operand.tmp 10)), none, ann0⟩,
  ⟨(some 132), (Op.move (Operand.tmp 16)), none, ann0⟩,
  ⟨(some 133), (Op.move (Operand.tmp 10)), none, ann0⟩,
  ⟨(some 134), (Op.move (Operand.tmp 16)), none, ann0⟩,
  ⟨(some 135), (Op.indexAddr 39 (Operand.tmp 133) (Operand.tmp 134)), none, ann0⟩,
  ⟨(some 136), (Op.fieldAddr 57 (Operand.tmp 135) 0), none, ann0⟩,
  ⟨(some 137), (Op.load 3 (Operand.tmp 136)), none, ann0⟩,
  ⟨(some 138), (Op.move (Operand.tmp 2)), none, ann0⟩,
  ⟨(some 139), (Op.convert 5 3 (Operand.tmp 138)), none, ann0⟩,
  ⟨(some 140), (Op.binOp BinOp.add 3 (Operand.tmp 137) (Operand.tmp 139) 3), none, ann0⟩,
  ⟨(some 141), (Op.move (Operand.tmp 10)), none, ann0⟩,
  ⟨(some 142), (Op.move (Operand.tmp 16)), none, ann0⟩,
  ⟨(some 143), (Op.indexAddr 39 (Operand.tmp 141) (Operand.tmp 142)), none, ann0⟩,
  ⟨(some 144), (Op.fieldAddr 57 (Operand.tmp 143) 1), none, ann0⟩,
  ⟨(some 145), (Op.load 3 (Operand.tmp 144)), none, ann0⟩,
  ⟨(some 146), (Op.move (Operand.tmp 2)), none, ann0⟩,
  ⟨(some 147), (Op.convert 5 3 (Operand.tmp 146)), none, ann0⟩,
  ⟨(some 148), (Op.binOp BinOp.add 3 (Operand.tmp 145) (Operand.tmp 147) 3), none, ann0⟩,
  ⟨(some 149), (Op.indexAddr 39 (Operand.tmp 129) (Operand.tmp 130)), none, ann0⟩,
  ⟨(some 150), (Op.fieldAddr 57 (Operand.tmp 149) 0), none, ann0⟩,
  ⟨none, (Op.store 3 (Operand.tmp 150) (Operand.tmp 140)), none, ann0⟩,
  ⟨(some 151), (Op.indexAddr 39 (Operand.tmp 131) (Operand.tmp 132)), none, ann0⟩,
  ⟨(some 152), (Op.fieldAddr 57 (Operand.tmp 151) 1), none, ann0⟩,
  ⟨none, (Op.store 3 (Operand.tmp 152) (Operand.tmp 148)), none, ann0⟩] (some [0, 0, 0, 0, 0, 0, 48, 112, 240, 0, 512, 2032, 0, 0, 12288, 28672, 61440, 0, 131072, 520192, 131059, 1179635, 3276787, 8388607, 16777215, 33554431])) (.tidy [2, 3, 7, 8, 10, 13, 14, 16] z (z + 5)))
 (.seq (.reg [⟨(some 153), (Op.move (Operand.tmp 10)), none, ann0⟩,
  ⟨(some 154), (Op.move (Operand.tmp 16)), none, ann0⟩,
  ⟨(some 155), (Op.indexAddr 39 (Operand.tmp 153) (Operand.tmp 154)), none, ann0⟩,
  ⟨(some 156), (Op.fieldAddr 57 (Operand.tmp 155) 2), none, ann0⟩,
  ⟨(some 157), (Op.load 3 (Operand.tmp 156)), none, ann0⟩,
  ⟨(some 158), (Op.binOp BinOp.geq 3 (Operand.tmp 157) (Operand.const (Value.int IntKind.i64 0)) 3), none, ann0⟩] none)
 (.cond (Operand.tmp 158) (.reg [⟨(some 159), (Op.move (Operand.tmp 10)), none, ann0⟩,
  ⟨(some 160), (Op.move (Operand.tmp 16)), none, ann0⟩,
  ⟨(some 161), (Op.move (Operand.tmp 10)), none, ann0⟩,
  ⟨(some 162), (Op.move (Operand.tmp 16)), none, ann0⟩,
  ⟨(some 163), (Op.indexAddr 39 (Operand.tmp 161) (Operand.tmp 162)), none, ann0⟩,
  ⟨(some 164), (Op.fieldAddr 57 (Operand.tmp 163) 2), none, ann0⟩,
  ⟨(some 165), (Op.load 3 (Operand.tmp 164)), none, ann0⟩,
  ⟨(some 166), (Op.move (Operand.tmp 2)), none, ann0⟩,
  ⟨(some 167), (Op.convert 5 3 (Operand.tmp 166)), none, ann0⟩,
  ⟨(some 168), (Op.binOp BinOp.add 3 (Operand.tmp 165) (Operand.tmp 167) 3), none, ann0⟩,
  ⟨(some 169), (Op.indexAddr 39 (Operand.tmp 159) (Operand.tmp 160)), none, ann0⟩,
  ⟨(some 170), (Op.fieldAddr 57 (Operand.tmp 169) 2), none, ann0⟩,
  ⟨none, (Op.store 3 (Operand.tmp 170) (Operand.tmp 168)), none, ann0⟩] none)
 .skip))))) (.tidy [2, 3, 7, 8, 10, 13, 14, 16] z (z + 5)))
 (.reg [⟨(some 118), (Op.move (Operand.tmp 16)), none, ann0⟩,
  ⟨(some 119), (Op.binOp BinOp.add 3 (Operand.tmp 118) (Operand.const (Value.int IntKind.i64 1)) 3), none, ann0⟩,
  ⟨(some 16), (Op.assign (Operand.tmp 119)), none, ann0⟩] none))) (.tidy [2, 3, 7, 8, 10, 13, 14, 16] z (z + 5))
def s7_3 (z : Nat) : SC := c7_3 z
theorem e7_3 {C : Pg} {z : Nat} {st : St} {ks : List Fr} {K : Ex → St → Prop} : wpk C (s7_3 z) st ks K ↔ wpk C (c7_3 z) st ks K := Iff.rfl
/-- slots: 2 , 3 , 7 , 8 , 10 , 13 ; objects: z + 5 -/
def c7_2 (z : Nat) : SC := .post (.seq (.seq (.reg [⟨(some 93), (Op.move (Operand.tmp 13)), none, ann0⟩,
  ⟨(some 94), (Op.binOp BinOp.lss 3 (Operand.tmp 93) (Operand.const (Value.int IntKind.i64 2)) 3), none, ann0⟩] none)
 (.cond (Operand.tmp 94) .skip
 (.exit 2)))
 (.seq (.post (.block 3 (.seq (.post (.reg [⟨(some 98), (Op.load 25 (Operand.tmp 3)), none, ann0⟩,
  ⟨(some 99), (Op.call { callee := (Callee.value (Operand.func 16)), args := #[(Operand.tmp 98)], argTypes := #[25] }), none, ann0⟩,
  ⟨(some 100), (Op.load 35 (Operand.tmp 7)), none, ann0⟩,
  ⟨(some 101), (Op.load 35 (Operand.tmp 8)), none, ann0⟩,
  ⟨(some 102), (Op.call { callee := (Callee.value (Operand.func 19)), args := #[(Operand.tmp 99), (Operand.tmp 100), (Operand.tmp 101)], argTypes := #[23, 35, 35] }), none, ann0⟩,
  ⟨(some 97), (Op.move (Operand.tmp 102)), none, ann0⟩,
  ⟨(some 103), (Op.extract (Operand.tmp 97) 0), none, ann0⟩,
  ⟨(some 104), (Op.extract (Operand.tmp 97) 1), none, ann0⟩,
  ⟨(some 14), (Op.assign (Operand.tmp 103)), none, ann0⟩,
  ⟨(some 15), (Op.assign (Operand.tmp 104)), none, ann0⟩] (some [0, 1, 0, 0, 15, 31, 63, 63, 127, 511])) (.tidy [2, 3, 7, 8, 10, 13, 14, 15] z (z + 5)))
 (.seq (.post (.seq (.post (.reg [⟨(some 105), (Op.move (Operand.tmp 15)), none, ann0⟩,
  ⟨(some 106), (Op.binOp BinOp.neq 27 (Operand.tmp 105) (Operand.const (Value.int IntKind.i64 0)) 27), none, ann0⟩,
  ⟨(some 107), (Op.move (Operand.tmp 106)), none, ann0⟩,
  ⟨(some 108), (Op.move (Operand.tmp 14)), (some (107, false)), ann0⟩,
  ⟨(some 109), (Op.call { callee := (Callee.builtin Builtin.len), args := #[(Operand.tmp 108)], argTypes := #[39] }), (some (107, false)), ann0⟩,
  ⟨(some 110), (Op.move (Operand.tmp 10)), (some (107, false)), ann0⟩,
  ⟨(some 111), (Op.call { callee := (Callee.builtin Builtin.len), args := #[(Operand.tmp 110)], argTypes := #[39] }), (some (107, false)), ann0⟩,
  ⟨(some 112), (Op.binOp BinOp.neq 3 (Operand.tmp 109) (Operand.tmp 111) 3), (some (107, false)), ann0⟩,
  ⟨(some 113), (Op.pick (Operand.tmp 107) (Operand.const (Value.bool true)) (Operand.tmp 112)), none, ann0⟩] none) (.tidy [2, 3, 7, 8, 10, 13, 14, 113] z (z + 5)))
 (.cond (Operand.tmp 113) (.seq (.reg [⟨(some 6), (Op.assign (Operand.const (Value.bool false))), none, ann0⟩] none)
 .ret)
 .skip)) (.tidy [2, 3, 7, 8, 10, 13, 14] z (z + 5)))
 (.seq (.post (.seq (.reg [⟨(some 16), (Op.assign (Operand.const (Value.int IntKind.i64 0))), none, ann0⟩] none)
 (.post (.block 4 (.pre (.tidy [2, 3, 7, 8, 10, 13, 14, 16] z (z + 5)) (.loop (s7_3 z)))) (.tidy [2, 3, 7, 8, 10, 13] z (z + 5)))) (.tidy [2, 3, 7, 8, 10, 13] z (z + 5)))
 (.reg [⟨(some 171), (Op.fieldAddr 35 (Operand.tmp 7) 4), none, ann0⟩,
  ⟨(some 172), (Op.load 3 (Operand.tmp 171)), none, ann0⟩,
  ⟨(some 173), (Op.move (Operand.tmp 2)), none, ann0⟩,
  ⟨(some 174), (Op.convert 5 3 (Operand.tmp 173)), none, ann0⟩,
  ⟨(some 175), (Op.binOp BinOp.add 3 (Operand.tmp 172) (Operand.tmp 174) 3), none, ann0⟩,
  ⟨(some 176), (Op.fieldAddr 35 (Operand.tmp 8) 4), none, ann0⟩,
  ⟨(some 177), (Op.load 3 (Operand.tmp 176)), none, ann0⟩,
  ⟨(some 178), (Op.move (Operand.tmp 2)), none, ann0⟩,
  ⟨(some 179), (Op.convert 5 3 (Operand.tmp 178)), none, ann0⟩,
  ⟨(some 180), (Op.binOp BinOp.add 3 (Operand.tmp 177) (Operand.tmp 179) 3), none, ann0⟩,
  ⟨(some 181), (Op.fieldAddr 35 (Operand.tmp 7) 4), none, ann0⟩,
  ⟨none, (Op.store 3 (Operand.tmp 181) (Operand.tmp 175)), none, ann0⟩,
  ⟨(some 182), (Op.fieldAddr 35 (Operand.tmp 8) 4), none, ann0⟩,
  ⟨none, (Op.store 3 (Operand.tmp 182) (Operand.tmp 180)), none, ann0⟩] (some [0, 1, 0, 4, 15, 0, 32, 0, 128, 480, 31, 1055, 4095, 8191])))))) (.tidy [2, 3, 7, 8, 10, 13] z (z + 5)))
 (.reg [⟨(some 95), (Op.move (Operand.tmp 13)), none, ann0⟩,
  ⟨(some 96), (Op.binOp BinOp.add 3 (Operand.tmp 95) (Operand.const (Value.int IntKind.i64 1)) 3), none, ann0⟩,
  ⟨(some 13), (Op.assign (Operand.tmp 96)), none, ann0⟩] none))) (.tidy [2, 3, 7, 8, 10, 13] z (z + 5))
def s7_2 (z : Nat) : SC := c7_2 z
theorem e7_2 {C : Pg} {z : Nat} {st : St} {ks : List Fr} {K : Ex → St → Prop} : wpk C (s7_2 z) st ks K ↔ wpk C (c7_2 z) st ks K := Iff.rfl
/-- sleuth/sleuthlaw49.AlertEpisodes -/
def s7 (z : Nat) : SFn := ⟨3, 183, [(ResultVar.tmp 6)],
 (.seq (.reg [⟨(some 3), (Op.box 25 (Operand.tmp 0)), none, ⟨1, false, false⟩⟩,
  ⟨(some 4), (Op.box 52 (Operand.tmp 1)), none, ⟨1, false, false⟩⟩,
  ⟨(some 6), (Op.assign (Operand.const (Value.bool false))), none, ann0⟩] none)
 (.seq (.seq (.reg [⟨(some 17), (Op.call { callee := (Callee.value (Operand.func 13)), args := #[], argTypes := #[] }), none, ann0⟩,
  ⟨(some 18), (Op.unOp UnOp.not 4 (Operand.tmp 17)), none, ann0⟩] none)
 (.cond (Operand.tmp 18) (.seq (.reg [⟨(some 6), (Op.assign (Operand.const (Value.bool false))), none, ann0⟩] none)
 .ret)
 .skip))
 (.seq (.post (.reg [⟨(some 20), (Op.load 52 (Operand.tmp 4)), none, ann0⟩,
  ⟨(some 21), (Op.call { callee := (Callee.value (Operand.func 26)), args := #[(Operand.tmp 20)], argTypes := #[52] }), none, ann0⟩,
  ⟨(some 19), (Op.move (Operand.tmp 21)), none, ann0⟩,
  ⟨(some 22), (Op.extract (Operand.tmp 19) 0), none, ann0⟩,
  ⟨(some 23), (Op.extract (Operand.tmp 19) 1), none, ann0⟩,
  ⟨(some 7), (Op.alloc 35), none, ⟨1, false, false⟩⟩,
  ⟨(some 8), (Op.alloc 35), none, ⟨1, false, false⟩⟩,
  ⟨none, (Op.store 35 (Operand.tmp 7) (Operand.tmp 22)), none, ann0⟩,
  ⟨none, (Op.store 35 (Operand.tmp 8) (Operand.tmp 23)), none, ann0⟩] none) (.tidy [2, 3, 7, 8] z (z + 4)))
 (.seq (.post (.reg [⟨(some 24), (Op.load 25 (Operand.tmp 3)), none, ann0⟩,
  ⟨(some 25), (Op.call { callee := (Callee.value (Operand.func 16)), args := #[(Operand.tmp 24)], argTypes := #[25] }), none, ann0⟩,
  ⟨(some 26), (Op.fieldAddr 35 (Operand.tmp 7) 5), none, ann0⟩,
  ⟨(some 27), (Op.load 33 (Operand.tmp 26)), none, ann0⟩,
  ⟨(some 28), (Op.fieldAddr 35 (Operand.tmp 8) 5), none, ann0⟩,
  ⟨(some 29), (Op.load 33 (Operand.tmp 28)), none, ann0⟩,
  ⟨(some 30), (Op.call { callee := (Callee.value (Operand.func 22)), args := #[(Operand.tmp 25), (Operand.tmp 27), (Operand.tmp 29)], argTypes := #[23, 33, 33] }), none, ann0⟩,
  ⟨(some 9), (Op.assign (Operand.tmp 30)), none, ann0⟩] (some [0, 1, 0, 4, 0, 16, 63, 127])) (.tidy [2, 3, 7, 8, 9] z (z + 4)))
 (.seq (.post (.reg [⟨(some 10), (Op.assign (Operand.const (Value.slice none 0 0))), none, ann0⟩] none) (.mkv 10 57 3))
 (.seq (.post (.seq (.reg [⟨(some 11), (Op.assign (Operand.const (Value.int IntKind.i64 0))), none, ann0⟩] none)
 (.post (.block 0 (.pre (.tidy [2, 3, 7, 8, 9, 10, 11] z (z + 5)) (.loop (s7_1 z)))) (.tidy [2, 3, 7, 8, 10] z (z + 5)))) (.tidy [2, 3, 7, 8, 10] z (z + 5)))
 (.seq (.post (.seq (.reg [⟨(some 13), (Op.assign (Operand.const (Value.int IntKind.i64 0))), none, ann0⟩] none)
 (.post (.block 2 (.pre (.tidy [2, 3, 7, 8, 10, 13] z (z + 5)) (.loop (s7_2 z)))) (.tidy [] z (z + 5)))) (.tidy [] z (z + 5)))
 (.seq (.reg [⟨(some 6), (Op.assign (Operand.const (Value.bool true))), none, ann0⟩] none)
 .ret))))))))⟩
theorem F7 (z : Nat) : FOk Try.prog 7 (s7 z) := by unfold FOk; kernel_rfl
/-- slots: 10 s, 14 a, 16 b, 18 i; objects: z + 8 -/
def c8_1 (z : Nat) : SC := .post (.seq (.post (.seq (.reg [⟨(some 90), (Op.move (Operand.tmp 18)), none, ann0⟩,
  ⟨(some 91), (Op.move (Operand.tmp 10)), none, ann0⟩,
  ⟨(some 92), (Op.call { callee := (Callee.builtin Builtin.len), args := #[(Operand.tmp 91)], argTypes := #[33] }), none, ann0⟩,
  ⟨(some 93), (Op.binOp BinOp.lss 3 (Operand.tmp 90) (Operand.tmp 92) 3), none, ann0⟩] none)
 (.cond (Operand.tmp 93) .skip
 (.exit 0))) (.tidy [10, 14, 16, 18] z (z + 8)))
 (.seq (.post (.block 1 (.seq (.post (.reg [⟨(some 96), (Op.move (Operand.tmp 14)), none, ann0⟩,
  ⟨(some 97), (Op.move (Operand.tmp 18)), none, ann0⟩,
  ⟨(some 98), (Op.indexAddr 33 (Operand.tmp 96) (Operand.tmp 97)), none, ann0⟩,
  ⟨(some 99), (Op.load 3 (Operand.tmp 98)), none, ann0⟩,
  ⟨(some 100), (Op.move (Operand.tmp 10)), none, ann0⟩,
  ⟨(some 101), (Op.move (Operand.tmp 18)), none, ann0⟩,
  ⟨(some 102), (Op.indexAddr 33 (Operand.tmp 100) (Operand.tmp 101)), none, ann0⟩,
  ⟨(some 103), (Op.load 3 (Operand.tmp 102)), none, ann0⟩,
  ⟨(some 104), (Op.binOp BinOp.gtr 3 (Operand.tmp 99) (Operand.tmp 103) 3), none, ann0⟩,
  ⟨(some 105), (Op.move (Operand.tmp 104)), none, ann0⟩,
  ⟨(some 106), (Op.move (Operand.tmp 16)), (some (105, false)), ann0⟩,
  ⟨(some 107), (Op.move (Operand.tmp 18)), (some (105, false)), ann0⟩,
  ⟨(some 108), (Op.indexAddr 33 (Operand.tmp 106) (Operand.tmp 107)), (some (105, false)), ann0⟩,
  ⟨(some 109), (Op.load 3 (Operand.tmp 108)), (some (105, false)), ann0⟩,
  ⟨(some 110), (Op.move (Operand.tmp 10)), (some (105, false)), ann0⟩,
  ⟨(some 111), (Op.move (Operand.tmp 18)), (some (105, false)), ann0⟩,
  ⟨(some 112), (Op.indexAddr 33 (Operand.tmp 110) (Operand.tmp 111)), (some (105, false)), ann0⟩,
  ⟨(some 113), (Op.load 3 (Operand.tmp 112)), (some (105, false)), ann0⟩,
  ⟨(some 114), (Op.binOp BinOp.gtr 3 (Operand.tmp 109) (Operand.tmp 113) 3), (some (105, false)), ann0⟩,
  ⟨(some 115), (Op.pick (Operand.tmp 105) (Operand.const (Value.bool true)) (Operand.tmp 114)), none, ann0⟩] (some [0, 0, 3, 7, 0, 0, 48, 112, 255, 511, 1023, 1023, 4095, 8191, 1023, 1023, 50175, 115711, 262143, 524287])) (.tidy [10, 14, 16, 18, 115] z (z + 8)))
 (.cond (Operand.tmp 115) (.seq (.reg [⟨(some 6), (Op.assign (Operand.const (Value.bool false))), none, ann0⟩] none)
 .ret)
 .skip))) (.tidy [10, 14, 16, 18] z (z + 8)))
 (.reg [⟨(some 94), (Op.move (Operand.tmp 18)), none, ann0⟩,
  ⟨(some 95), (Op.binOp BinOp.add 3 (Operand.tmp 94) (Operand.const (Value.int IntKind.i64 1)) 3), none, ann0⟩,
  ⟨(some 18), (Op.assign (Operand.tmp 95)), none, ann0⟩] none))) (.tidy [10, 14, 16, 18] z (z + 8))
def s8_1 (z : Nat) : SC := c8_1 z
theorem e8_1 {C : Pg} {z : Nat} {st : St} {ks : List Fr} {K : Ex → St → Prop} : wpk C (s8_1 z) st ks K ↔ wpk C (c8_1 z) st ks K := Iff.rfl
/-- sleuth/sleuthlaw49.AlertMonotone -/
def s8 (z : Nat) : SFn := ⟨3, 116, [(ResultVar.tmp 6)],
 (.seq (.reg [⟨(some 3), (Op.box 25 (Operand.tmp 0)), none, ⟨1, false, false⟩⟩,
  ⟨(some 4), (Op.box 52 (Operand.tmp 1)), none, ⟨1, false, false⟩⟩,
  ⟨(some 5), (Op.box 59 (Operand.tmp 2)), none, ⟨1, false, false⟩⟩,
  ⟨(some 6), (Op.assign (Operand.const (Value.bool false))), none, ann0⟩] none)
 (.seq (.seq (.reg [⟨(some 19), (Op.call { callee := (Callee.value (Operand.func 13)), args := #[], argTypes := #[] }), none, ann0⟩,
  ⟨(some 20), (Op.unOp UnOp.not 4 (Operand.tmp 19)), none, ann0⟩] none)
 (.cond (Operand.tmp 20) (.seq (.reg [⟨(some 6), (Op.assign (Operand.const (Value.bool false))), none, ann0⟩] none)
 .ret)
 .skip))
 (.seq (.post (.reg [⟨(some 22), (Op.load 52 (Operand.tmp 4)), none, ann0⟩,
  ⟨(some 23), (Op.call { callee := (Callee.value (Operand.func 26)), args := #[(Operand.tmp 22)], argTypes := #[52] }), none, ann0⟩,
  ⟨(some 21), (Op.move (Operand.tmp 23)), none, ann0⟩,
  ⟨(some 24), (Op.extract (Operand.tmp 21) 0), none, ann0⟩,
  ⟨(some 25), (Op.extract (Operand.tmp 21) 1), none, ann0⟩,
  ⟨(some 7), (Op.alloc 35), none, ⟨1, false, false⟩⟩,
  ⟨(some 8), (Op.alloc 35), none, ⟨1, false, false⟩⟩,
  ⟨none, (Op.store 35 (Operand.tmp 7) (Operand.tmp 24)), none, ann0⟩,
  ⟨none, (Op.store 35 (Operand.tmp 8) (Operand.tmp 25)), none, ann0⟩] none) (.tidy [3, 5, 7, 8] z (z + 5)))
 (.seq (.reg [⟨(some 26), (Op.load 25 (Operand.tmp 3)), none, ann0⟩,
  ⟨(some 27), (Op.call { callee := (Callee.value (Operand.func 16)), args := #[(Operand.tmp 26)], argTypes := #[25] }), none, ann0⟩,
  ⟨(some 9), (Op.alloc 23), none, ⟨1, false, false⟩⟩,
  ⟨none, (Op.store 23 (Operand.tmp 9) (Operand.tmp 27)), none, ann0⟩] none)
 (.seq (.post (.reg [⟨(some 29), (Op.load 23 (Operand.tmp 9)), none, ann0⟩,
  ⟨(some 30), (Op.load 35 (Operand.tmp 7)), none, ann0⟩,
  ⟨(some 31), (Op.load 35 (Operand.tmp 8)), none, ann0⟩,
  ⟨(some 32), (Op.call { callee := (Callee.value (Operand.func 18)), args := #[(Operand.tmp 29), (Operand.tmp 30), (Operand.tmp 31)], argTypes := #[23, 35, 35] }), none, ann0⟩,
  ⟨(some 28), (Op.move (Operand.tmp 32)), none, ann0⟩,
  ⟨(some 33), (Op.extract (Operand.tmp 28) 0), none, ann0⟩,
  ⟨(some 34), (Op.extract (Operand.tmp 28) 1), none, ann0⟩,
  ⟨(some 10), (Op.assign (Operand.tmp 33)), none, ann0⟩,
  ⟨(some 11), (Op.assign (Operand.tmp 34)), none, ann0⟩] none) (.tidy [5, 7, 8, 9, 10, 11] z (z + 6)))
 (.seq (.reg [⟨(some 35), (Op.load 23 (Operand.tmp 9)), none, ann0⟩,
  ⟨(some 36), (Op.load 23 (Operand.tmp 9)), none, ann0⟩,
  ⟨(some 12), (Op.alloc 23), none, ⟨1, false, false⟩⟩,
  ⟨(some 13), (Op.alloc 23), none, ⟨1, false, false⟩⟩,
  ⟨none, (Op.store 23 (Operand.tmp 12) (Operand.tmp 35)), none, ann0⟩,
  ⟨none, (Op.store 23 (Operand.tmp 13) (Operand.tmp 36)), none, ann0⟩] (some [0, 0, 0, 0, 13, 31]))
 (.seq (.post (.reg [⟨(some 37), (Op.fieldAddr 23 (Operand.tmp 12) 6), none, ann0⟩,
  ⟨(some 38), (Op.load 3 (Operand.tmp 37)), none, ann0⟩,
  ⟨(some 39), (Op.indexAddr 59 (Operand.tmp 5) (Operand.const (Value.int IntKind.i64 0))), none, ann0⟩,
  ⟨(some 40), (Op.load 5 (Operand.tmp 39)), none, ann0⟩,
  ⟨(some 41), (Op.convert 5 3 (Operand.tmp 40)), none, ann0⟩,
  ⟨(some 42), (Op.binOp BinOp.add 3 (Operand.tmp 38) (Operand.tmp 41) 3), none, ann0⟩,
  ⟨(some 43), (Op.fieldAddr 23 (Operand.tmp 13) 7), none, ann0⟩,
  ⟨(some 44), (Op.load 3 (Operand.tmp 43)), none, ann0⟩,
  ⟨(some 45), (Op.indexAddr 59 (Operand.tmp 5) (Operand.const (Value.int IntKind.i64 1))), none, ann0⟩,
  ⟨(some 46), (Op.load 5 (Operand.tmp 45)), none, ann0⟩,
  ⟨(some 47), (Op.binOp BinOp.rem 5 (Operand.tmp 46) (Operand.const (Value.int IntKind.u8 100)) 5), none, ann0⟩,
  ⟨(some 48), (Op.convert 5 3 (Operand.tmp 47)), none, ann0⟩,
  ⟨(some 49), (Op.binOp BinOp.add 3 (Operand.tmp 44) (Operand.tmp 48) 3), none, ann0⟩,
  ⟨(some 50), (Op.fieldAddr 23 (Operand.tmp 12) 6), none, ann0⟩,
  ⟨none, (Op.store 3 (Operand.tmp 50) (Operand.tmp 42)), none, ann0⟩,
  ⟨(some 51), (Op.fieldAddr 23 (Operand.tmp 13) 7), none, ann0⟩,
  ⟨none, (Op.store 3 (Operand.tmp 51) (Operand.tmp 49)), none, ann0⟩] (some [0, 1, 0, 4, 12, 31, 0, 64, 0, 256, 768, 1792, 4032, 63, 8255, 32767, 65535])) (.tidy [7, 8, 10, 11, 12, 13] z (z + 8)))
 (.seq (.post (.reg [⟨(some 53), (Op.load 23 (Operand.tmp 12)), none, ann0⟩,
  ⟨(some 54), (Op.load 35 (Operand.tmp 7)), none, ann0⟩,
  ⟨(some 55), (Op.load 35 (Operand.tmp 8)), none, ann0⟩,
  ⟨(some 56), (Op.call { callee := (Callee.value (Operand.func 18)), args := #[(Operand.tmp 53), (Operand.tmp 54), (Operand.tmp 55)], argTypes := #[23, 35, 35] }), none, ann0⟩,
  ⟨(some 52), (Op.move (Operand.tmp 56)), none, ann0⟩,
  ⟨(some 57), (Op.extract (Operand.tmp 52) 0), none, ann0⟩,
  ⟨(some 58), (Op.extract (Operand.tmp 52) 1), none, ann0⟩,
  ⟨(some 14), (Op.assign (Operand.tmp 57)), none, ann0⟩,
  ⟨(some 15), (Op.assign (Operand.tmp 58)), none, ann0⟩] none) (.tidy [7, 8, 10, 11, 13, 14, 15] z (z + 8)))
 (.seq (.post (.reg [⟨(some 60), (Op.load 23 (Operand.tmp 13)), none, ann0⟩,
  ⟨(some 61), (Op.load 35 (Operand.tmp 7)), none, ann0⟩,
  ⟨(some 62), (Op.load 35 (Operand.tmp 8)), none, ann0⟩,
  ⟨(some 63), (Op.call { callee := (Callee.value (Operand.func 18)), args := #[(Operand.tmp 60), (Operand.tmp 61), (Operand.tmp 62)], argTypes := #[23, 35, 35] }), none, ann0⟩,
  ⟨(some 59), (Op.move (Operand.tmp 63)), none, ann0⟩,
  ⟨(some 64), (Op.extract (Operand.tmp 59) 0), none, ann0⟩,
  ⟨(some 65), (Op.extract (Operand.tmp 59) 1), none, ann0⟩,
  ⟨(some 16), (Op.assign (Operand.tmp 64)), none, ann0⟩,
  ⟨(some 17), (Op.assign (Operand.tmp 65)), none, ann0⟩] none) (.tidy [10, 11, 14, 15, 16, 17] z (z + 8)))
 (.seq (.post (.seq (.post (.reg [⟨(some 66), (Op.move (Operand.tmp 11)), none, ann0⟩,
  ⟨(some 67), (Op.binOp BinOp.neq 27 (Operand.tmp 66) (Operand.const (Value.int IntKind.i64 0)) 27), none, ann0⟩,
  ⟨(some 68), (Op.move (Operand.tmp 67)), none, ann0⟩,
  ⟨(some 69), (Op.move (Operand.tmp 15)), (some (68, false)), ann0⟩,
  ⟨(some 70), (Op.binOp BinOp.neq 27 (Operand.tmp 69) (Operand.const (Value.int IntKind.i64 0)) 27), (some (68, false)), ann0⟩,
  ⟨(some 71), (Op.pick (Operand.tmp 68) (Operand.const (Value.bool true)) (Operand.tmp 70)), none, ann0⟩,
  ⟨(some 72), (Op.move (Operand.tmp 71)), none, ann0⟩,
  ⟨(some 73), (Op.move (Operand.tmp 17)), (some (72, false)), ann0⟩,
  ⟨(some 74), (Op.binOp BinOp.neq 27 (Operand.tmp 73) (Operand.const (Value.int IntKind.i64 0)) 27), (some (72, false)), ann0⟩,
  ⟨(some 75), (Op.pick (Operand.tmp 72) (Operand.const (Value.bool true)) (Operand.tmp 74)), none, ann0⟩,
  ⟨(some 76), (Op.move (Operand.tmp 75)), none, ann0⟩,
  ⟨(some 77), (Op.move (Operand.tmp 14)), (some (76, false)), ann0⟩,
  ⟨(some 78), (Op.call { callee := (Callee.builtin Builtin.len), args := #[(Operand.tmp 77)], argTypes := #[33] }), (some (76, false)), ann0⟩,
  ⟨(some 79), (Op.move (Operand.tmp 10)), (some (76, false)), ann0⟩,
  ⟨(some 80), (Op.call { callee := (Callee.builtin Builtin.len), args := #[(Operand.tmp 79)], argTypes := #[33] }), (some (76, false)), ann0⟩,
  ⟨(some 81), (Op.binOp BinOp.neq 3 (Operand.tmp 78) (Operand.tmp 80) 3), (some (76, false)), ann0⟩,
  ⟨(some 82), (Op.pick (Operand.tmp 76) (Operand.const (Value.bool true)) (Operand.tmp 81)), none, ann0⟩,
  ⟨(some 83), (Op.move (Operand.tmp 82)), none, ann0⟩,
  ⟨(some 84), (Op.move (Operand.tmp 16)), (some (83, false)), ann0⟩,
  ⟨(some 85), (Op.call { callee := (Callee.builtin Builtin.len), args := #[(Operand.tmp 84)], argTypes := #[33] }), (some (83, false)), ann0⟩,
  ⟨(some 86), (Op.move (Operand.tmp 10)), (some (83, false)), ann0⟩,
  ⟨(some 87), (Op.call { callee := (Callee.builtin Builtin.len), args := #[(Operand.tmp 86)], argTypes := #[33] }), (some (83, false)), ann0⟩,
  ⟨(some 88), (Op.binOp BinOp.neq 3 (Operand.tmp 85) (Operand.tmp 87) 3), (some (83, false)), ann0⟩,
  ⟨(some 89), (Op.pick (Operand.tmp 83) (Operand.const (Value.bool true)) (Operand.tmp 88)), none, ann0⟩] none) (.tidy [10, 14, 16, 89] z (z + 8)))
 (.cond (Operand.tmp 89) (.seq (.reg [⟨(some 6), (Op.assign (Operand.const (Value.bool false))), none, ann0⟩] none)
 .ret)
 .skip)) (.tidy [10, 14, 16] z (z + 8)))
 (.seq (.post (.seq (.reg [⟨(some 18), (Op.assign (Operand.const (Value.int IntKind.i64 0))), none, ann0⟩] none)
 (.post (.block 0 (.pre (.tidy [10, 14, 16, 18] z (z + 8)) (.loop (s8_1 z)))) (.tidy [] z (z + 8)))) (.tidy [] z (z + 8)))
 (.seq (.reg [⟨(some 6), (Op.assign (Operand.const (Value.bool true))), none, ann0⟩] none)
 .ret))))))))))))⟩
theorem F8 (z : Nat) : FOk Try.prog 8 (s8 z) := by unfold FOk; kernel_rfl
/-- slots: 2 target, 3 errors, 11 sum, 36 , 37 , 38 ; objects: z + 3 -/
def c27_1 (z : Nat) : SC := .post (.seq (.reg [⟨(some 39), (Op.binOp BinOp.lss 3 (Operand.tmp 38) (Operand.tmp 37) 3), none, ann0⟩] none)
 (.seq (.cond (Operand.tmp 39) .skip
 (.exit 0))
 (.seq (.post (.block 1 (.seq (.reg [⟨(some 40), (Op.indexAddr 33 (Operand.tmp 36) (Operand.tmp 38)), none, ann0⟩,
  ⟨(some 41), (Op.load 3 (Operand.tmp 40)), none, ann0⟩,
  ⟨(some 13), (Op.assign (Operand.tmp 41)), none, ann0⟩] none)
 (.reg [⟨(some 42), (Op.move (Operand.tmp 11)), none, ann0⟩,
  ⟨(some 43), (Op.move (Operand.tmp 13)), none, ann0⟩,
  ⟨(some 44), (Op.binOp BinOp.add 3 (Operand.tmp 42) (Operand.tmp 43) 3), none, ann0⟩,
  ⟨(some 11), (Op.assign (Operand.tmp 44)), none, ann0⟩] none))) (.tidy [2, 3, 11, 36, 37, 38] z (z + 3)))
 (.reg [⟨(some 45), (Op.binOp BinOp.add 3 (Operand.tmp 38) (Operand.const (Value.int IntKind.i64 1)) 3), none, ann0⟩,
  ⟨(some 38), (Op.move (Operand.tmp 45)), none, ann0⟩] none)))) (.tidy [2, 3, 11, 36, 37, 38] z (z + 3))
def s27_1 (z : Nat) : SC := c27_1 z
theorem e27_1 {C : Pg} {z : Nat} {st : St} {ks : List Fr} {K : Ex → St → Prop} : wpk C (s27_1 z) st ks K ↔ wpk C (c27_1 z) st ks K := Iff.rfl
/-- slots: 3 errors, 14 budget, 16 spent, 56 , 57 , 58 ; objects: z + 3 -/
def c27_2 (z : Nat) : SC := .post (.seq (.reg [⟨(some 59), (Op.binOp BinOp.lss 3 (Operand.tmp 58) (Operand.tmp 57) 3), none, ann0⟩] none)
 (.seq (.cond (Operand.tmp 59) .skip
 (.exit 2))
 (.seq (.post (.block 3 (.seq (.reg [⟨(some 60), (Op.move (Operand.tmp 58)), none, ann0⟩,
  ⟨(some 61), (Op.indexAddr 33 (Operand.tmp 56) (Operand.tmp 58)), none, ann0⟩,
  ⟨(some 62), (Op.load 3 (Operand.tmp 61)), none, ann0⟩,
  ⟨(some 17), (Op.assign (Operand.tmp 60)), none, ann0⟩,
  ⟨(some 18), (Op.assign (Operand.tmp 62)), none, ann0⟩] none)
 (.seq (.post (.reg [⟨(some 63), (Op.move (Operand.tmp 16)), none, ann0⟩,
  ⟨(some 64), (Op.move (Operand.tmp 18)), none, ann0⟩,
  ⟨(some 65), (Op.binOp BinOp.add 3 (Operand.tmp 63) (Operand.tmp 64) 3), none, ann0⟩,
  ⟨(some 16), (Op.assign (Operand.tmp 65)), none, ann0⟩] none) (.tidy [3, 14, 16, 17, 56, 57, 58] z (z + 3)))
 (.seq (.reg [⟨(some 66), (Op.move (Operand.tmp 16)), none, ann0⟩,
  ⟨(some 67), (Op.move (Operand.tmp 14)), none, ann0⟩,
  ⟨(some 68), (Op.binOp BinOp.gtr 3 (Operand.tmp 66) (Operand.tmp 67) 3), none, ann0⟩] none)
 (.cond (Operand.tmp 68) (.seq (.reg [⟨(some 69), (Op.fieldAddr 35 (Operand.tmp 3) 4), none, ann0⟩,
  ⟨(some 70), (Op.load 3 (Operand.tmp 69)), none, ann0⟩,
  ⟨(some 71), (Op.move (Operand.tmp 17)), none, ann0⟩,
  ⟨(some 72), (Op.binOp BinOp.add 3 (Operand.tmp 70) (Operand.tmp 71) 3), none, ann0⟩,
  ⟨(some 6), (Op.assign (Operand.tmp 72)), none, ann0⟩,
  ⟨(some 7), (Op.assign (Operand.const (Value.bool true))), none, ann0⟩,
  ⟨(some 8), (Op.assign (Operand.const (Value.int IntKind.i64 0))), none, ann0⟩] none)
 .ret)
 .skip))))) (.tidy [3, 14, 16, 56, 57, 58] z (z + 3)))
 (.reg [⟨(some 73), (Op.binOp BinOp.add 3 (Operand.tmp 58) (Operand.const (Value.int IntKind.i64 1)) 3), none, ann0⟩,
  ⟨(some 58), (Op.move (Operand.tmp 73)), none, ann0⟩] none)))) (.tidy [3, 14, 16, 56, 57, 58] z (z + 3))
def s27_2 (z : Nat) : SC := c27_2 z
theorem e27_2 {C : Pg} {z : Nat} {st : St} {ks : List Fr} {K : Ex → St → Prop} : wpk C (s27_2 z) st ks K ↔ wpk C (c27_2 z) st ks K := Iff.rfl
/-- sleuth/alert.Exhausted -/
def s27 (z : Nat) : SFn := ⟨3, 74, [(ResultVar.tmp 6), (ResultVar.tmp 7), (ResultVar.tmp 8)],
 (.seq (.reg [⟨(some 3), (Op.box 35 (Operand.tmp 0)), none, ⟨1, false, false⟩⟩,
  ⟨(some 4), (Op.box 35 (Operand.tmp 1)), none, ⟨1, false, false⟩⟩,
  ⟨(some 6), (Op.assign (Operand.const (Value.int IntKind.i64 0))), none, ann0⟩,
  ⟨(some 7), (Op.assign (Operand.const (Value.bool false))), none, ann0⟩,
  ⟨(some 8), (Op.assign (Operand.const (Value.int IntKind.i64 0))), none, ann0⟩] none)
 (.seq (.post (.seq (.reg [⟨(some 19), (Op.move (Operand.tmp 2)), none, ann0⟩,
  ⟨(some 20), (Op.call { callee := (Callee.value (Operand.func 35)), args := #[(Operand.tmp 19)], argTypes := #[3] }), none, ann0⟩,
  ⟨(some 21), (Op.unOp UnOp.not 4 (Operand.tmp 20)), none, ann0⟩] none)
 (.cond (Operand.tmp 21) (.seq (.reg [⟨(some 6), (Op.assign (Operand.const (Value.int IntKind.i64 0))), none, ann0⟩,
  ⟨(some 7), (Op.assign (Operand.const (Value.bool false))), none, ann0⟩,
  ⟨(some 8), (Op.assign (Operand.const (Value.int IntKind.i64 2))), none, ann0⟩] none)
 .ret)
 .skip)) (.tidy [2, 3, 4] z (z + 2)))
 (.seq (.post (.reg [⟨(some 22), (Op.fieldAddr 35 (Operand.tmp 3) 0), none, ann0⟩,
  ⟨(some 23), (Op.load 9 (Operand.tmp 22)), none, ann0⟩,
  ⟨(some 24), (Op.fieldAddr 35 (Operand.tmp 3) 1), none, ann0⟩,
  ⟨(some 25), (Op.load 9 (Operand.tmp 24)), none, ann0⟩,
  ⟨(some 26), (Op.move (Operand.tmp 2)), none, ann0⟩,
  ⟨(some 27), (Op.build 23 #[(0, (Operand.const (Value.string ⟨#[120]⟩))), (1, (Operand.tmp 23)), (2, (Operand.tmp 25)), (3, (Operand.tmp 26)), (4, (Operand.const (Value.int IntKind.i64 1))), (5, (Operand.const (Value.int IntKind.i64 1))), (6, (Operand.const (Value.int IntKind.i64 1)))]), none, ann0⟩,
  ⟨(some 9), (Op.alloc 23), none, ⟨1, false, false⟩⟩,
  ⟨none, (Op.store 23 (Operand.tmp 9) (Operand.tmp 27)), none, ann0⟩] none) (.tidy [2, 3, 4, 9] z (z + 3)))
 (.seq (.post (.seq (.reg [⟨(some 28), (Op.load 23 (Operand.tmp 9)), none, ann0⟩,
  ⟨(some 29), (Op.load 35 (Operand.tmp 3)), none, ann0⟩,
  ⟨(some 30), (Op.load 35 (Operand.tmp 4)), none, ann0⟩,
  ⟨(some 31), (Op.call { callee := (Callee.value (Operand.func 20)), args := #[(Operand.tmp 28), (Operand.tmp 29), (Operand.tmp 30)], argTypes := #[23, 35, 35] }), none, ann0⟩,
  ⟨(some 10), (Op.assign (Operand.tmp 31)), none, ann0⟩] none)
 (.seq (.reg [⟨(some 32), (Op.move (Operand.tmp 10)), none, ann0⟩,
  ⟨(some 33), (Op.binOp BinOp.neq 27 (Operand.tmp 32) (Operand.const (Value.int IntKind.i64 0)) 27), none, ann0⟩] none)
 (.cond (Operand.tmp 33) (.seq (.reg [⟨(some 34), (Op.move (Operand.tmp 10)), none, ann0⟩,
  ⟨(some 6), (Op.assign (Operand.const (Value.int IntKind.i64 0))), none, ann0⟩,
  ⟨(some 7), (Op.assign (Operand.const (Value.bool false))), none, ann0⟩,
  ⟨(some 8), (Op.assign (Operand.tmp 34)), none, ann0⟩] none)
 .ret)
 .skip))) (.tidy [2, 3, 4] z (z + 3)))
 (.seq (.reg [⟨(some 11), (Op.assign (Operand.const (Value.int IntKind.i64 0))), none, ann0⟩] none)
 (.seq (.post (.seq (.reg [⟨(some 35), (Op.fieldAddr 35 (Operand.tmp 4) 5), none, ann0⟩,
  ⟨(some 36), (Op.load 33 (Operand.tmp 35)), none, ann0⟩,
  ⟨(some 37), (Op.call { callee := (Callee.builtin Builtin.len), args := #[(Operand.tmp 36)], argTypes := #[33] }), none, ann0⟩,
  ⟨(some 38), (Op.move (Operand.const (Value.int IntKind.i64 0))), none, ann0⟩] none)
 (.post (.block 0 (.pre (.tidy [2, 3, 11, 36, 37, 38] z (z + 3)) (.loop (s27_1 z)))) (.tidy [2, 3, 11] z (z + 3)))) (.tidy [2, 3, 11] z (z + 3)))
 (.seq (.post (.reg [⟨(some 47), (Op.move (Operand.tmp 11)), none, ann0⟩,
  ⟨(some 48), (Op.move (Operand.tmp 2)), none, ann0⟩,
  ⟨(some 49), (Op.call { callee := (Callee.value (Operand.func 23)), args := #[(Operand.tmp 47), (Operand.tmp 48)], argTypes := #[3, 3] }), none, ann0⟩,
  ⟨(some 46), (Op.move (Operand.tmp 49)), none, ann0⟩,
  ⟨(some 50), (Op.extract (Operand.tmp 46) 0), none, ann0⟩,
  ⟨(some 51), (Op.extract (Operand.tmp 46) 1), none, ann0⟩,
  ⟨(some 14), (Op.assign (Operand.tmp 50)), none, ann0⟩,
  ⟨(some 15), (Op.assign (Operand.tmp 51)), none, ann0⟩] none) (.tidy [3, 14, 15] z (z + 3)))
 (.seq (.post (.seq (.reg [⟨(some 52), (Op.move (Operand.tmp 15)), none, ann0⟩,
  ⟨(some 53), (Op.binOp BinOp.neq 27 (Operand.tmp 52) (Operand.const (Value.int IntKind.i64 0)) 27), none, ann0⟩] none)
 (.cond (Operand.tmp 53) (.seq (.reg [⟨(some 54), (Op.move (Operand.tmp 15)), none, ann0⟩,
  ⟨(some 6), (Op.assign (Operand.const (Value.int IntKind.i64 0))), none, ann0⟩,
  ⟨(some 7), (Op.assign (Operand.const (Value.bool false))), none, ann0⟩,
  ⟨(some 8), (Op.assign (Operand.tmp 54)), none, ann0⟩] none)
 .ret)
 .skip)) (.tidy [3, 14] z (z + 3)))
 (.seq (.reg [⟨(some 16), (Op.assign (Operand.const (Value.int IntKind.i64 0))), none, ann0⟩] none)
 (.seq (.post (.seq (.reg [⟨(some 55), (Op.fieldAddr 35 (Operand.tmp 3) 5), none, ann0⟩,
  ⟨(some 56), (Op.load 33 (Operand.tmp 55)), none, ann0⟩,
  ⟨(some 57), (Op.call { callee := (Callee.builtin Builtin.len), args := #[(Operand.tmp 56)], argTypes := #[33] }), none, ann0⟩,
  ⟨(some 58), (Op.move (Operand.const (Value.int IntKind.i64 0))), none, ann0⟩] none)
 (.post (.block 2 (.pre (.tidy [3, 14, 16, 56, 57, 58] z (z + 3)) (.loop (s27_2 z)))) (.tidy [] z (z + 3)))) (.tidy [] z (z + 3)))
 (.seq (.reg [⟨(some 6), (Op.assign (Operand.const (Value.int IntKind.i64 0))), none, ann0⟩,
  ⟨(some 7), (Op.assign (Operand.const (Value.bool false))), none, ann0⟩,
  ⟨(some 8), (Op.assign (Operand.const (Value.int IntKind.i64 0))), none, ann0⟩] none)
 .ret)))))))))))⟩
theorem F27 (z : Nat) : FOk Try.prog 27 (s27 z) := by unfold FOk; kernel_rfl
end Go.Proofs.YtpooehcjchkbkaaV
