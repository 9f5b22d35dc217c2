/- The table of types and the functions' code, with notes for the interpreter, and the facts that they are the program's: made by a program. -/
import Derived.Test.YteidaaobppjlbaaWb47a
set_option linter.unusedVariables false
namespace Go.Proofs.YteidaaobppjlbaaV
open Go.RowKit

def TT : Tbl := [(2, ⟨.int .i64, 1, 8, [(.d (.int .i64 0))]⟩),
  (3, ⟨.int .i64, 1, 8, [(.d (.int .i64 0))]⟩),
  (4, ⟨.bool, 1, 1, [(.d (.bool false))]⟩),
  (5, ⟨.int .u8, 1, 1, [(.d (.int .u8 0))]⟩),
  (6, ⟨.int .u8, 1, 1, [(.d (.int .u8 0))]⟩),
  (8, ⟨.struct [(0, 2, 1), (1, 3, 1), (2, 4, 1), (3, 6, 1)], 4, 24, [(.d (.int .i64 0)), (.d (.int .i64 0)), (.d (.bool false)), (.d (.int .u8 0))]⟩),
  (9, ⟨.str, 1, 16, [(.d (.str ⟨#[]⟩))]⟩),
  (22, ⟨.slice 26, 1, 24, [(.d .nils)]⟩),
  (26, ⟨.struct [(0, 3, 1), (1, 3, 1), (2, 3, 1), (3, 9, 1), (4, 9, 1), (5, 9, 1)], 6, 72, [(.d (.int .i64 0)), (.d (.int .i64 0)), (.d (.int .i64 0)), (.d (.str ⟨#[]⟩)), (.d (.str ⟨#[]⟩)), (.d (.str ⟨#[]⟩))]⟩),
  (27, ⟨.int .i64, 1, 8, [(.d (.int .i64 0))]⟩),
  (30, ⟨.slice 99, 1, 24, [(.d .nils)]⟩),
  (32, ⟨.slice 39, 1, 24, [(.d .nils)]⟩),
  (37, ⟨.struct [(0, 3, 1), (1, 3, 1)], 2, 16, [(.d (.int .i64 0)), (.d (.int .i64 0))]⟩),
  (39, ⟨.struct [(0, 3, 1), (1, 9, 1), (2, 9, 1), (3, 37, 2)], 5, 56, [(.d (.int .i64 0)), (.d (.str ⟨#[]⟩)), (.d (.str ⟨#[]⟩)), (.d (.int .i64 0)), (.d (.int .i64 0))]⟩),
  (54, ⟨.slice 3, 1, 24, [(.d .nils)]⟩),
  (66, ⟨.slice 9, 1, 24, [(.d .nils)]⟩),
  (73, ⟨.map 3 4, 1, 8, [.nilm]⟩),
  (99, ⟨.struct [(0, 5, 1), (1, 5, 1), (2, 5, 1), (3, 5, 1), (4, 5, 1)], 5, 5, [(.d (.int .u8 0)), (.d (.int .u8 0)), (.d (.int .u8 0)), (.d (.int .u8 0)), (.d (.int .u8 0))]⟩),
  (110, ⟨.int .u64, 1, 8, [(.d (.int .u64 0))]⟩),
  (116, ⟨.struct [(0, 3, 1), (1, 9, 1), (2, 9, 1)], 3, 40, [(.d (.int .i64 0)), (.d (.str ⟨#[]⟩)), (.d (.str ⟨#[]⟩))]⟩),
  (135, ⟨.slice 22, 1, 24, [(.d .nils)]⟩),
  (141, ⟨.int .i64, 1, 8, [(.d (.int .i64 0))]⟩),
  (148, ⟨.int .u32, 1, 4, [(.d (.int .u32 0))]⟩),
  (150, ⟨.int .u64, 1, 8, [(.d (.int .u64 0))]⟩),
  (157, ⟨.int .u64, 1, 8, [(.d (.int .u64 0))]⟩)]
theorem TT_ok : TOk Try.prog TT := by unfold TOk; kernel_rfl
theorem T2 : TT.get 2 = some ⟨.int .i64, 1, 8, [(.d (.int .i64 0))]⟩ := by kernel_rfl
theorem T3 : TT.get 3 = some ⟨.int .i64, 1, 8, [(.d (.int .i64 0))]⟩ := by kernel_rfl
theorem T4 : TT.get 4 = some ⟨.bool, 1, 1, [(.d (.bool false))]⟩ := by kernel_rfl
theorem T5 : TT.get 5 = some ⟨.int .u8, 1, 1, [(.d (.int .u8 0))]⟩ := by kernel_rfl
theorem T6 : TT.get 6 = some ⟨.int .u8, 1, 1, [(.d (.int .u8 0))]⟩ := by kernel_rfl
theorem T8 : TT.get 8 = some ⟨.struct [(0, 2, 1), (1, 3, 1), (2, 4, 1), (3, 6, 1)], 4, 24, [(.d (.int .i64 0)), (.d (.int .i64 0)), (.d (.bool false)), (.d (.int .u8 0))]⟩ := by kernel_rfl
theorem T9 : TT.get 9 = some ⟨.str, 1, 16, [(.d (.str ⟨#[]⟩))]⟩ := by kernel_rfl
theorem T22 : TT.get 22 = some ⟨.slice 26, 1, 24, [(.d .nils)]⟩ := by kernel_rfl
theorem T26 : TT.get 26 = some ⟨.struct [(0, 3, 1), (1, 3, 1), (2, 3, 1), (3, 9, 1), (4, 9, 1), (5, 9, 1)], 6, 72, [(.d (.int .i64 0)), (.d (.int .i64 0)), (.d (.int .i64 0)), (.d (.str ⟨#[]⟩)), (.d (.str ⟨#[]⟩)), (.d (.str ⟨#[]⟩))]⟩ := by kernel_rfl
theorem T27 : TT.get 27 = some ⟨.int .i64, 1, 8, [(.d (.int .i64 0))]⟩ := by kernel_rfl
theorem T30 : TT.get 30 = some ⟨.slice 99, 1, 24, [(.d .nils)]⟩ := by kernel_rfl
theorem T32 : TT.get 32 = some ⟨.slice 39, 1, 24, [(.d .nils)]⟩ := by kernel_rfl
theorem T37 : TT.get 37 = some ⟨.struct [(0, 3, 1), (1, 3, 1)], 2, 16, [(.d (.int .i64 0)), (.d (.int .i64 0))]⟩ := by kernel_rfl
theorem T39 : TT.get 39 = some ⟨.struct [(0, 3, 1), (1, 9, 1), (2, 9, 1), (3, 37, 2)], 5, 56, [(.d (.int .i64 0)), (.d (.str ⟨#[]⟩)), (.d (.str ⟨#[]⟩)), (.d (.int .i64 0)), (.d (.int .i64 0))]⟩ := by kernel_rfl
theorem T54 : TT.get 54 = some ⟨.slice 3, 1, 24, [(.d .nils)]⟩ := by kernel_rfl
theorem T66 : TT.get 66 = some ⟨.slice 9, 1, 24, [(.d .nils)]⟩ := by kernel_rfl
theorem T73 : TT.get 73 = some ⟨.map 3 4, 1, 8, [.nilm]⟩ := by kernel_rfl
theorem T99 : TT.get 99 = some ⟨.struct [(0, 5, 1), (1, 5, 1), (2, 5, 1), (3, 5, 1), (4, 5, 1)], 5, 5, [(.d (.int .u8 0)), (.d (.int .u8 0)), (.d (.int .u8 0)), (.d (.int .u8 0)), (.d (.int .u8 0))]⟩ := by kernel_rfl
theorem T110 : TT.get 110 = some ⟨.int .u64, 1, 8, [(.d (.int .u64 0))]⟩ := by kernel_rfl
theorem T116 : TT.get 116 = some ⟨.struct [(0, 3, 1), (1, 9, 1), (2, 9, 1)], 3, 40, [(.d (.int .i64 0)), (.d (.str ⟨#[]⟩)), (.d (.str ⟨#[]⟩))]⟩ := by kernel_rfl
theorem T135 : TT.get 135 = some ⟨.slice 22, 1, 24, [(.d .nils)]⟩ := by kernel_rfl
theorem T141 : TT.get 141 = some ⟨.int .i64, 1, 8, [(.d (.int .i64 0))]⟩ := by kernel_rfl
theorem T148 : TT.get 148 = some ⟨.int .u32, 1, 4, [(.d (.int .u32 0))]⟩ := by kernel_rfl
theorem T150 : TT.get 150 = some ⟨.int .u64, 1, 8, [(.d (.int .u64 0))]⟩ := by kernel_rfl
theorem T157 : TT.get 157 = some ⟨.int .u64, 1, 8, [(.d (.int .u64 0))]⟩ := by kernel_rfl
def s63 (z : Nat) : SFn := ⟨1, 4, [(ResultVar.tmp 2)],
 (.seq (.reg [⟨(some 1), (Op.box 22 (Operand.tmp 0)), none, ⟨1, false, false⟩⟩,
  ⟨(some 2), (Op.assign (Operand.const Value.nilFunc)), none, ann0⟩] none)
 (.seq (.reg [⟨(some 3), (Op.makeFunc (Fn.func 80) #[] #[(Operand.tmp 1)]), none, ann0⟩,
  ⟨(some 2), (Op.assign (Operand.tmp 3)), none, ann0⟩] none)
 .ret))⟩
theorem F63 (z : Nat) : FOk Try.prog 63 (s63 z) := by unfold FOk; kernel_rfl
def l95_0 : SLoop := ⟨13, [7],
 (.reg [⟨(some 5), (Op.alloc 26), none, ⟨1, false, false⟩⟩,
  ⟨none, (Op.store 26 (Operand.tmp 5) (Operand.tmp 7)), none, ann0⟩] none),
 (.block 1 (.reg [⟨(some 8), (Op.load 22 (Operand.tmp 2)), none, ann0⟩,
  ⟨(some 9), (Op.load 26 (Operand.tmp 5)), none, ann0⟩,
  ⟨(some 10), (Op.buildSlice 22 1 #[(0, (Operand.tmp 9))]), none, ⟨1, true, false⟩⟩,
  ⟨(some 11), (Op.call { callee := (Callee.builtin Builtin.append), args := #[(Operand.tmp 8), (Operand.tmp 10)], argTypes := #[22, 22] }), none, ann0⟩,
  ⟨none, (Op.store 22 (Operand.tmp 2) (Operand.tmp 11)), none, ann0⟩] none))⟩
theorem N95_0 : LOk Try.prog 6080 l95_0 := by unfold LOk; kernel_rfl
def s95 (z : Nat) : SFn := ⟨2, 13, [(ResultVar.tmp 4)],
 (.seq (.reg [⟨(some 2), (Op.box 22 (Operand.tmp 0)), none, ⟨1, false, false⟩⟩,
  ⟨(some 4), (Op.assign (Operand.const (Value.slice none 0 0))), none, ann0⟩] none)
 (.seq (.seq (.reg [⟨(some 6), (Op.move (Operand.tmp 1)), none, ann0⟩] none)
 (.post (.pre (.mkb 2 0 26 6) (.block 0 (.rng (Operand.tmp 6) 6080 [2] ⟨0, false, false⟩))) (.tidy [2] z (z + 3))))
 (.seq (.reg [⟨(some 12), (Op.load 22 (Operand.tmp 2)), none, ann0⟩,
  ⟨(some 4), (Op.assign (Operand.tmp 12)), none, ann0⟩] none)
 .ret)))⟩
theorem F95 (z : Nat) : FOk Try.prog 95 (s95 z) := by unfold FOk; kernel_rfl
def s78 (z : Nat) : SFn := ⟨1, 5, [(ResultVar.tmp 2)],
 (.seq (.reg [⟨(some 2), (Op.assign (Operand.const (Value.slice none 0 0))), none, ann0⟩] none)
 (.seq (.reg [⟨(some 3), (Op.move (Operand.tmp 0)), none, ann0⟩,
  ⟨(some 4), (Op.call { callee := (Callee.value (Operand.func 95)), args := #[(Operand.const (Value.slice none 0 0)), (Operand.tmp 3)], argTypes := #[22, 122] }), none, ⟨1, false, false⟩⟩,
  ⟨(some 2), (Op.assign (Operand.tmp 4)), none, ann0⟩] none)
 .ret))⟩
theorem F78 (z : Nat) : FOk Try.prog 78 (s78 z) := by unfold FOk; kernel_rfl
def s62 (z : Nat) : SFn := ⟨2, 12, [(ResultVar.tmp 4)],
 (.seq (.reg [⟨(some 4), (Op.assign (Operand.const (Value.slice none 0 0))), none, ann0⟩] none)
 (.seq (.reg [⟨(some 6), (Op.move (Operand.tmp 0)), none, ann0⟩,
  ⟨(some 7), (Op.call { callee := (Callee.value (Operand.func 78)), args := #[(Operand.tmp 6)], argTypes := #[122] }), none, ⟨1, false, false⟩⟩,
  ⟨(some 5), (Op.assign (Operand.tmp 7)), none, ann0⟩] none)
 (.seq (.post (.reg [⟨(some 8), (Op.move (Operand.tmp 5)), none, ann0⟩,
  ⟨(some 9), (Op.move (Operand.tmp 1)), none, ann0⟩,
  ⟨(some 10), (Op.call { callee := (Callee.value (Operand.func 79)), args := #[(Operand.tmp 8), (Operand.tmp 9)], argTypes := #[22, 24] }), none, ann0⟩] none) (.tidy [5] z (z + 1)))
 (.seq (.reg [⟨(some 11), (Op.move (Operand.tmp 5)), none, ann0⟩,
  ⟨(some 4), (Op.assign (Operand.tmp 11)), none, ann0⟩] none)
 .ret))))⟩
theorem F62 (z : Nat) : FOk Try.prog 62 (s62 z) := by unfold FOk; kernel_rfl
def c61_2 (z : Nat) : SC := .post (.seq (.seq (.post (.reg [⟨(some 29), (Op.move (Operand.tmp 5)), none, ann0⟩,
  ⟨(some 30), (Op.move (Operand.tmp 4)), none, ann0⟩,
  ⟨(some 31), (Op.call { callee := (Callee.builtin Builtin.len), args := #[(Operand.tmp 30)], argTypes := #[22] }), none, ann0⟩,
  ⟨(some 32), (Op.binOp BinOp.lss 3 (Operand.tmp 29) (Operand.tmp 31) 3), none, ann0⟩] none) (.tidy [0, 3, 4, 5, 32] z (z + 0)))
 (.cond (Operand.tmp 32) .skip
 (.exit 2)))
 (.seq (.post (.block 3 (.seq (.post (.reg [⟨(some 35), (Op.move (Operand.tmp 4)), none, ann0⟩,
  ⟨(some 36), (Op.move (Operand.tmp 5)), none, ann0⟩,
  ⟨(some 37), (Op.indexAddr 22 (Operand.tmp 35) (Operand.tmp 36)), none, ann0⟩,
  ⟨(some 38), (Op.load 26 (Operand.tmp 37)), none, ann0⟩,
  ⟨(some 39), (Op.move (Operand.tmp 4)), none, ann0⟩,
  ⟨(some 40), (Op.move (Operand.tmp 5)), none, ann0⟩,
  ⟨(some 41), (Op.binOp BinOp.sub 3 (Operand.tmp 40) (Operand.const (Value.int IntKind.i64 1)) 3), none, ann0⟩,
  ⟨(some 42), (Op.indexAddr 22 (Operand.tmp 39) (Operand.tmp 41)), none, ann0⟩,
  ⟨(some 43), (Op.load 26 (Operand.tmp 42)), none, ann0⟩,
  ⟨(some 44), (Op.binOp BinOp.neq 26 (Operand.tmp 38) (Operand.tmp 43) 26), none, ann0⟩] (some [0, 0, 3, 7, 0, 0, 32, 112, 240, 511])) (.tidy [0, 3, 4, 5, 44] z (z + 0)))
 (.cond (Operand.tmp 44) (.seq (.post (.reg [⟨(some 45), (Op.move (Operand.tmp 0)), none, ann0⟩,
  ⟨(some 46), (Op.move (Operand.tmp 3)), none, ann0⟩,
  ⟨(some 47), (Op.move (Operand.tmp 4)), none, ann0⟩,
  ⟨(some 48), (Op.move (Operand.tmp 5)), none, ann0⟩,
  ⟨(some 49), (Op.indexAddr 22 (Operand.tmp 47) (Operand.tmp 48)), none, ann0⟩,
  ⟨(some 50), (Op.load 26 (Operand.tmp 49)), none, ann0⟩,
  ⟨(some 51), (Op.indexAddr 22 (Operand.tmp 45) (Operand.tmp 46)), none, ann0⟩,
  ⟨none, (Op.store 26 (Operand.tmp 51) (Operand.tmp 50)), none, ann0⟩] none) (.tidy [0, 3, 4, 5] z (z + 0)))
 (.reg [⟨(some 52), (Op.move (Operand.tmp 3)), none, ann0⟩,
  ⟨(some 53), (Op.binOp BinOp.add 3 (Operand.tmp 52) (Operand.const (Value.int IntKind.i64 1)) 3), none, ann0⟩,
  ⟨(some 3), (Op.assign (Operand.tmp 53)), none, ann0⟩] none))
 .skip))) (.tidy [0, 3, 4, 5] z (z + 0)))
 (.reg [⟨(some 33), (Op.move (Operand.tmp 5)), none, ann0⟩,
  ⟨(some 34), (Op.binOp BinOp.add 3 (Operand.tmp 33) (Operand.const (Value.int IntKind.i64 1)) 3), none, ann0⟩,
  ⟨(some 5), (Op.assign (Operand.tmp 34)), none, ann0⟩] none))) (.tidy [0, 3, 4, 5] z (z + 0))
def s61_2 (z : Nat) : SC := c61_2 z
theorem e61_2 {C : Pg} {z : Nat} {st : St} {ks : List Fr} {K : Ex → St → Prop} : wpk C (s61_2 z) st ks K ↔ wpk C (c61_2 z) st ks K := Iff.rfl
def c61_1 (z : Nat) : SC := .post (.seq (.post (.seq (.reg [⟨(some 10), (Op.move (Operand.tmp 3)), none, ann0⟩,
  ⟨(some 11), (Op.move (Operand.tmp 0)), none, ann0⟩,
  ⟨(some 12), (Op.call { callee := (Callee.builtin Builtin.len), args := #[(Operand.tmp 11)], argTypes := #[22] }), none, ann0⟩,
  ⟨(some 13), (Op.binOp BinOp.lss 3 (Operand.tmp 10) (Operand.tmp 12) 3), none, ann0⟩] none)
 (.cond (Operand.tmp 13) .skip
 (.exit 0))) (.tidy [0, 3] z (z + 0)))
 (.seq (.post (.block 1 (.seq (.post (.reg [⟨(some 16), (Op.move (Operand.tmp 0)), none, ann0⟩,
  ⟨(some 17), (Op.move (Operand.tmp 3)), none, ann0⟩,
  ⟨(some 18), (Op.indexAddr 22 (Operand.tmp 16) (Operand.tmp 17)), none, ann0⟩,
  ⟨(some 19), (Op.load 26 (Operand.tmp 18)), none, ann0⟩,
  ⟨(some 20), (Op.move (Operand.tmp 0)), none, ann0⟩,
  ⟨(some 21), (Op.move (Operand.tmp 3)), none, ann0⟩,
  ⟨(some 22), (Op.binOp BinOp.sub 3 (Operand.tmp 21) (Operand.const (Value.int IntKind.i64 1)) 3), none, ann0⟩,
  ⟨(some 23), (Op.indexAddr 22 (Operand.tmp 20) (Operand.tmp 22)), none, ann0⟩,
  ⟨(some 24), (Op.load 26 (Operand.tmp 23)), none, ann0⟩,
  ⟨(some 25), (Op.binOp BinOp.eql 26 (Operand.tmp 19) (Operand.tmp 24) 26), none, ann0⟩] (some [0, 0, 3, 7, 0, 0, 32, 112, 240, 511])) (.tidy [0, 3, 25] z (z + 0)))
 (.cond (Operand.tmp 25) (.seq (.reg [⟨(some 26), (Op.move (Operand.tmp 0)), none, ann0⟩,
  ⟨(some 27), (Op.move (Operand.tmp 3)), none, ann0⟩,
  ⟨(some 28), (Op.slice 22 (Operand.tmp 26) (some (Operand.tmp 27)) none none), none, ann0⟩,
  ⟨(some 4), (Op.assign (Operand.tmp 28)), none, ann0⟩] none)
 (.seq (.post (.seq (.reg [⟨(some 5), (Op.assign (Operand.const (Value.int IntKind.i64 1))), none, ann0⟩] none)
 (.post (.block 2 (.pre (.tidy [0, 3, 4, 5] z (z + 0)) (.loop (s61_2 z)))) (.tidy [0, 3] z (z + 0)))) (.tidy [0, 3] z (z + 0)))
 (.seq (.reg [⟨(some 54), (Op.move (Operand.tmp 0)), none, ann0⟩,
  ⟨(some 55), (Op.move (Operand.tmp 3)), none, ann0⟩,
  ⟨(some 56), (Op.slice 22 (Operand.tmp 54) (some (Operand.tmp 55)) none none), none, ann0⟩,
  ⟨none, (Op.call { callee := (Callee.builtin Builtin.clear), args := #[(Operand.tmp 56)], argTypes := #[22] }), none, ann0⟩] none)
 (.seq (.reg [⟨(some 57), (Op.move (Operand.tmp 0)), none, ann0⟩,
  ⟨(some 58), (Op.move (Operand.tmp 3)), none, ann0⟩,
  ⟨(some 59), (Op.slice 22 (Operand.tmp 57) none (some (Operand.tmp 58)) none), none, ann0⟩,
  ⟨(some 2), (Op.assign (Operand.tmp 59)), none, ann0⟩] none)
 .ret))))
 .skip))) (.tidy [0, 3] z (z + 0)))
 (.reg [⟨(some 14), (Op.move (Operand.tmp 3)), none, ann0⟩,
  ⟨(some 15), (Op.binOp BinOp.add 3 (Operand.tmp 14) (Operand.const (Value.int IntKind.i64 1)) 3), none, ann0⟩,
  ⟨(some 3), (Op.assign (Operand.tmp 15)), none, ann0⟩] none))) (.tidy [0, 3] z (z + 0))
def s61_1 (z : Nat) : SC := c61_1 z
theorem e61_1 {C : Pg} {z : Nat} {st : St} {ks : List Fr} {K : Ex → St → Prop} : wpk C (s61_1 z) st ks K ↔ wpk C (c61_1 z) st ks K := Iff.rfl
def s61 (z : Nat) : SFn := ⟨1, 61, [(ResultVar.tmp 2)],
 (.seq (.reg [⟨(some 2), (Op.assign (Operand.const (Value.slice none 0 0))), none, ann0⟩] none)
 (.seq (.post (.seq (.reg [⟨(some 6), (Op.move (Operand.tmp 0)), none, ann0⟩,
  ⟨(some 7), (Op.call { callee := (Callee.builtin Builtin.len), args := #[(Operand.tmp 6)], argTypes := #[22] }), none, ann0⟩,
  ⟨(some 8), (Op.binOp BinOp.lss 3 (Operand.tmp 7) (Operand.const (Value.int IntKind.i64 2)) 3), none, ann0⟩] none)
 (.cond (Operand.tmp 8) (.seq (.reg [⟨(some 9), (Op.move (Operand.tmp 0)), none, ann0⟩,
  ⟨(some 2), (Op.assign (Operand.tmp 9)), none, ann0⟩] none)
 .ret)
 .skip)) (.tidy [0] z (z + 0)))
 (.seq (.post (.seq (.reg [⟨(some 3), (Op.assign (Operand.const (Value.int IntKind.i64 1))), none, ann0⟩] none)
 (.post (.block 0 (.pre (.tidy [0, 3] z (z + 0)) (.loop (s61_1 z)))) (.tidy [0] z (z + 0)))) (.tidy [0] z (z + 0)))
 (.seq (.reg [⟨(some 60), (Op.move (Operand.tmp 0)), none, ann0⟩,
  ⟨(some 2), (Op.assign (Operand.tmp 60)), none, ann0⟩] none)
 .ret))))⟩
theorem F61 (z : Nat) : FOk Try.prog 61 (s61 z) := by unfold FOk; kernel_rfl
def s81 (z : Nat) : SFn := ⟨2, 27, [(ResultVar.tmp 4)],
 (.seq (.reg [⟨(some 4), (Op.assign (Operand.const (Value.slice none 0 0))), none, ann0⟩] none)
 (.seq (.seq (.reg [⟨(some 5), (Op.move (Operand.tmp 1)), none, ann0⟩,
  ⟨(some 6), (Op.binOp BinOp.lss 3 (Operand.tmp 5) (Operand.const (Value.int IntKind.i64 0)) 3), none, ann0⟩] none)
 (.cond (Operand.tmp 6) (.reg [⟨(some 7), (Op.makeInterface 9 (Operand.const (Value.string ⟨#[99, 97, 110, 110, 111, 116, 32, 98, 101, 32, 110, 101, 103, 97, 116, 105, 118, 101]⟩))), none, ann0⟩,
  ⟨none, (Op.panic (Operand.tmp 7)), none, ann0⟩] none)
 .skip))
 (.seq (.post (.seq (.post (.reg [⟨(some 8), (Op.move (Operand.tmp 1)), none, ann0⟩,
  ⟨(some 9), (Op.move (Operand.tmp 0)), none, ann0⟩,
  ⟨(some 10), (Op.call { callee := (Callee.builtin Builtin.cap), args := #[(Operand.tmp 9)], argTypes := #[22] }), none, ann0⟩,
  ⟨(some 11), (Op.move (Operand.tmp 0)), none, ann0⟩,
  ⟨(some 12), (Op.call { callee := (Callee.builtin Builtin.len), args := #[(Operand.tmp 11)], argTypes := #[22] }), none, ann0⟩,
  ⟨(some 13), (Op.binOp BinOp.sub 3 (Operand.tmp 10) (Operand.tmp 12) 3), none, ann0⟩,
  ⟨(some 14), (Op.binOp BinOp.sub 3 (Operand.tmp 8) (Operand.tmp 13) 3), none, ann0⟩,
  ⟨(some 1), (Op.assign (Operand.tmp 14)), none, ann0⟩] none) (.tidy [0, 1] z (z + 0)))
 (.seq (.reg [⟨(some 15), (Op.move (Operand.tmp 1)), none, ann0⟩,
  ⟨(some 16), (Op.binOp BinOp.gtr 3 (Operand.tmp 15) (Operand.const (Value.int IntKind.i64 0)) 3), none, ann0⟩] none)
 (.cond (Operand.tmp 16) (.reg [⟨(some 17), (Op.move (Operand.tmp 0)), none, ann0⟩,
  ⟨(some 18), (Op.move (Operand.tmp 0)), none, ann0⟩,
  ⟨(some 19), (Op.call { callee := (Callee.builtin Builtin.cap), args := #[(Operand.tmp 18)], argTypes := #[22] }), none, ann0⟩,
  ⟨(some 20), (Op.slice 22 (Operand.tmp 17) none (some (Operand.tmp 19)) none), none, ⟨0, true, false⟩⟩,
  ⟨(some 21), (Op.move (Operand.tmp 1)), none, ann0⟩,
  ⟨(some 22), (Op.call { callee := (Callee.builtin Builtin.append), args := #[(Operand.tmp 20), (Operand.tmp 21)], argTypes := #[22, 3] }), none, ⟨1, false, false⟩⟩,
  ⟨(some 23), (Op.move (Operand.tmp 0)), none, ann0⟩,
  ⟨(some 24), (Op.call { callee := (Callee.builtin Builtin.len), args := #[(Operand.tmp 23)], argTypes := #[22] }), none, ann0⟩,
  ⟨(some 25), (Op.slice 22 (Operand.tmp 22) none (some (Operand.tmp 24)) none), none, ann0⟩,
  ⟨(some 0), (Op.assign (Operand.tmp 25)), none, ann0⟩] none)
 .skip))) (.tidy [0] z (z + 1)))
 (.seq (.reg [⟨(some 26), (Op.move (Operand.tmp 0)), none, ann0⟩,
  ⟨(some 4), (Op.assign (Operand.tmp 26)), none, ann0⟩] none)
 .ret))))⟩
theorem F81 (z : Nat) : FOk Try.prog 81 (s81 z) := by unfold FOk; kernel_rfl
def c64_1 (z : Nat) : SC := .post (.seq (.reg [⟨(some 12), (Op.binOp BinOp.lss 3 (Operand.tmp 11) (Operand.tmp 10) 3), none, ann0⟩] none)
 (.seq (.cond (Operand.tmp 12) .skip
 (.exit 0))
 (.seq (.post (.block 1 (.seq (.reg [⟨(some 13), (Op.indexAddr 135 (Operand.tmp 9) (Operand.tmp 11)), none, ann0⟩,
  ⟨(some 14), (Op.load 22 (Operand.tmp 13)), none, ann0⟩,
  ⟨(some 5), (Op.assign (Operand.tmp 14)), none, ann0⟩] none)
 (.seq (.post (.reg [⟨(some 15), (Op.move (Operand.tmp 3)), none, ann0⟩,
  ⟨(some 16), (Op.move (Operand.tmp 5)), none, ann0⟩,
  ⟨(some 17), (Op.call { callee := (Callee.builtin Builtin.len), args := #[(Operand.tmp 16)], argTypes := #[22] }), none, ann0⟩,
  ⟨(some 18), (Op.binOp BinOp.add 3 (Operand.tmp 15) (Operand.tmp 17) 3), none, ann0⟩,
  ⟨(some 3), (Op.assign (Operand.tmp 18)), none, ann0⟩] none) (.tidy [0, 3, 9, 10, 11] z (z + 0)))
 (.seq (.reg [⟨(some 19), (Op.move (Operand.tmp 3)), none, ann0⟩,
  ⟨(some 20), (Op.binOp BinOp.lss 3 (Operand.tmp 19) (Operand.const (Value.int IntKind.i64 0)) 3), none, ann0⟩] none)
 (.cond (Operand.tmp 20) (.reg [⟨(some 21), (Op.makeInterface 9 (Operand.const (Value.string ⟨#[108, 101, 110, 32, 111, 117, 116, 32, 111, 102, 32, 114, 97, 110, 103, 101]⟩))), none, ann0⟩,
  ⟨none, (Op.panic (Operand.tmp 21)), none, ann0⟩] none)
 .skip))))) (.tidy [0, 3, 9, 10, 11] z (z + 0)))
 (.reg [⟨(some 22), (Op.binOp BinOp.add 3 (Operand.tmp 11) (Operand.const (Value.int IntKind.i64 1)) 3), none, ann0⟩,
  ⟨(some 11), (Op.move (Operand.tmp 22)), none, ann0⟩] none)))) (.tidy [0, 3, 9, 10, 11] z (z + 0))
def s64_1 (z : Nat) : SC := c64_1 z
theorem e64_1 {C : Pg} {z : Nat} {st : St} {ks : List Fr} {K : Ex → St → Prop} : wpk C (s64_1 z) st ks K ↔ wpk C (c64_1 z) st ks K := Iff.rfl
def c64_2 (z : Nat) : SC := .post (.seq (.reg [⟨(some 28), (Op.binOp BinOp.lss 3 (Operand.tmp 27) (Operand.tmp 26) 3), none, ann0⟩] none)
 (.seq (.cond (Operand.tmp 28) .skip
 (.exit 2))
 (.seq (.post (.block 3 (.seq (.reg [⟨(some 29), (Op.indexAddr 135 (Operand.tmp 25) (Operand.tmp 27)), none, ann0⟩,
  ⟨(some 30), (Op.load 22 (Operand.tmp 29)), none, ann0⟩,
  ⟨(some 8), (Op.assign (Operand.tmp 30)), none, ann0⟩] none)
 (.reg [⟨(some 31), (Op.move (Operand.tmp 6)), none, ann0⟩,
  ⟨(some 32), (Op.move (Operand.tmp 8)), none, ann0⟩,
  ⟨(some 33), (Op.call { callee := (Callee.builtin Builtin.append), args := #[(Operand.tmp 31), (Operand.tmp 32)], argTypes := #[22, 22] }), none, ann0⟩,
  ⟨(some 6), (Op.assign (Operand.tmp 33)), none, ann0⟩] none))) (.tidy [6, 25, 26, 27] z (z + 2)))
 (.reg [⟨(some 34), (Op.binOp BinOp.add 3 (Operand.tmp 27) (Operand.const (Value.int IntKind.i64 1)) 3), none, ann0⟩,
  ⟨(some 27), (Op.move (Operand.tmp 34)), none, ann0⟩] none)))) (.tidy [6, 25, 26, 27] z (z + 2))
def s64_2 (z : Nat) : SC := c64_2 z
theorem e64_2 {C : Pg} {z : Nat} {st : St} {ks : List Fr} {K : Ex → St → Prop} : wpk C (s64_2 z) st ks K ↔ wpk C (c64_2 z) st ks K := Iff.rfl
def s64 (z : Nat) : SFn := ⟨1, 36, [(ResultVar.tmp 2)],
 (.post (.seq (.reg [⟨(some 2), (Op.assign (Operand.const (Value.slice none 0 0))), none, ann0⟩] none)
 (.seq (.reg [⟨(some 3), (Op.assign (Operand.const (Value.int IntKind.i64 0))), none, ann0⟩] none)
 (.seq (.post (.seq (.reg [⟨(some 9), (Op.move (Operand.tmp 0)), none, ann0⟩,
  ⟨(some 10), (Op.call { callee := (Callee.builtin Builtin.len), args := #[(Operand.tmp 9)], argTypes := #[135] }), none, ann0⟩,
  ⟨(some 11), (Op.move (Operand.const (Value.int IntKind.i64 0))), none, ann0⟩] none)
 (.post (.block 0 (.pre (.tidy [0, 3, 9, 10, 11] z (z + 0)) (.loop (s64_1 z)))) (.tidy [0, 3] z (z + 0)))) (.tidy [0, 3] z (z + 0)))
 (.seq (.reg [⟨(some 23), (Op.move (Operand.tmp 3)), none, ann0⟩,
  ⟨(some 24), (Op.call { callee := (Callee.value (Operand.func 81)), args := #[(Operand.const (Value.slice none 0 0)), (Operand.tmp 23)], argTypes := #[22, 3] }), none, ⟨1, false, false⟩⟩,
  ⟨(some 6), (Op.assign (Operand.tmp 24)), none, ann0⟩] none)
 (.seq (.post (.seq (.reg [⟨(some 25), (Op.move (Operand.tmp 0)), none, ann0⟩,
  ⟨(some 26), (Op.call { callee := (Callee.builtin Builtin.len), args := #[(Operand.tmp 25)], argTypes := #[135] }), none, ann0⟩,
  ⟨(some 27), (Op.move (Operand.const (Value.int IntKind.i64 0))), none, ann0⟩] none)
 (.post (.pre (.mkv 6 26 6) (.block 2 (.pre (.tidy [6, 25, 26, 27] z (z + 2)) (.loop (s64_2 z))))) (.tidy [6] z (z + 2)))) (.tidy [6] z (z + 2)))
 (.seq (.reg [⟨(some 35), (Op.move (Operand.tmp 6)), none, ann0⟩,
  ⟨(some 2), (Op.assign (Operand.tmp 35)), none, ann0⟩] none)
 .ret)))))) (.frz 2))⟩
theorem F64 (z : Nat) : FOk Try.prog 64 (s64 z) := by unfold FOk; kernel_rfl
def s37 (z : Nat) : SFn := ⟨1, 16, [(ResultVar.tmp 2), (ResultVar.tmp 3)],
 (.post (.seq (.reg [⟨(some 2), (Op.assign (Operand.const (Value.slice none 0 0))), none, ann0⟩,
  ⟨(some 3), (Op.assign (Operand.const (Value.int IntKind.i64 0))), none, ann0⟩] none)
 (.seq (.post (.reg [⟨(some 6), (Op.move (Operand.tmp 0)), none, ann0⟩,
  ⟨(some 7), (Op.call { callee := (Callee.value (Operand.func 63)), args := #[(Operand.tmp 6)], argTypes := #[22] }), none, ⟨1, false, false⟩⟩,
  ⟨(some 8), (Op.call { callee := (Callee.value (Operand.func 62)), args := #[(Operand.tmp 7), (Operand.func 15)], argTypes := #[122, 24] }), none, ⟨1, false, false⟩⟩,
  ⟨(some 9), (Op.call { callee := (Callee.value (Operand.func 61)), args := #[(Operand.tmp 8)], argTypes := #[22] }), none, ann0⟩,
  ⟨(some 4), (Op.assign (Operand.tmp 9)), none, ann0⟩] none) (.frz 4))
 (.seq (.post (.seq (.post (.reg [⟨(some 10), (Op.move (Operand.tmp 4)), none, ann0⟩,
  ⟨(some 11), (Op.call { callee := (Callee.value (Operand.func 17)), args := #[(Operand.tmp 10)], argTypes := #[22] }), none, ann0⟩,
  ⟨(some 5), (Op.assign (Operand.tmp 11)), none, ann0⟩] none) (.tidy [4, 5] z (z + 2)))
 (.seq (.reg [⟨(some 12), (Op.move (Operand.tmp 5)), none, ann0⟩,
  ⟨(some 13), (Op.binOp BinOp.neq 27 (Operand.tmp 12) (Operand.const (Value.int IntKind.i64 0)) 27), none, ann0⟩] none)
 (.cond (Operand.tmp 13) (.seq (.reg [⟨(some 14), (Op.move (Operand.tmp 5)), none, ann0⟩,
  ⟨(some 2), (Op.assign (Operand.const (Value.slice none 0 0))), none, ann0⟩,
  ⟨(some 3), (Op.assign (Operand.tmp 14)), none, ann0⟩] none)
 .ret)
 .skip))) (.tidy [4] z (z + 2)))
 (.seq (.reg [⟨(some 15), (Op.move (Operand.tmp 4)), none, ann0⟩,
  ⟨(some 2), (Op.assign (Operand.tmp 15)), none, ann0⟩,
  ⟨(some 3), (Op.assign (Operand.const (Value.int IntKind.i64 0))), none, ann0⟩] none)
 .ret)))) (.frz 2))⟩
theorem F37 (z : Nat) : FOk Try.prog 37 (s37 z) := by unfold FOk; kernel_rfl
def s38 (z : Nat) : SFn := ⟨2, 20, [(ResultVar.tmp 4), (ResultVar.tmp 5)],
 (.post (.seq (.reg [⟨(some 4), (Op.assign (Operand.const (Value.slice none 0 0))), none, ann0⟩,
  ⟨(some 5), (Op.assign (Operand.const (Value.int IntKind.i64 0))), none, ann0⟩] none)
 (.seq (.post (.reg [⟨(some 9), (Op.move (Operand.tmp 0)), none, ann0⟩,
  ⟨(some 10), (Op.move (Operand.tmp 1)), none, ann0⟩,
  ⟨(some 11), (Op.buildSlice 135 2 #[(0, (Operand.tmp 9)), (1, (Operand.tmp 10))]), none, ⟨1, true, false⟩⟩,
  ⟨(some 12), (Op.call { callee := (Callee.value (Operand.func 64)), args := #[(Operand.tmp 11)], argTypes := #[135] }), none, ann0⟩,
  ⟨(some 13), (Op.call { callee := (Callee.value (Operand.func 37)), args := #[(Operand.tmp 12)], argTypes := #[22] }), none, ann0⟩,
  ⟨(some 8), (Op.move (Operand.tmp 13)), none, ann0⟩,
  ⟨(some 14), (Op.extract (Operand.tmp 8) 0), none, ann0⟩,
  ⟨(some 15), (Op.extract (Operand.tmp 8) 1), none, ann0⟩,
  ⟨(some 6), (Op.assign (Operand.tmp 14)), none, ann0⟩,
  ⟨(some 7), (Op.assign (Operand.tmp 15)), none, ann0⟩] none) (.tidy [6, 7] z (z + 1)))
 (.seq (.seq (.reg [⟨(some 16), (Op.move (Operand.tmp 7)), none, ann0⟩,
  ⟨(some 17), (Op.binOp BinOp.eql 27 (Operand.tmp 16) (Operand.const (Value.int IntKind.i64 9)) 27), none, ann0⟩] none)
 (.cond (Operand.tmp 17) (.reg [⟨(some 7), (Op.assign (Operand.const (Value.int IntKind.i64 17))), none, ann0⟩] none)
 .skip))
 (.seq (.reg [⟨(some 18), (Op.move (Operand.tmp 6)), none, ann0⟩,
  ⟨(some 19), (Op.move (Operand.tmp 7)), none, ann0⟩,
  ⟨(some 4), (Op.assign (Operand.tmp 18)), none, ann0⟩,
  ⟨(some 5), (Op.assign (Operand.tmp 19)), none, ann0⟩] none)
 .ret)))) (.frz 4))⟩
theorem F38 (z : Nat) : FOk Try.prog 38 (s38 z) := by unfold FOk; kernel_rfl
def s12 (z : Nat) : SFn := ⟨2, 73, [(ResultVar.tmp 4)],
 (.seq (.reg [⟨(some 4), (Op.assign (Operand.const (Value.bool false))), none, ann0⟩] none)
 (.seq (.post (.seq (.post (.reg [⟨(some 13), (Op.call { callee := (Callee.value (Operand.func 14)), args := #[], argTypes := #[] }), none, ann0⟩,
  ⟨(some 14), (Op.unOp UnOp.not 4 (Operand.tmp 13)), none, ann0⟩,
  ⟨(some 15), (Op.move (Operand.tmp 14)), none, ann0⟩,
  ⟨(some 16), (Op.move (Operand.tmp 0)), (some (15, false)), ann0⟩,
  ⟨(some 17), (Op.call { callee := (Callee.builtin Builtin.len), args := #[(Operand.tmp 16)], argTypes := #[22] }), (some (15, false)), ann0⟩,
  ⟨(some 18), (Op.binOp BinOp.gtr 3 (Operand.tmp 17) (Operand.const (Value.int IntKind.i64 12)) 3), (some (15, false)), ann0⟩,
  ⟨(some 19), (Op.pick (Operand.tmp 15) (Operand.const (Value.bool true)) (Operand.tmp 18)), none, ann0⟩,
  ⟨(some 20), (Op.move (Operand.tmp 19)), none, ann0⟩,
  ⟨(some 21), (Op.move (Operand.tmp 1)), (some (20, false)), ann0⟩,
  ⟨(some 22), (Op.call { callee := (Callee.builtin Builtin.len), args := #[(Operand.tmp 21)], argTypes := #[22] }), (some (20, false)), ann0⟩,
  ⟨(some 23), (Op.binOp BinOp.gtr 3 (Operand.tmp 22) (Operand.const (Value.int IntKind.i64 12)) 3), (some (20, false)), ann0⟩,
  ⟨(some 24), (Op.pick (Operand.tmp 20) (Operand.const (Value.bool true)) (Operand.tmp 23)), none, ann0⟩] none) (.tidy [0, 1, 24] z (z + 0)))
 (.cond (Operand.tmp 24) (.seq (.reg [⟨(some 25), (Op.call { callee := (Callee.value (Operand.func 14)), args := #[], argTypes := #[] }), none, ann0⟩,
  ⟨(some 4), (Op.assign (Operand.tmp 25)), none, ann0⟩] none)
 .ret)
 .skip)) (.tidy [0, 1] z (z + 0)))
 (.seq (.reg [⟨(some 27), (Op.move (Operand.tmp 0)), none, ann0⟩,
  ⟨(some 28), (Op.call { callee := (Callee.value (Operand.func 37)), args := #[(Operand.tmp 27)], argTypes := #[22] }), none, ann0⟩,
  ⟨(some 26), (Op.move (Operand.tmp 28)), none, ann0⟩,
  ⟨(some 29), (Op.extract (Operand.tmp 26) 0), none, ann0⟩,
  ⟨(some 30), (Op.extract (Operand.tmp 26) 1), none, ann0⟩,
  ⟨(some 5), (Op.assign (Operand.tmp 29)), none, ann0⟩,
  ⟨(some 6), (Op.assign (Operand.tmp 30)), none, ann0⟩] none)
 (.seq (.post (.reg [⟨(some 32), (Op.move (Operand.tmp 0)), none, ann0⟩,
  ⟨(some 33), (Op.move (Operand.tmp 1)), none, ann0⟩,
  ⟨(some 34), (Op.call { callee := (Callee.value (Operand.func 38)), args := #[(Operand.tmp 32), (Operand.tmp 33)], argTypes := #[22, 22] }), none, ann0⟩,
  ⟨(some 31), (Op.move (Operand.tmp 34)), none, ann0⟩,
  ⟨(some 35), (Op.extract (Operand.tmp 31) 0), none, ann0⟩,
  ⟨(some 36), (Op.extract (Operand.tmp 31) 1), none, ann0⟩,
  ⟨(some 7), (Op.assign (Operand.tmp 35)), none, ann0⟩,
  ⟨(some 8), (Op.assign (Operand.tmp 36)), none, ann0⟩] none) (.tidy [0, 1, 5, 6, 7, 8] z (z + 0)))
 (.seq (.post (.reg [⟨(some 37), (Op.move (Operand.tmp 0)), none, ann0⟩,
  ⟨(some 38), (Op.call { callee := (Callee.value (Operand.func 39)), args := #[(Operand.tmp 37)], argTypes := #[22] }), none, ann0⟩,
  ⟨(some 39), (Op.buildSlice 22 0 #[]), none, ⟨1, false, false⟩⟩,
  ⟨(some 40), (Op.move (Operand.tmp 0)), none, ann0⟩,
  ⟨(some 41), (Op.call { callee := (Callee.builtin Builtin.append), args := #[(Operand.tmp 39), (Operand.tmp 40)], argTypes := #[22, 22] }), none, ann0⟩,
  ⟨(some 42), (Op.move (Operand.tmp 1)), none, ann0⟩,
  ⟨(some 43), (Op.call { callee := (Callee.builtin Builtin.append), args := #[(Operand.tmp 41), (Operand.tmp 42)], argTypes := #[22, 22] }), none, ann0⟩,
  ⟨(some 44), (Op.call { callee := (Callee.value (Operand.func 39)), args := #[(Operand.tmp 43)], argTypes := #[22] }), none, ann0⟩,
  ⟨(some 9), (Op.assign (Operand.tmp 38)), none, ann0⟩,
  ⟨(some 10), (Op.assign (Operand.tmp 44)), none, ann0⟩] none) (.tidy [5, 6, 7, 8, 9, 10] z (z + 1)))
 (.seq (.reg [⟨(some 45), (Op.move (Operand.tmp 9)), none, ann0⟩,
  ⟨(some 46), (Op.call { callee := (Callee.value (Operand.func 18)), args := #[(Operand.tmp 45)], argTypes := #[22] }), none, ann0⟩,
  ⟨(some 47), (Op.move (Operand.tmp 10)), none, ann0⟩,
  ⟨(some 48), (Op.call { callee := (Callee.value (Operand.func 18)), args := #[(Operand.tmp 47)], argTypes := #[22] }), none, ann0⟩,
  ⟨(some 11), (Op.assign (Operand.tmp 46)), none, ann0⟩,
  ⟨(some 12), (Op.assign (Operand.tmp 48)), none, ann0⟩] none)
 (.seq (.post (.seq (.reg [⟨(some 49), (Op.move (Operand.tmp 11)), none, ann0⟩,
  ⟨(some 50), (Op.binOp BinOp.neq 27 (Operand.tmp 49) (Operand.const (Value.int IntKind.i64 0)) 27), none, ann0⟩] none)
 (.cond (Operand.tmp 50) (.reg [⟨(some 9), (Op.assign (Operand.const (Value.slice none 0 0))), none, ann0⟩] none)
 .skip)) (.tidy [5, 6, 7, 8, 9, 10, 11, 12] z (z + 1)))
 (.seq (.seq (.reg [⟨(some 51), (Op.move (Operand.tmp 12)), none, ann0⟩,
  ⟨(some 52), (Op.binOp BinOp.neq 27 (Operand.tmp 51) (Operand.const (Value.int IntKind.i64 0)) 27), none, ann0⟩] none)
 (.cond (Operand.tmp 52) (.reg [⟨(some 10), (Op.assign (Operand.const (Value.slice none 0 0))), none, ann0⟩] none)
 .skip))
 (.seq (.post (.seq (.reg [⟨(some 53), (Op.move (Operand.tmp 12)), none, ann0⟩,
  ⟨(some 54), (Op.binOp BinOp.eql 27 (Operand.tmp 53) (Operand.const (Value.int IntKind.i64 9)) 27), none, ann0⟩] none)
 (.cond (Operand.tmp 54) (.reg [⟨(some 12), (Op.assign (Operand.const (Value.int IntKind.i64 17))), none, ann0⟩] none)
 .skip)) (.tidy [5, 6, 7, 8, 9, 10, 11, 12] z (z + 1)))
 (.seq (.reg [⟨(some 55), (Op.move (Operand.tmp 6)), none, ann0⟩,
  ⟨(some 56), (Op.move (Operand.tmp 11)), none, ann0⟩,
  ⟨(some 57), (Op.binOp BinOp.eql 27 (Operand.tmp 55) (Operand.tmp 56) 27), none, ann0⟩,
  ⟨(some 58), (Op.move (Operand.tmp 57)), none, ann0⟩,
  ⟨(some 59), (Op.move (Operand.tmp 8)), (some (58, true)), ann0⟩,
  ⟨(some 60), (Op.move (Operand.tmp 12)), (some (58, true)), ann0⟩,
  ⟨(some 61), (Op.binOp BinOp.eql 27 (Operand.tmp 59) (Operand.tmp 60) 27), (some (58, true)), ann0⟩,
  ⟨(some 62), (Op.pick (Operand.tmp 58) (Operand.tmp 61) (Operand.const (Value.bool false))), none, ann0⟩,
  ⟨(some 63), (Op.move (Operand.tmp 62)), none, ann0⟩,
  ⟨(some 64), (Op.move (Operand.tmp 5)), (some (63, true)), ann0⟩,
  ⟨(some 65), (Op.move (Operand.tmp 9)), (some (63, true)), ann0⟩,
  ⟨(some 66), (Op.call { callee := (Callee.value (Operand.func 33)), args := #[(Operand.tmp 64), (Operand.tmp 65)], argTypes := #[22, 22] }), (some (63, true)), ann0⟩,
  ⟨(some 67), (Op.pick (Operand.tmp 63) (Operand.tmp 66) (Operand.const (Value.bool false))), none, ann0⟩,
  ⟨(some 68), (Op.move (Operand.tmp 67)), none, ann0⟩,
  ⟨(some 69), (Op.move (Operand.tmp 7)), (some (68, true)), ann0⟩,
  ⟨(some 70), (Op.move (Operand.tmp 10)), (some (68, true)), ann0⟩,
  ⟨(some 71), (Op.call { callee := (Callee.value (Operand.func 33)), args := #[(Operand.tmp 69), (Operand.tmp 70)], argTypes := #[22, 22] }), (some (68, true)), ann0⟩,
  ⟨(some 72), (Op.pick (Operand.tmp 68) (Operand.tmp 71) (Operand.const (Value.bool false))), none, ann0⟩,
  ⟨(some 4), (Op.assign (Operand.tmp 72)), none, ann0⟩] none)
 .ret))))))))))⟩
theorem F12 (z : Nat) : FOk Try.prog 12 (s12 z) := by unfold FOk; kernel_rfl
def c13_1 (z : Nat) : SC := .post (.seq (.seq (.post (.reg [⟨(some 15), (Op.move (Operand.tmp 7)), none, ann0⟩,
  ⟨(some 16), (Op.move (Operand.tmp 5)), none, ann0⟩,
  ⟨(some 17), (Op.call { callee := (Callee.builtin Builtin.len), args := #[(Operand.tmp 16)], argTypes := #[22] }), none, ann0⟩,
  ⟨(some 18), (Op.binOp BinOp.lss 3 (Operand.tmp 15) (Operand.tmp 17) 3), none, ann0⟩] none) (.tidy [1, 5, 6, 7, 18] z (z + 1)))
 (.cond (Operand.tmp 18) .skip
 (.exit 0)))
 (.seq (.post (.block 1 (.reg [⟨(some 21), (Op.move (Operand.tmp 5)), none, ann0⟩,
  ⟨(some 22), (Op.move (Operand.tmp 7)), none, ann0⟩,
  ⟨(some 23), (Op.move (Operand.tmp 1)), none, ann0⟩,
  ⟨(some 24), (Op.convert 5 3 (Operand.tmp 23)), none, ann0⟩,
  ⟨(some 25), (Op.binOp BinOp.add 3 (Operand.tmp 22) (Operand.tmp 24) 3), none, ann0⟩,
  ⟨(some 26), (Op.move (Operand.tmp 5)), none, ann0⟩,
  ⟨(some 27), (Op.call { callee := (Callee.builtin Builtin.len), args := #[(Operand.tmp 26)], argTypes := #[22] }), none, ann0⟩,
  ⟨(some 28), (Op.binOp BinOp.rem 3 (Operand.tmp 25) (Operand.tmp 27) 3), none, ann0⟩,
  ⟨(some 29), (Op.indexAddr 22 (Operand.tmp 21) (Operand.tmp 28)), none, ann0⟩,
  ⟨(some 30), (Op.load 26 (Operand.tmp 29)), none, ann0⟩,
  ⟨(some 31), (Op.buildSlice 22 1 #[(0, (Operand.tmp 30))]), none, ⟨1, false, false⟩⟩,
  ⟨(some 32), (Op.move (Operand.tmp 6)), none, ann0⟩,
  ⟨(some 33), (Op.call { callee := (Callee.builtin Builtin.append), args := #[(Operand.tmp 31), (Operand.tmp 32)], argTypes := #[22, 22] }), none, ann0⟩,
  ⟨(some 6), (Op.assign (Operand.tmp 33)), none, ann0⟩] none)) (.tidy [1, 5, 6, 7] z (z + 2)))
 (.reg [⟨(some 19), (Op.move (Operand.tmp 7)), none, ann0⟩,
  ⟨(some 20), (Op.binOp BinOp.add 3 (Operand.tmp 19) (Operand.const (Value.int IntKind.i64 1)) 3), none, ann0⟩,
  ⟨(some 7), (Op.assign (Operand.tmp 20)), none, ann0⟩] none))) (.tidy [1, 5, 6, 7] z (z + 1))
def s13_1 (z : Nat) : SC := c13_1 z
theorem e13_1 {C : Pg} {z : Nat} {st : St} {ks : List Fr} {K : Ex → St → Prop} : wpk C (s13_1 z) st ks K ↔ wpk C (c13_1 z) st ks K := Iff.rfl
def s13 (z : Nat) : SFn := ⟨2, 76, [(ResultVar.tmp 4)],
 (.seq (.reg [⟨(some 4), (Op.assign (Operand.const (Value.bool false))), none, ann0⟩] none)
 (.seq (.reg [⟨(some 13), (Op.move (Operand.tmp 0)), none, ann0⟩,
  ⟨(some 14), (Op.call { callee := (Callee.value (Operand.func 19)), args := #[(Operand.tmp 13)], argTypes := #[30] }), none, ann0⟩,
  ⟨(some 5), (Op.assign (Operand.tmp 14)), none, ann0⟩] none)
 (.seq (.post (.reg [⟨(some 6), (Op.assign (Operand.const (Value.slice none 0 0))), none, ann0⟩] none) (.mkv 6 26 6))
 (.seq (.post (.seq (.reg [⟨(some 7), (Op.assign (Operand.const (Value.int IntKind.i64 0))), none, ann0⟩] none)
 (.post (.block 0 (.pre (.tidy [1, 5, 6, 7] z (z + 1)) (.loop (s13_1 z)))) (.tidy [1, 5, 6] z (z + 1)))) (.tidy [1, 5, 6] z (z + 1)))
 (.seq (.reg [⟨(some 8), (Op.assign (Operand.const (Value.int IntKind.i64 0))), none, ann0⟩] none)
 (.seq (.post (.seq (.reg [⟨(some 34), (Op.move (Operand.tmp 5)), none, ann0⟩,
  ⟨(some 35), (Op.call { callee := (Callee.builtin Builtin.len), args := #[(Operand.tmp 34)], argTypes := #[22] }), none, ann0⟩,
  ⟨(some 36), (Op.binOp BinOp.gtr 3 (Operand.tmp 35) (Operand.const (Value.int IntKind.i64 0)) 3), none, ann0⟩] none)
 (.cond (Operand.tmp 36) (.reg [⟨(some 37), (Op.move (Operand.tmp 1)), none, ann0⟩,
  ⟨(some 38), (Op.convert 5 3 (Operand.tmp 37)), none, ann0⟩,
  ⟨(some 39), (Op.move (Operand.tmp 5)), none, ann0⟩,
  ⟨(some 40), (Op.call { callee := (Callee.builtin Builtin.len), args := #[(Operand.tmp 39)], argTypes := #[22] }), none, ann0⟩,
  ⟨(some 41), (Op.binOp BinOp.rem 3 (Operand.tmp 38) (Operand.tmp 40) 3), none, ann0⟩,
  ⟨(some 8), (Op.assign (Operand.tmp 41)), none, ann0⟩] none)
 .skip)) (.tidy [5, 6, 8] z (z + 1)))
 (.seq (.post (.reg [⟨(some 43), (Op.move (Operand.tmp 6)), none, ann0⟩,
  ⟨(some 44), (Op.move (Operand.tmp 6)), none, ann0⟩,
  ⟨(some 45), (Op.call { callee := (Callee.builtin Builtin.append), args := #[(Operand.tmp 43), (Operand.tmp 44)], argTypes := #[22, 22] }), none, ann0⟩,
  ⟨(some 46), (Op.call { callee := (Callee.value (Operand.func 37)), args := #[(Operand.tmp 45)], argTypes := #[22] }), none, ann0⟩,
  ⟨(some 42), (Op.move (Operand.tmp 46)), none, ann0⟩,
  ⟨(some 47), (Op.extract (Operand.tmp 42) 0), none, ann0⟩,
  ⟨(some 48), (Op.extract (Operand.tmp 42) 1), none, ann0⟩,
  ⟨(some 9), (Op.assign (Operand.tmp 47)), none, ann0⟩,
  ⟨(some 10), (Op.assign (Operand.tmp 48)), none, ann0⟩] none) (.tidy [5, 6, 8, 9, 10] z (z + 1)))
 (.seq (.post (.reg [⟨(some 50), (Op.move (Operand.tmp 6)), none, ann0⟩,
  ⟨(some 51), (Op.move (Operand.tmp 8)), none, ann0⟩,
  ⟨(some 52), (Op.slice 22 (Operand.tmp 50) none (some (Operand.tmp 51)) none), none, ann0⟩,
  ⟨(some 53), (Op.move (Operand.tmp 6)), none, ann0⟩,
  ⟨(some 54), (Op.call { callee := (Callee.value (Operand.func 38)), args := #[(Operand.tmp 52), (Operand.tmp 53)], argTypes := #[22, 22] }), none, ann0⟩,
  ⟨(some 49), (Op.move (Operand.tmp 54)), none, ann0⟩,
  ⟨(some 55), (Op.extract (Operand.tmp 49) 0), none, ann0⟩,
  ⟨(some 56), (Op.extract (Operand.tmp 49) 1), none, ann0⟩,
  ⟨(some 11), (Op.assign (Operand.tmp 55)), none, ann0⟩,
  ⟨(some 12), (Op.assign (Operand.tmp 56)), none, ann0⟩] none) (.tidy [5, 9, 10, 11, 12] z (z + 1)))
 (.seq (.reg [⟨(some 57), (Op.call { callee := (Callee.value (Operand.func 14)), args := #[], argTypes := #[] }), none, ann0⟩,
  ⟨(some 58), (Op.move (Operand.tmp 57)), none, ann0⟩,
  ⟨(some 59), (Op.move (Operand.tmp 10)), (some (58, true)), ann0⟩,
  ⟨(some 60), (Op.binOp BinOp.eql 27 (Operand.tmp 59) (Operand.const (Value.int IntKind.i64 0)) 27), (some (58, true)), ann0⟩,
  ⟨(some 61), (Op.pick (Operand.tmp 58) (Operand.tmp 60) (Operand.const (Value.bool false))), none, ann0⟩,
  ⟨(some 62), (Op.move (Operand.tmp 61)), none, ann0⟩,
  ⟨(some 63), (Op.move (Operand.tmp 12)), (some (62, true)), ann0⟩,
  ⟨(some 64), (Op.binOp BinOp.eql 27 (Operand.tmp 63) (Operand.const (Value.int IntKind.i64 0)) 27), (some (62, true)), ann0⟩,
  ⟨(some 65), (Op.pick (Operand.tmp 62) (Operand.tmp 64) (Operand.const (Value.bool false))), none, ann0⟩,
  ⟨(some 66), (Op.move (Operand.tmp 65)), none, ann0⟩,
  ⟨(some 67), (Op.move (Operand.tmp 9)), (some (66, true)), ann0⟩,
  ⟨(some 68), (Op.move (Operand.tmp 5)), (some (66, true)), ann0⟩,
  ⟨(some 69), (Op.call { callee := (Callee.value (Operand.func 33)), args := #[(Operand.tmp 67), (Operand.tmp 68)], argTypes := #[22, 22] }), (some (66, true)), ann0⟩,
  ⟨(some 70), (Op.pick (Operand.tmp 66) (Operand.tmp 69) (Operand.const (Value.bool false))), none, ann0⟩,
  ⟨(some 71), (Op.move (Operand.tmp 70)), none, ann0⟩,
  ⟨(some 72), (Op.move (Operand.tmp 11)), (some (71, true)), ann0⟩,
  ⟨(some 73), (Op.move (Operand.tmp 5)), (some (71, true)), ann0⟩,
  ⟨(some 74), (Op.call { callee := (Callee.value (Operand.func 33)), args := #[(Operand.tmp 72), (Operand.tmp 73)], argTypes := #[22, 22] }), (some (71, true)), ann0⟩,
  ⟨(some 75), (Op.pick (Operand.tmp 71) (Operand.tmp 74) (Operand.const (Value.bool false))), none, ann0⟩,
  ⟨(some 4), (Op.assign (Operand.tmp 75)), none, ann0⟩] none)
 .ret)))))))))⟩
theorem F13 (z : Nat) : FOk Try.prog 13 (s13 z) := by unfold FOk; kernel_rfl
def AL (z : Nat) : List (Nat × SFn) := [(20, s20 z), (29, s29 z), (48, s48 z), (53, s53 z), (58, s58 z), (65, s65 z), (66, s66 z), (41, s41 z), (42, s42 z), (40, s40 z), (15, s15 z), (67, s67 z), (46, s46 z), (45, s45 z), (17, s17 z), (14, s14 z), (43, s43 z), (44, s44 z), (16, s16 z), (18, s18 z), (39, s39 z), (47, s47 z), (19, s19 z), (33, s33 z), (93, s93 z), (94, s94 z), (77, s77 z), (100, s100 z), (101, s101 z), (104, s104 z), (113, s113 z), (105, s105 z), (106, s106 z), (116, s116 z), (115, s115 z), (114, s114 z), (107, s107 z), (108, s108 z), (109, s109 z), (110, s110 z), (111, s111 z), (96, s96 z), (79, s79 z), (80, s80 z), (63, s63 z), (95, s95 z), (78, s78 z), (62, s62 z), (61, s61 z), (81, s81 z), (64, s64 z), (37, s37 z), (38, s38 z), (12, s12 z), (13, s13 z)]
def AA (f : FuncId) (_ : List AV) (obs : List AObj) : Option SFn := getF f (AL obs.length)
theorem AL_ok (z : Nat) : AllF Try.prog (AL z) := by
  simp only [AL, AllF]
  exact ⟨F20 z, F29 z, F48 z, F53 z, F58 z, F65 z, F66 z, F41 z, F42 z, F40 z, F15 z, F67 z, F46 z, F45 z, F17 z, F14 z, F43 z, F44 z, F16 z, F18 z, F39 z, F47 z, F19 z, F33 z, F93 z, F94 z, F77 z, F100 z, F101 z, F104 z, F113 z, F105 z, F106 z, F116 z, F115 z, F114 z, F107 z, F108 z, F109 z, F110 z, F111 z, F96 z, F79 z, F80 z, F63 z, F95 z, F78 z, F62 z, F61 z, F81 z, F64 z, F37 z, F38 z, F12 z, F13 z, trivial⟩
theorem AA_ok (f : FuncId) (xs : List AV) (obs : List AObj) (s : SFn) (h : AA f xs obs = some s) : (Try.prog.funcs[f]?).bind slimFn = some (s.erase Try.prog) := getF_ok (AL_ok _) h
def LL : List (Nat × SLoop) := [(6080, l95_0)]
def LT (k : Nat) : Option SLoop := getLp k LL
theorem LT_ok (k : Nat) (l : SLoop) (h : LT k = some l) : loopS Try.prog k = some (l.erase Try.prog) := getLp_ok (t := LL) (by
  simp only [LL, AllL]
  exact ⟨N95_0, trivial⟩) h
theorem L6080 : LT 6080 = some l95_0 := rfl
theorem A20 (xs : List AV) (obs : List AObj) : AA 20 xs obs = some (s20 obs.length) := rfl
theorem A29 (xs : List AV) (obs : List AObj) : AA 29 xs obs = some (s29 obs.length) := rfl
theorem A48 (xs : List AV) (obs : List AObj) : AA 48 xs obs = some (s48 obs.length) := rfl
theorem A53 (xs : List AV) (obs : List AObj) : AA 53 xs obs = some (s53 obs.length) := rfl
theorem A58 (xs : List AV) (obs : List AObj) : AA 58 xs obs = some (s58 obs.length) := rfl
theorem A65 (xs : List AV) (obs : List AObj) : AA 65 xs obs = some (s65 obs.length) := rfl
theorem A66 (xs : List AV) (obs : List AObj) : AA 66 xs obs = some (s66 obs.length) := rfl
theorem A41 (xs : List AV) (obs : List AObj) : AA 41 xs obs = some (s41 obs.length) := rfl
theorem A42 (xs : List AV) (obs : List AObj) : AA 42 xs obs = some (s42 obs.length) := rfl
theorem A40 (xs : List AV) (obs : List AObj) : AA 40 xs obs = some (s40 obs.length) := rfl
theorem A15 (xs : List AV) (obs : List AObj) : AA 15 xs obs = some (s15 obs.length) := rfl
theorem A67 (xs : List AV) (obs : List AObj) : AA 67 xs obs = some (s67 obs.length) := rfl
theorem A46 (xs : List AV) (obs : List AObj) : AA 46 xs obs = some (s46 obs.length) := rfl
theorem A45 (xs : List AV) (obs : List AObj) : AA 45 xs obs = some (s45 obs.length) := rfl
theorem A17 (xs : List AV) (obs : List AObj) : AA 17 xs obs = some (s17 obs.length) := rfl
theorem A14 (xs : List AV) (obs : List AObj) : AA 14 xs obs = some (s14 obs.length) := rfl
theorem A43 (xs : List AV) (obs : List AObj) : AA 43 xs obs = some (s43 obs.length) := rfl
theorem A44 (xs : List AV) (obs : List AObj) : AA 44 xs obs = some (s44 obs.length) := rfl
theorem A16 (xs : List AV) (obs : List AObj) : AA 16 xs obs = some (s16 obs.length) := rfl
theorem A18 (xs : List AV) (obs : List AObj) : AA 18 xs obs = some (s18 obs.length) := rfl
theorem A39 (xs : List AV) (obs : List AObj) : AA 39 xs obs = some (s39 obs.length) := rfl
theorem A47 (xs : List AV) (obs : List AObj) : AA 47 xs obs = some (s47 obs.length) := rfl
theorem A19 (xs : List AV) (obs : List AObj) : AA 19 xs obs = some (s19 obs.length) := rfl
theorem A33 (xs : List AV) (obs : List AObj) : AA 33 xs obs = some (s33 obs.length) := rfl
theorem A93 (xs : List AV) (obs : List AObj) : AA 93 xs obs = some (s93 obs.length) := rfl
theorem A94 (xs : List AV) (obs : List AObj) : AA 94 xs obs = some (s94 obs.length) := rfl
theorem A77 (xs : List AV) (obs : List AObj) : AA 77 xs obs = some (s77 obs.length) := rfl
theorem A100 (xs : List AV) (obs : List AObj) : AA 100 xs obs = some (s100 obs.length) := rfl
theorem A101 (xs : List AV) (obs : List AObj) : AA 101 xs obs = some (s101 obs.length) := rfl
theorem A104 (xs : List AV) (obs : List AObj) : AA 104 xs obs = some (s104 obs.length) := rfl
theorem A113 (xs : List AV) (obs : List AObj) : AA 113 xs obs = some (s113 obs.length) := rfl
theorem A105 (xs : List AV) (obs : List AObj) : AA 105 xs obs = some (s105 obs.length) := rfl
theorem A106 (xs : List AV) (obs : List AObj) : AA 106 xs obs = some (s106 obs.length) := rfl
theorem A116 (xs : List AV) (obs : List AObj) : AA 116 xs obs = some (s116 obs.length) := rfl
theorem A115 (xs : List AV) (obs : List AObj) : AA 115 xs obs = some (s115 obs.length) := rfl
theorem A114 (xs : List AV) (obs : List AObj) : AA 114 xs obs = some (s114 obs.length) := rfl
theorem A107 (xs : List AV) (obs : List AObj) : AA 107 xs obs = some (s107 obs.length) := rfl
theorem A108 (xs : List AV) (obs : List AObj) : AA 108 xs obs = some (s108 obs.length) := rfl
theorem A109 (xs : List AV) (obs : List AObj) : AA 109 xs obs = some (s109 obs.length) := rfl
theorem A110 (xs : List AV) (obs : List AObj) : AA 110 xs obs = some (s110 obs.length) := rfl
theorem A111 (xs : List AV) (obs : List AObj) : AA 111 xs obs = some (s111 obs.length) := rfl
theorem A96 (xs : List AV) (obs : List AObj) : AA 96 xs obs = some (s96 obs.length) := rfl
theorem A79 (xs : List AV) (obs : List AObj) : AA 79 xs obs = some (s79 obs.length) := rfl
theorem A80 (xs : List AV) (obs : List AObj) : AA 80 xs obs = some (s80 obs.length) := rfl
theorem A63 (xs : List AV) (obs : List AObj) : AA 63 xs obs = some (s63 obs.length) := rfl
theorem A95 (xs : List AV) (obs : List AObj) : AA 95 xs obs = some (s95 obs.length) := rfl
theorem A78 (xs : List AV) (obs : List AObj) : AA 78 xs obs = some (s78 obs.length) := rfl
theorem A62 (xs : List AV) (obs : List AObj) : AA 62 xs obs = some (s62 obs.length) := rfl
theorem A61 (xs : List AV) (obs : List AObj) : AA 61 xs obs = some (s61 obs.length) := rfl
theorem A81 (xs : List AV) (obs : List AObj) : AA 81 xs obs = some (s81 obs.length) := rfl
theorem A64 (xs : List AV) (obs : List AObj) : AA 64 xs obs = some (s64 obs.length) := rfl
theorem A37 (xs : List AV) (obs : List AObj) : AA 37 xs obs = some (s37 obs.length) := rfl
theorem A38 (xs : List AV) (obs : List AObj) : AA 38 xs obs = some (s38 obs.length) := rfl
theorem A12 (xs : List AV) (obs : List AObj) : AA 12 xs obs = some (s12 obs.length) := rfl
theorem A13 (xs : List AV) (obs : List AObj) : AA 13 xs obs = some (s13 obs.length) := rfl
end Go.Proofs.YteidaaobppjlbaaV
