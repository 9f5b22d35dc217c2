/- The table of types and the functions' code, with notes for the interpreter, and the facts that they are the program's: made by a program. -/
import Derived.Test.YteidaaobppjlbaaVC
import Derived.Test.YteidaaobppjlbaaProg
import Derived.KernelRfl
set_option linter.unusedVariables false
namespace Go.Proofs.YteidaaobppjlbaaV
open Go.RowKit

def TT : Tbl := [(3, ⟨.int .i64, 1, 8, [(.d (.int .i64 0))]⟩),
  (4, ⟨.bool, 1, 1, [(.d (.bool false))]⟩),
  (5, ⟨.int .u8, 1, 1, [(.d (.int .u8 0))]⟩),
  (9, ⟨.str, 1, 16, [(.d (.str ⟨#[]⟩))]⟩),
  (22, ⟨.slice 26, 1, 24, [(.d .nils)]⟩),
  (26, ⟨.struct [(0, 3, 1), (1, 3, 1), (2, 3, 1), (3, 9, 1), (4, 9, 1), (5, 9, 1)], 6, 72, [(.d (.int .i64 0)), (.d (.int .i64 0)), (.d (.int .i64 0)), (.d (.str ⟨#[]⟩)), (.d (.str ⟨#[]⟩)), (.d (.str ⟨#[]⟩))]⟩),
  (27, ⟨.int .i64, 1, 8, [(.d (.int .i64 0))]⟩),
  (30, ⟨.slice 99, 1, 24, [(.d .nils)]⟩),
  (32, ⟨.slice 39, 1, 24, [(.d .nils)]⟩),
  (37, ⟨.struct [(0, 3, 1), (1, 3, 1)], 2, 16, [(.d (.int .i64 0)), (.d (.int .i64 0))]⟩),
  (39, ⟨.struct [(0, 3, 1), (1, 9, 1), (2, 9, 1), (3, 37, 2)], 5, 56, [(.d (.int .i64 0)), (.d (.str ⟨#[]⟩)), (.d (.str ⟨#[]⟩)), (.d (.int .i64 0)), (.d (.int .i64 0))]⟩),
  (54, ⟨.slice 3, 1, 24, [(.d .nils)]⟩),
  (66, ⟨.slice 9, 1, 24, [(.d .nils)]⟩),
  (73, ⟨.map 3 4, 1, 8, [.nilm]⟩),
  (83, ⟨.slice 86, 1, 24, [(.d .nils)]⟩),
  (86, ⟨.struct [(0, 9, 1), (1, 9, 1)], 2, 32, [(.d (.str ⟨#[]⟩)), (.d (.str ⟨#[]⟩))]⟩),
  (99, ⟨.struct [(0, 5, 1), (1, 5, 1), (2, 5, 1), (3, 5, 1), (4, 5, 1)], 5, 5, [(.d (.int .u8 0)), (.d (.int .u8 0)), (.d (.int .u8 0)), (.d (.int .u8 0)), (.d (.int .u8 0))]⟩),
  (110, ⟨.int .u64, 1, 8, [(.d (.int .u64 0))]⟩),
  (114, ⟨.map 116 4, 1, 8, [.nilm]⟩),
  (116, ⟨.struct [(0, 3, 1), (1, 9, 1), (2, 9, 1)], 3, 40, [(.d (.int .i64 0)), (.d (.str ⟨#[]⟩)), (.d (.str ⟨#[]⟩))]⟩),
  (141, ⟨.int .i64, 1, 8, [(.d (.int .i64 0))]⟩),
  (148, ⟨.int .u32, 1, 4, [(.d (.int .u32 0))]⟩),
  (150, ⟨.int .u64, 1, 8, [(.d (.int .u64 0))]⟩)]
theorem TT_ok : TOk Try.prog TT := by unfold TOk; kernel_rfl
theorem T3 : TT.get 3 = some ⟨.int .i64, 1, 8, [(.d (.int .i64 0))]⟩ := by kernel_rfl
theorem T4 : TT.get 4 = some ⟨.bool, 1, 1, [(.d (.bool false))]⟩ := by kernel_rfl
theorem T5 : TT.get 5 = some ⟨.int .u8, 1, 1, [(.d (.int .u8 0))]⟩ := by kernel_rfl
theorem T9 : TT.get 9 = some ⟨.str, 1, 16, [(.d (.str ⟨#[]⟩))]⟩ := by kernel_rfl
theorem T22 : TT.get 22 = some ⟨.slice 26, 1, 24, [(.d .nils)]⟩ := by kernel_rfl
theorem T26 : TT.get 26 = some ⟨.struct [(0, 3, 1), (1, 3, 1), (2, 3, 1), (3, 9, 1), (4, 9, 1), (5, 9, 1)], 6, 72, [(.d (.int .i64 0)), (.d (.int .i64 0)), (.d (.int .i64 0)), (.d (.str ⟨#[]⟩)), (.d (.str ⟨#[]⟩)), (.d (.str ⟨#[]⟩))]⟩ := by kernel_rfl
theorem T27 : TT.get 27 = some ⟨.int .i64, 1, 8, [(.d (.int .i64 0))]⟩ := by kernel_rfl
theorem T30 : TT.get 30 = some ⟨.slice 99, 1, 24, [(.d .nils)]⟩ := by kernel_rfl
theorem T32 : TT.get 32 = some ⟨.slice 39, 1, 24, [(.d .nils)]⟩ := by kernel_rfl
theorem T37 : TT.get 37 = some ⟨.struct [(0, 3, 1), (1, 3, 1)], 2, 16, [(.d (.int .i64 0)), (.d (.int .i64 0))]⟩ := by kernel_rfl
theorem T39 : TT.get 39 = some ⟨.struct [(0, 3, 1), (1, 9, 1), (2, 9, 1), (3, 37, 2)], 5, 56, [(.d (.int .i64 0)), (.d (.str ⟨#[]⟩)), (.d (.str ⟨#[]⟩)), (.d (.int .i64 0)), (.d (.int .i64 0))]⟩ := by kernel_rfl
theorem T54 : TT.get 54 = some ⟨.slice 3, 1, 24, [(.d .nils)]⟩ := by kernel_rfl
theorem T66 : TT.get 66 = some ⟨.slice 9, 1, 24, [(.d .nils)]⟩ := by kernel_rfl
theorem T73 : TT.get 73 = some ⟨.map 3 4, 1, 8, [.nilm]⟩ := by kernel_rfl
theorem T83 : TT.get 83 = some ⟨.slice 86, 1, 24, [(.d .nils)]⟩ := by kernel_rfl
theorem T86 : TT.get 86 = some ⟨.struct [(0, 9, 1), (1, 9, 1)], 2, 32, [(.d (.str ⟨#[]⟩)), (.d (.str ⟨#[]⟩))]⟩ := by kernel_rfl
theorem T99 : TT.get 99 = some ⟨.struct [(0, 5, 1), (1, 5, 1), (2, 5, 1), (3, 5, 1), (4, 5, 1)], 5, 5, [(.d (.int .u8 0)), (.d (.int .u8 0)), (.d (.int .u8 0)), (.d (.int .u8 0)), (.d (.int .u8 0))]⟩ := by kernel_rfl
theorem T110 : TT.get 110 = some ⟨.int .u64, 1, 8, [(.d (.int .u64 0))]⟩ := by kernel_rfl
theorem T114 : TT.get 114 = some ⟨.map 116 4, 1, 8, [.nilm]⟩ := by kernel_rfl
theorem T116 : TT.get 116 = some ⟨.struct [(0, 3, 1), (1, 9, 1), (2, 9, 1)], 3, 40, [(.d (.int .i64 0)), (.d (.str ⟨#[]⟩)), (.d (.str ⟨#[]⟩))]⟩ := by kernel_rfl
theorem T141 : TT.get 141 = some ⟨.int .i64, 1, 8, [(.d (.int .i64 0))]⟩ := by kernel_rfl
theorem T148 : TT.get 148 = some ⟨.int .u32, 1, 4, [(.d (.int .u32 0))]⟩ := by kernel_rfl
theorem T150 : TT.get 150 = some ⟨.int .u64, 1, 8, [(.d (.int .u64 0))]⟩ := by kernel_rfl
def s65 (z : Nat) : SFn := ⟨1, 6, [(ResultVar.tmp 2)],
 (.seq (.reg [⟨(some 2), (Op.assign (Operand.const (Value.bool false))), none, ann0⟩] none)
 (.seq (.reg [⟨(some 3), (Op.move (Operand.tmp 0)), none, ann0⟩,
  ⟨(some 4), (Op.move (Operand.tmp 0)), none, ann0⟩,
  ⟨(some 5), (Op.binOp BinOp.neq 3 (Operand.tmp 3) (Operand.tmp 4) 3), none, ann0⟩,
  ⟨(some 2), (Op.assign (Operand.tmp 5)), none, ann0⟩] none)
 .ret))⟩
theorem F65 (z : Nat) : FOk Try.prog 65 (s65 z) := by unfold FOk; kernel_rfl
def s66 (z : Nat) : SFn := ⟨1, 6, [(ResultVar.tmp 2)],
 (.seq (.reg [⟨(some 2), (Op.assign (Operand.const (Value.bool false))), none, ann0⟩] none)
 (.seq (.reg [⟨(some 3), (Op.move (Operand.tmp 0)), none, ann0⟩,
  ⟨(some 4), (Op.move (Operand.tmp 0)), none, ann0⟩,
  ⟨(some 5), (Op.binOp BinOp.neq 9 (Operand.tmp 3) (Operand.tmp 4) 9), none, ann0⟩,
  ⟨(some 2), (Op.assign (Operand.tmp 5)), none, ann0⟩] none)
 .ret))⟩
theorem F66 (z : Nat) : FOk Try.prog 66 (s66 z) := by unfold FOk; kernel_rfl
def s41 (z : Nat) : SFn := ⟨2, 20, [(ResultVar.tmp 4)],
 (.seq (.reg [⟨(some 4), (Op.assign (Operand.const (Value.int IntKind.i64 0))), none, ann0⟩] none)
 (.seq (.reg [⟨(some 7), (Op.move (Operand.tmp 0)), none, ann0⟩,
  ⟨(some 8), (Op.call { callee := (Callee.value (Operand.func 65)), args := #[(Operand.tmp 7)], argTypes := #[3] }), none, ann0⟩,
  ⟨(some 5), (Op.assign (Operand.tmp 8)), none, ann0⟩] none)
 (.seq (.reg [⟨(some 9), (Op.move (Operand.tmp 1)), none, ann0⟩,
  ⟨(some 10), (Op.call { callee := (Callee.value (Operand.func 65)), args := #[(Operand.tmp 9)], argTypes := #[3] }), none, ann0⟩,
  ⟨(some 6), (Op.assign (Operand.tmp 10)), none, ann0⟩] none)
 (.seq (.seq (.reg [⟨(some 11), (Op.move (Operand.tmp 5)), none, ann0⟩] none)
 (.cond (Operand.tmp 11) (.seq (.post (.seq (.reg [⟨(some 12), (Op.move (Operand.tmp 6)), none, ann0⟩] none)
 (.cond (Operand.tmp 12) (.seq (.reg [⟨(some 4), (Op.assign (Operand.const (Value.int IntKind.i64 0))), none, ann0⟩] none)
 .ret)
 .skip)) (.tidy [] z (z + 0)))
 (.seq (.reg [⟨(some 4), (Op.assign (Operand.const (Value.int IntKind.i64 (-1)))), none, ann0⟩] none)
 .ret))
 .skip))
 (.seq (.seq (.reg [⟨(some 13), (Op.move (Operand.tmp 6)), none, ann0⟩] none)
 (.cond (Operand.tmp 13) (.seq (.reg [⟨(some 4), (Op.assign (Operand.const (Value.int IntKind.i64 1))), none, ann0⟩] none)
 .ret)
 .skip))
 (.seq (.seq (.post (.reg [⟨(some 14), (Op.move (Operand.tmp 0)), none, ann0⟩,
  ⟨(some 15), (Op.move (Operand.tmp 1)), none, ann0⟩,
  ⟨(some 16), (Op.binOp BinOp.lss 3 (Operand.tmp 14) (Operand.tmp 15) 3), none, ann0⟩] none) (.tidy [0, 1, 16] z (z + 0)))
 (.cond (Operand.tmp 16) (.seq (.reg [⟨(some 4), (Op.assign (Operand.const (Value.int IntKind.i64 (-1)))), none, ann0⟩] none)
 .ret)
 .skip))
 (.seq (.seq (.post (.reg [⟨(some 17), (Op.move (Operand.tmp 0)), none, ann0⟩,
  ⟨(some 18), (Op.move (Operand.tmp 1)), none, ann0⟩,
  ⟨(some 19), (Op.binOp BinOp.gtr 3 (Operand.tmp 17) (Operand.tmp 18) 3), none, ann0⟩] none) (.tidy [19] z (z + 0)))
 (.cond (Operand.tmp 19) (.seq (.reg [⟨(some 4), (Op.assign (Operand.const (Value.int IntKind.i64 1))), none, ann0⟩] none)
 .ret)
 .skip))
 (.seq (.reg [⟨(some 4), (Op.assign (Operand.const (Value.int IntKind.i64 0))), none, ann0⟩] none)
 .ret))))))))⟩
theorem F41 (z : Nat) : FOk Try.prog 41 (s41 z) := by unfold FOk; kernel_rfl
def s42 (z : Nat) : SFn := ⟨2, 20, [(ResultVar.tmp 4)],
 (.seq (.reg [⟨(some 4), (Op.assign (Operand.const (Value.int IntKind.i64 0))), none, ann0⟩] none)
 (.seq (.reg [⟨(some 7), (Op.move (Operand.tmp 0)), none, ann0⟩,
  ⟨(some 8), (Op.call { callee := (Callee.value (Operand.func 66)), args := #[(Operand.tmp 7)], argTypes := #[9] }), none, ann0⟩,
  ⟨(some 5), (Op.assign (Operand.tmp 8)), none, ann0⟩] none)
 (.seq (.reg [⟨(some 9), (Op.move (Operand.tmp 1)), none, ann0⟩,
  ⟨(some 10), (Op.call { callee := (Callee.value (Operand.func 66)), args := #[(Operand.tmp 9)], argTypes := #[9] }), none, ann0⟩,
  ⟨(some 6), (Op.assign (Operand.tmp 10)), none, ann0⟩] none)
 (.seq (.seq (.reg [⟨(some 11), (Op.move (Operand.tmp 5)), none, ann0⟩] none)
 (.cond (Operand.tmp 11) (.seq (.post (.seq (.reg [⟨(some 12), (Op.move (Operand.tmp 6)), none, ann0⟩] none)
 (.cond (Operand.tmp 12) (.seq (.reg [⟨(some 4), (Op.assign (Operand.const (Value.int IntKind.i64 0))), none, ann0⟩] none)
 .ret)
 .skip)) (.tidy [] z (z + 0)))
 (.seq (.reg [⟨(some 4), (Op.assign (Operand.const (Value.int IntKind.i64 (-1)))), none, ann0⟩] none)
 .ret))
 .skip))
 (.seq (.seq (.reg [⟨(some 13), (Op.move (Operand.tmp 6)), none, ann0⟩] none)
 (.cond (Operand.tmp 13) (.seq (.reg [⟨(some 4), (Op.assign (Operand.const (Value.int IntKind.i64 1))), none, ann0⟩] none)
 .ret)
 .skip))
 (.seq (.seq (.post (.reg [⟨(some 14), (Op.move (Operand.tmp 0)), none, ann0⟩,
  ⟨(some 15), (Op.move (Operand.tmp 1)), none, ann0⟩,
  ⟨(some 16), (Op.binOp BinOp.lss 9 (Operand.tmp 14) (Operand.tmp 15) 9), none, ann0⟩] none) (.tidy [0, 1, 16] z (z + 0)))
 (.cond (Operand.tmp 16) (.seq (.reg [⟨(some 4), (Op.assign (Operand.const (Value.int IntKind.i64 (-1)))), none, ann0⟩] none)
 .ret)
 .skip))
 (.seq (.seq (.post (.reg [⟨(some 17), (Op.move (Operand.tmp 0)), none, ann0⟩,
  ⟨(some 18), (Op.move (Operand.tmp 1)), none, ann0⟩,
  ⟨(some 19), (Op.binOp BinOp.gtr 9 (Operand.tmp 17) (Operand.tmp 18) 9), none, ann0⟩] none) (.tidy [19] z (z + 0)))
 (.cond (Operand.tmp 19) (.seq (.reg [⟨(some 4), (Op.assign (Operand.const (Value.int IntKind.i64 1))), none, ann0⟩] none)
 .ret)
 .skip))
 (.seq (.reg [⟨(some 4), (Op.assign (Operand.const (Value.int IntKind.i64 0))), none, ann0⟩] none)
 .ret))))))))⟩
theorem F42 (z : Nat) : FOk Try.prog 42 (s42 z) := by unfold FOk; kernel_rfl
def c40_1 (z : Nat) : SC := .post (.seq (.reg [⟨(some 9), (Op.binOp BinOp.lss 3 (Operand.tmp 8) (Operand.tmp 7) 3), none, ann0⟩] none)
 (.seq (.cond (Operand.tmp 9) .skip
 (.exit 0))
 (.seq (.post (.block 1 (.seq (.reg [⟨(some 10), (Op.indexAddr 54 (Operand.tmp 6) (Operand.tmp 8)), none, ann0⟩,
  ⟨(some 11), (Op.load 3 (Operand.tmp 10)), none, ann0⟩,
  ⟨(some 5), (Op.assign (Operand.tmp 11)), none, ann0⟩] none)
 (.seq (.reg [⟨(some 12), (Op.move (Operand.tmp 5)), none, ann0⟩,
  ⟨(some 13), (Op.move (Operand.tmp 3)), none, ann0⟩,
  ⟨(some 14), (Op.binOp BinOp.neq 3 (Operand.tmp 12) (Operand.tmp 13) 3), none, ann0⟩] none)
 (.cond (Operand.tmp 14) (.seq (.reg [⟨(some 15), (Op.move (Operand.tmp 5)), none, ann0⟩,
  ⟨(some 2), (Op.assign (Operand.tmp 15)), none, ann0⟩] none)
 .ret)
 .skip)))) (.tidy [3, 6, 7, 8] z (z + 0)))
 (.reg [⟨(some 16), (Op.binOp BinOp.add 3 (Operand.tmp 8) (Operand.const (Value.int IntKind.i64 1)) 3), none, ann0⟩,
  ⟨(some 8), (Op.move (Operand.tmp 16)), none, ann0⟩] none)))) (.tidy [3, 6, 7, 8] z (z + 0))
def s40_1 (z : Nat) : SC := c40_1 z
theorem e40_1 {C : Pg} {z : Nat} {st : St} {ks : List Fr} {K : Ex → St → Prop} : wpk C (s40_1 z) st ks K ↔ wpk C (c40_1 z) st ks K := Iff.rfl
def s40 (z : Nat) : SFn := ⟨1, 18, [(ResultVar.tmp 2)],
 (.seq (.reg [⟨(some 2), (Op.assign (Operand.const (Value.int IntKind.i64 0))), none, ann0⟩] none)
 (.seq (.reg [⟨(some 3), (Op.assign (Operand.const (Value.int IntKind.i64 0))), none, ann0⟩] none)
 (.seq (.post (.seq (.reg [⟨(some 6), (Op.move (Operand.tmp 0)), none, ann0⟩,
  ⟨(some 7), (Op.call { callee := (Callee.builtin Builtin.len), args := #[(Operand.tmp 6)], argTypes := #[54] }), none, ann0⟩,
  ⟨(some 8), (Op.move (Operand.const (Value.int IntKind.i64 0))), none, ann0⟩] none)
 (.post (.block 0 (.pre (.tidy [3, 6, 7, 8] z (z + 0)) (.loop (s40_1 z)))) (.tidy [3] z (z + 0)))) (.tidy [3] z (z + 0)))
 (.seq (.reg [⟨(some 17), (Op.move (Operand.tmp 3)), none, ann0⟩,
  ⟨(some 2), (Op.assign (Operand.tmp 17)), none, ann0⟩] none)
 .ret))))⟩
theorem F40 (z : Nat) : FOk Try.prog 40 (s40 z) := by unfold FOk; kernel_rfl
def s15 (z : Nat) : SFn := ⟨2, 37, [(ResultVar.tmp 4)],
 (.seq (.reg [⟨(some 2), (Op.box 26 (Operand.tmp 0)), none, ⟨1, false, false⟩⟩,
  ⟨(some 3), (Op.box 26 (Operand.tmp 1)), none, ⟨1, false, false⟩⟩,
  ⟨(some 4), (Op.assign (Operand.const (Value.int IntKind.i64 0))), none, ann0⟩] none)
 (.seq (.reg [⟨(some 5), (Op.fieldAddr 26 (Operand.tmp 2) 2), none, ann0⟩,
  ⟨(some 6), (Op.load 3 (Operand.tmp 5)), none, ann0⟩,
  ⟨(some 7), (Op.fieldAddr 26 (Operand.tmp 3) 2), none, ann0⟩,
  ⟨(some 8), (Op.load 3 (Operand.tmp 7)), none, ann0⟩,
  ⟨(some 9), (Op.call { callee := (Callee.value (Operand.func 41)), args := #[(Operand.tmp 6), (Operand.tmp 8)], argTypes := #[3, 3] }), none, ann0⟩,
  ⟨(some 10), (Op.fieldAddr 26 (Operand.tmp 2) 0), none, ann0⟩,
  ⟨(some 11), (Op.load 3 (Operand.tmp 10)), none, ann0⟩,
  ⟨(some 12), (Op.fieldAddr 26 (Operand.tmp 3) 0), none, ann0⟩,
  ⟨(some 13), (Op.load 3 (Operand.tmp 12)), none, ann0⟩,
  ⟨(some 14), (Op.call { callee := (Callee.value (Operand.func 41)), args := #[(Operand.tmp 11), (Operand.tmp 13)], argTypes := #[3, 3] }), none, ann0⟩,
  ⟨(some 15), (Op.fieldAddr 26 (Operand.tmp 2) 1), none, ann0⟩,
  ⟨(some 16), (Op.load 3 (Operand.tmp 15)), none, ann0⟩,
  ⟨(some 17), (Op.fieldAddr 26 (Operand.tmp 3) 1), none, ann0⟩,
  ⟨(some 18), (Op.load 3 (Operand.tmp 17)), none, ann0⟩,
  ⟨(some 19), (Op.call { callee := (Callee.value (Operand.func 41)), args := #[(Operand.tmp 16), (Operand.tmp 18)], argTypes := #[3, 3] }), none, ann0⟩,
  ⟨(some 20), (Op.fieldAddr 26 (Operand.tmp 2) 3), none, ann0⟩,
  ⟨(some 21), (Op.load 9 (Operand.tmp 20)), none, ann0⟩,
  ⟨(some 22), (Op.fieldAddr 26 (Operand.tmp 3) 3), none, ann0⟩,
  ⟨(some 23), (Op.load 9 (Operand.tmp 22)), none, ann0⟩,
  ⟨(some 24), (Op.call { callee := (Callee.value (Operand.func 42)), args := #[(Operand.tmp 21), (Operand.tmp 23)], argTypes := #[9, 9] }), none, ann0⟩,
  ⟨(some 25), (Op.fieldAddr 26 (Operand.tmp 2) 4), none, ann0⟩,
  ⟨(some 26), (Op.load 9 (Operand.tmp 25)), none, ann0⟩,
  ⟨(some 27), (Op.fieldAddr 26 (Operand.tmp 3) 4), none, ann0⟩,
  ⟨(some 28), (Op.load 9 (Operand.tmp 27)), none, ann0⟩,
  ⟨(some 29), (Op.call { callee := (Callee.value (Operand.func 42)), args := #[(Operand.tmp 26), (Operand.tmp 28)], argTypes := #[9, 9] }), none, ann0⟩,
  ⟨(some 30), (Op.fieldAddr 26 (Operand.tmp 2) 5), none, ann0⟩,
  ⟨(some 31), (Op.load 9 (Operand.tmp 30)), none, ann0⟩,
  ⟨(some 32), (Op.fieldAddr 26 (Operand.tmp 3) 5), none, ann0⟩,
  ⟨(some 33), (Op.load 9 (Operand.tmp 32)), none, ann0⟩,
  ⟨(some 34), (Op.call { callee := (Callee.value (Operand.func 42)), args := #[(Operand.tmp 31), (Operand.tmp 33)], argTypes := #[9, 9] }), none, ann0⟩,
  ⟨(some 35), (Op.buildSlice 54 6 #[(0, (Operand.tmp 9)), (1, (Operand.tmp 14)), (2, (Operand.tmp 19)), (3, (Operand.tmp 24)), (4, (Operand.tmp 29)), (5, (Operand.tmp 34))]), none, ⟨1, true, false⟩⟩,
  ⟨(some 36), (Op.call { callee := (Callee.value (Operand.func 40)), args := #[(Operand.tmp 35)], argTypes := #[54] }), none, ann0⟩,
  ⟨(some 4), (Op.assign (Operand.tmp 36)), none, ann0⟩] (some [0, 1, 0, 4, 15, 0, 32, 0, 128, 511, 0, 1024, 0, 4096, 16383, 0, 32768, 0, 131072, 524287, 0, 1048576, 0, 4194304, 16777215, 0, 33554432, 0, 134217728, 536870911, 1073741823, 2147483647, 4294967295]))
 .ret))⟩
theorem F15 (z : Nat) : FOk Try.prog 15 (s15 z) := by unfold FOk; kernel_rfl
def c67_1 (z : Nat) : SC := .post (.seq (.reg [⟨(some 11), (Op.binOp BinOp.lss 3 (Operand.tmp 10) (Operand.tmp 9) 3), none, ann0⟩] none)
 (.seq (.cond (Operand.tmp 11) .skip
 (.exit 0))
 (.seq (.post (.block 1 (.seq (.reg [⟨(some 12), (Op.move (Operand.tmp 10)), none, ann0⟩,
  ⟨(some 7), (Op.assign (Operand.tmp 12)), none, ann0⟩] none)
 (.seq (.post (.reg [⟨(some 13), (Op.move (Operand.tmp 0)), none, ann0⟩,
  ⟨(some 14), (Op.move (Operand.tmp 7)), none, ann0⟩,
  ⟨(some 15), (Op.index 9 (Operand.tmp 13) (Operand.tmp 14)), none, ann0⟩,
  ⟨(some 16), (Op.move (Operand.tmp 1)), none, ann0⟩,
  ⟨(some 17), (Op.binOp BinOp.lss 5 (Operand.tmp 15) (Operand.tmp 16) 5), none, ann0⟩,
  ⟨(some 18), (Op.move (Operand.tmp 17)), none, ann0⟩,
  ⟨(some 19), (Op.move (Operand.tmp 0)), (some (18, false)), ann0⟩,
  ⟨(some 20), (Op.move (Operand.tmp 7)), (some (18, false)), ann0⟩,
  ⟨(some 21), (Op.index 9 (Operand.tmp 19) (Operand.tmp 20)), (some (18, false)), ann0⟩,
  ⟨(some 22), (Op.move (Operand.tmp 2)), (some (18, false)), ann0⟩,
  ⟨(some 23), (Op.binOp BinOp.gtr 5 (Operand.tmp 21) (Operand.tmp 22) 5), (some (18, false)), ann0⟩,
  ⟨(some 24), (Op.pick (Operand.tmp 18) (Operand.const (Value.bool true)) (Operand.tmp 23)), none, ann0⟩] none) (.tidy [0, 1, 2, 9, 10, 24] z (z + 0)))
 (.cond (Operand.tmp 24) (.seq (.reg [⟨(some 6), (Op.assign (Operand.const (Value.bool false))), none, ann0⟩] none)
 .ret)
 .skip)))) (.tidy [0, 1, 2, 9, 10] z (z + 0)))
 (.reg [⟨(some 25), (Op.binOp BinOp.add 3 (Operand.tmp 10) (Operand.const (Value.int IntKind.i64 1)) 3), none, ann0⟩,
  ⟨(some 10), (Op.move (Operand.tmp 25)), none, ann0⟩] none)))) (.tidy [0, 1, 2, 9, 10] z (z + 0))
def s67_1 (z : Nat) : SC := c67_1 z
theorem e67_1 {C : Pg} {z : Nat} {st : St} {ks : List Fr} {K : Ex → St → Prop} : wpk C (s67_1 z) st ks K ↔ wpk C (c67_1 z) st ks K := Iff.rfl
def s67 (z : Nat) : SFn := ⟨3, 26, [(ResultVar.tmp 6)],
 (.seq (.reg [⟨(some 6), (Op.assign (Operand.const (Value.bool false))), none, ann0⟩] none)
 (.seq (.post (.seq (.reg [⟨(some 8), (Op.move (Operand.tmp 0)), none, ann0⟩,
  ⟨(some 9), (Op.call { callee := (Callee.builtin Builtin.len), args := #[(Operand.tmp 8)], argTypes := #[9] }), none, ann0⟩,
  ⟨(some 10), (Op.move (Operand.const (Value.int IntKind.i64 0))), none, ann0⟩] none)
 (.post (.block 0 (.pre (.tidy [0, 1, 2, 9, 10] z (z + 0)) (.loop (s67_1 z)))) (.tidy [] z (z + 0)))) (.tidy [] z (z + 0)))
 (.seq (.reg [⟨(some 6), (Op.assign (Operand.const (Value.bool true))), none, ann0⟩] none)
 .ret)))⟩
theorem F67 (z : Nat) : FOk Try.prog 67 (s67 z) := by unfold FOk; kernel_rfl
def s46 (z : Nat) : SFn := ⟨1, 14, [(ResultVar.tmp 2)],
 (.seq (.reg [⟨(some 2), (Op.assign (Operand.const (Value.bool false))), none, ann0⟩] none)
 (.seq (.reg [⟨(some 3), (Op.move (Operand.tmp 0)), none, ann0⟩,
  ⟨(some 4), (Op.binOp BinOp.neq 9 (Operand.tmp 3) (Operand.const (Value.string ⟨#[]⟩)) 9), none, ann0⟩,
  ⟨(some 5), (Op.move (Operand.tmp 4)), none, ann0⟩,
  ⟨(some 6), (Op.move (Operand.tmp 0)), (some (5, true)), ann0⟩,
  ⟨(some 7), (Op.call { callee := (Callee.builtin Builtin.len), args := #[(Operand.tmp 6)], argTypes := #[9] }), (some (5, true)), ann0⟩,
  ⟨(some 8), (Op.binOp BinOp.leq 3 (Operand.tmp 7) (Operand.const (Value.int IntKind.i64 64)) 3), (some (5, true)), ann0⟩,
  ⟨(some 9), (Op.pick (Operand.tmp 5) (Operand.tmp 8) (Operand.const (Value.bool false))), none, ann0⟩,
  ⟨(some 10), (Op.move (Operand.tmp 9)), none, ann0⟩,
  ⟨(some 11), (Op.move (Operand.tmp 0)), (some (10, true)), ann0⟩,
  ⟨(some 12), (Op.call { callee := (Callee.value (Operand.func 67)), args := #[(Operand.tmp 11), (Operand.const (Value.int IntKind.u8 33)), (Operand.const (Value.int IntKind.u8 126))], argTypes := #[9, 5, 5] }), (some (10, true)), ann0⟩,
  ⟨(some 13), (Op.pick (Operand.tmp 10) (Operand.tmp 12) (Operand.const (Value.bool false))), none, ann0⟩,
  ⟨(some 2), (Op.assign (Operand.tmp 13)), none, ann0⟩] none)
 .ret))⟩
theorem F46 (z : Nat) : FOk Try.prog 46 (s46 z) := by unfold FOk; kernel_rfl
def s45 (z : Nat) : SFn := ⟨1, 53, [(ResultVar.tmp 2)],
 (.seq (.reg [⟨(some 1), (Op.box 26 (Operand.tmp 0)), none, ⟨1, false, false⟩⟩,
  ⟨(some 2), (Op.assign (Operand.const (Value.int IntKind.i64 0))), none, ann0⟩] none)
 (.seq (.reg [⟨(some 5), (Op.fieldAddr 26 (Operand.tmp 1) 4), none, ann0⟩,
  ⟨(some 6), (Op.load 9 (Operand.tmp 5)), none, ann0⟩,
  ⟨(some 7), (Op.fieldAddr 26 (Operand.tmp 1) 5), none, ann0⟩,
  ⟨(some 8), (Op.load 9 (Operand.tmp 7)), none, ann0⟩,
  ⟨(some 3), (Op.assign (Operand.tmp 6)), none, ann0⟩,
  ⟨(some 4), (Op.assign (Operand.tmp 8)), none, ann0⟩] (some [0, 1, 0, 4, 3, 31]))
 (.seq (.seq (.post (.reg [⟨(some 9), (Op.fieldAddr 26 (Operand.tmp 1) 1), none, ann0⟩,
  ⟨(some 10), (Op.load 3 (Operand.tmp 9)), none, ann0⟩,
  ⟨(some 11), (Op.binOp BinOp.eql 3 (Operand.tmp 10) (Operand.const (Value.int IntKind.i64 1)) 3), none, ann0⟩] none) (.tidy [1, 3, 4, 11] z (z + 1)))
 (.cond (Operand.tmp 11) (.reg [⟨(some 12), (Op.move (Operand.tmp 4)), none, ann0⟩,
  ⟨(some 13), (Op.move (Operand.tmp 3)), none, ann0⟩,
  ⟨(some 3), (Op.assign (Operand.tmp 12)), none, ann0⟩,
  ⟨(some 4), (Op.assign (Operand.tmp 13)), none, ann0⟩] none)
 .skip))
 (.seq (.post (.block 0 (.seq (.post (.reg [⟨(some 15), (Op.fieldAddr 26 (Operand.tmp 1) 0), none, ann0⟩,
  ⟨(some 16), (Op.load 3 (Operand.tmp 15)), none, ann0⟩,
  ⟨(some 17), (Op.binOp BinOp.lss 3 (Operand.tmp 16) (Operand.const (Value.int IntKind.i64 1)) 3), none, ann0⟩,
  ⟨(some 18), (Op.move (Operand.tmp 17)), none, ann0⟩,
  ⟨(some 19), (Op.fieldAddr 26 (Operand.tmp 1) 0), (some (18, false)), ann0⟩,
  ⟨(some 20), (Op.load 3 (Operand.tmp 19)), (some (18, false)), ann0⟩,
  ⟨(some 21), (Op.binOp BinOp.gtr 3 (Operand.tmp 20) (Operand.const (Value.int IntKind.i64 1099511627776)) 3), (some (18, false)), ann0⟩,
  ⟨(some 22), (Op.pick (Operand.tmp 18) (Operand.const (Value.bool true)) (Operand.tmp 21)), none, ann0⟩,
  ⟨(some 14), (Op.assign (Operand.tmp 22)), none, ann0⟩] none) (.tidy [1, 3, 4, 14] z (z + 1)))
 (.cond (Operand.tmp 14) (.seq (.reg [⟨(some 2), (Op.assign (Operand.const (Value.int IntKind.i64 2))), none, ann0⟩] none)
 .ret)
 (.seq (.post (.reg [⟨(some 24), (Op.fieldAddr 26 (Operand.tmp 1) 1), none, ann0⟩,
  ⟨(some 25), (Op.load 3 (Operand.tmp 24)), none, ann0⟩,
  ⟨(some 26), (Op.binOp BinOp.lss 3 (Operand.tmp 25) (Operand.const (Value.int IntKind.i64 1)) 3), none, ann0⟩,
  ⟨(some 27), (Op.move (Operand.tmp 26)), none, ann0⟩,
  ⟨(some 28), (Op.fieldAddr 26 (Operand.tmp 1) 1), (some (27, false)), ann0⟩,
  ⟨(some 29), (Op.load 3 (Operand.tmp 28)), (some (27, false)), ann0⟩,
  ⟨(some 30), (Op.binOp BinOp.gtr 3 (Operand.tmp 29) (Operand.const (Value.int IntKind.i64 3)) 3), (some (27, false)), ann0⟩,
  ⟨(some 31), (Op.pick (Operand.tmp 27) (Operand.const (Value.bool true)) (Operand.tmp 30)), none, ann0⟩,
  ⟨(some 23), (Op.assign (Operand.tmp 31)), none, ann0⟩] none) (.tidy [1, 3, 4, 23] z (z + 1)))
 (.cond (Operand.tmp 23) (.seq (.reg [⟨(some 2), (Op.assign (Operand.const (Value.int IntKind.i64 12))), none, ann0⟩] none)
 .ret)
 (.seq (.post (.reg [⟨(some 33), (Op.fieldAddr 26 (Operand.tmp 1) 2), none, ann0⟩,
  ⟨(some 34), (Op.load 3 (Operand.tmp 33)), none, ann0⟩,
  ⟨(some 35), (Op.binOp BinOp.lss 3 (Operand.tmp 34) (Operand.const (Value.int IntKind.i64 0)) 3), none, ann0⟩,
  ⟨(some 36), (Op.move (Operand.tmp 35)), none, ann0⟩,
  ⟨(some 37), (Op.fieldAddr 26 (Operand.tmp 1) 2), (some (36, false)), ann0⟩,
  ⟨(some 38), (Op.load 3 (Operand.tmp 37)), (some (36, false)), ann0⟩,
  ⟨(some 39), (Op.binOp BinOp.gtr 3 (Operand.tmp 38) (Operand.const (Value.int IntKind.i64 1048576)) 3), (some (36, false)), ann0⟩,
  ⟨(some 40), (Op.pick (Operand.tmp 36) (Operand.const (Value.bool true)) (Operand.tmp 39)), none, ann0⟩,
  ⟨(some 32), (Op.assign (Operand.tmp 40)), none, ann0⟩] none) (.tidy [1, 3, 4, 32] z (z + 1)))
 (.cond (Operand.tmp 32) (.seq (.reg [⟨(some 2), (Op.assign (Operand.const (Value.int IntKind.i64 32))), none, ann0⟩] none)
 .ret)
 (.seq (.reg [⟨(some 42), (Op.fieldAddr 26 (Operand.tmp 1) 3), none, ann0⟩,
  ⟨(some 43), (Op.load 9 (Operand.tmp 42)), none, ann0⟩,
  ⟨(some 44), (Op.call { callee := (Callee.value (Operand.func 46)), args := #[(Operand.tmp 43)], argTypes := #[9] }), none, ann0⟩,
  ⟨(some 45), (Op.unOp UnOp.not 4 (Operand.tmp 44)), none, ann0⟩,
  ⟨(some 41), (Op.assign (Operand.tmp 45)), none, ann0⟩] none)
 (.cond (Operand.tmp 41) (.seq (.reg [⟨(some 2), (Op.assign (Operand.const (Value.int IntKind.i64 11))), none, ann0⟩] none)
 .ret)
 (.seq (.post (.reg [⟨(some 47), (Op.move (Operand.tmp 4)), none, ann0⟩,
  ⟨(some 48), (Op.binOp BinOp.neq 9 (Operand.tmp 47) (Operand.const (Value.string ⟨#[]⟩)) 9), none, ann0⟩,
  ⟨(some 46), (Op.assign (Operand.tmp 48)), none, ann0⟩] none) (.tidy [3, 46] z (z + 1)))
 (.cond (Operand.tmp 46) (.seq (.reg [⟨(some 2), (Op.assign (Operand.const (Value.int IntKind.i64 3))), none, ann0⟩] none)
 .ret)
 (.seq (.reg [⟨(some 50), (Op.move (Operand.tmp 3)), none, ann0⟩,
  ⟨(some 51), (Op.call { callee := (Callee.value (Operand.func 46)), args := #[(Operand.tmp 50)], argTypes := #[9] }), none, ann0⟩,
  ⟨(some 52), (Op.unOp UnOp.not 4 (Operand.tmp 51)), none, ann0⟩,
  ⟨(some 49), (Op.assign (Operand.tmp 52)), none, ann0⟩] none)
 (.cond (Operand.tmp 49) (.seq (.reg [⟨(some 2), (Op.assign (Operand.const (Value.int IntKind.i64 11))), none, ann0⟩] none)
 .ret)
 .skip))))))))))))) (.tidy [] z (z + 1)))
 (.seq (.reg [⟨(some 2), (Op.assign (Operand.const (Value.int IntKind.i64 0))), none, ann0⟩] none)
 .ret)))))⟩
theorem F45 (z : Nat) : FOk Try.prog 45 (s45 z) := by unfold FOk; kernel_rfl
def s58 (z : Nat) : SFn := ⟨1, 10, [(ResultVar.cell 2 116)],
 (.seq (.reg [⟨(some 1), (Op.box 26 (Operand.tmp 0)), none, ⟨1, false, false⟩⟩,
  ⟨(some 2), (Op.alloc 116), none, ⟨1, false, false⟩⟩] none)
 (.seq (.reg [⟨(some 3), (Op.fieldAddr 26 (Operand.tmp 1) 1), none, ann0⟩,
  ⟨(some 4), (Op.load 3 (Operand.tmp 3)), none, ann0⟩,
  ⟨(some 5), (Op.fieldAddr 26 (Operand.tmp 1) 3), none, ann0⟩,
  ⟨(some 6), (Op.load 9 (Operand.tmp 5)), none, ann0⟩,
  ⟨(some 7), (Op.fieldAddr 26 (Operand.tmp 1) 4), none, ann0⟩,
  ⟨(some 8), (Op.load 9 (Operand.tmp 7)), none, ann0⟩,
  ⟨(some 9), (Op.build 116 #[(0, (Operand.tmp 4)), (1, (Operand.tmp 6)), (2, (Operand.tmp 8))]), none, ann0⟩,
  ⟨none, (Op.store 116 (Operand.tmp 2) (Operand.tmp 9)), none, ann0⟩] none)
 .ret))⟩
theorem F58 (z : Nat) : FOk Try.prog 58 (s58 z) := by unfold FOk; kernel_rfl
def c48_1 (z : Nat) : SC := .post (.seq (.reg [⟨(some 20), (Op.binOp BinOp.lss 3 (Operand.tmp 19) (Operand.tmp 18) 3), none, ann0⟩] none)
 (.seq (.cond (Operand.tmp 20) .skip
 (.exit 0))
 (.seq (.post (.block 1 (.seq (.reg [⟨(some 21), (Op.indexAddr 22 (Operand.tmp 17) (Operand.tmp 19)), none, ann0⟩,
  ⟨(some 22), (Op.load 26 (Operand.tmp 21)), none, ann0⟩,
  ⟨(some 7), (Op.alloc 26), none, ⟨1, false, false⟩⟩,
  ⟨none, (Op.store 26 (Operand.tmp 7) (Operand.tmp 22)), none, ann0⟩] none)
 (.seq (.post (.reg [⟨(some 23), (Op.load 26 (Operand.tmp 7)), none, ann0⟩,
  ⟨(some 24), (Op.call { callee := (Callee.value (Operand.func 58)), args := #[(Operand.tmp 23)], argTypes := #[26] }), none, ann0⟩,
  ⟨(some 25), (Op.move (Operand.tmp 0)), none, ann0⟩,
  ⟨(some 26), (Op.move (Operand.tmp 1)), none, ann0⟩,
  ⟨(some 27), (Op.indexAddr 22 (Operand.tmp 25) (Operand.tmp 26)), none, ann0⟩,
  ⟨(some 28), (Op.load 26 (Operand.tmp 27)), none, ann0⟩,
  ⟨(some 29), (Op.call { callee := (Callee.value (Operand.func 58)), args := #[(Operand.tmp 28)], argTypes := #[26] }), none, ann0⟩,
  ⟨(some 30), (Op.binOp BinOp.eql 116 (Operand.tmp 24) (Operand.tmp 29) 116), none, ann0⟩] (some [0, 1, 0, 0, 12, 28, 63, 127])) (.tidy [0, 1, 4, 5, 7, 17, 18, 19, 30] z (z + 3)))
 (.cond (Operand.tmp 30) (.seq (.reg [⟨(some 31), (Op.fieldAddr 26 (Operand.tmp 7) 2), none, ann0⟩,
  ⟨(some 32), (Op.load 3 (Operand.tmp 31)), none, ann0⟩,
  ⟨(some 33), (Op.fieldAddr 37 (Operand.tmp 5) 1), none, ann0⟩,
  ⟨none, (Op.store 3 (Operand.tmp 33) (Operand.tmp 32)), none, ann0⟩] none)
 (.exit 0))
 .skip)))) (.tidy [0, 1, 4, 5, 17, 18, 19] z (z + 3)))
 (.reg [⟨(some 34), (Op.binOp BinOp.add 3 (Operand.tmp 19) (Operand.const (Value.int IntKind.i64 1)) 3), none, ann0⟩,
  ⟨(some 19), (Op.move (Operand.tmp 34)), none, ann0⟩] none)))) (.tidy [0, 1, 4, 5, 17, 18, 19] z (z + 2))
def s48_1 (z : Nat) : SC := c48_1 z
theorem e48_1 {C : Pg} {z : Nat} {st : St} {ks : List Fr} {K : Ex → St → Prop} : wpk C (s48_1 z) st ks K ↔ wpk C (c48_1 z) st ks K := Iff.rfl
def s48 (z : Nat) : SFn := ⟨2, 42, [(ResultVar.cell 4 37)],
 (.seq (.reg [⟨(some 4), (Op.alloc 37), none, ⟨1, false, false⟩⟩] none)
 (.seq (.post (.reg [⟨(some 8), (Op.move (Operand.tmp 0)), none, ann0⟩,
  ⟨(some 9), (Op.move (Operand.tmp 1)), none, ann0⟩,
  ⟨(some 10), (Op.indexAddr 22 (Operand.tmp 8) (Operand.tmp 9)), none, ann0⟩,
  ⟨(some 11), (Op.fieldAddr 26 (Operand.tmp 10) 2), none, ann0⟩,
  ⟨(some 12), (Op.load 3 (Operand.tmp 11)), none, ann0⟩,
  ⟨(some 13), (Op.build 37 #[(0, (Operand.tmp 12)), (1, (Operand.const (Value.int IntKind.i64 1048577)))]), none, ann0⟩,
  ⟨(some 5), (Op.alloc 37), none, ⟨1, false, false⟩⟩,
  ⟨none, (Op.store 37 (Operand.tmp 5) (Operand.tmp 13)), none, ann0⟩] none) (.tidy [0, 1, 4, 5] z (z + 2)))
 (.seq (.post (.seq (.reg [⟨(some 14), (Op.move (Operand.tmp 0)), none, ann0⟩,
  ⟨(some 15), (Op.move (Operand.tmp 1)), none, ann0⟩,
  ⟨(some 16), (Op.binOp BinOp.add 3 (Operand.tmp 15) (Operand.const (Value.int IntKind.i64 1)) 3), none, ann0⟩,
  ⟨(some 17), (Op.slice 22 (Operand.tmp 14) (some (Operand.tmp 16)) none none), none, ann0⟩,
  ⟨(some 18), (Op.call { callee := (Callee.builtin Builtin.len), args := #[(Operand.tmp 17)], argTypes := #[22] }), none, ann0⟩,
  ⟨(some 19), (Op.move (Operand.const (Value.int IntKind.i64 0))), none, ann0⟩] none)
 (.post (.block 0 (.pre (.tidy [0, 1, 4, 5, 17, 18, 19] z (z + 2)) (.loop (s48_1 z)))) (.tidy [4, 5] z (z + 2)))) (.tidy [4, 5] z (z + 2)))
 (.seq (.post (.seq (.reg [⟨(some 35), (Op.fieldAddr 37 (Operand.tmp 5) 0), none, ann0⟩,
  ⟨(some 36), (Op.load 3 (Operand.tmp 35)), none, ann0⟩,
  ⟨(some 37), (Op.fieldAddr 37 (Operand.tmp 5) 1), none, ann0⟩,
  ⟨(some 38), (Op.load 3 (Operand.tmp 37)), none, ann0⟩,
  ⟨(some 39), (Op.binOp BinOp.geq 3 (Operand.tmp 36) (Operand.tmp 38) 3), none, ann0⟩] none)
 (.cond (Operand.tmp 39) (.seq (.reg [⟨(some 40), (Op.build 37 #[]), none, ann0⟩,
  ⟨none, (Op.store 37 (Operand.tmp 4) (Operand.tmp 40)), none, ann0⟩] none)
 .ret)
 .skip)) (.tidy [4, 5] z (z + 2)))
 (.seq (.reg [⟨(some 41), (Op.load 37 (Operand.tmp 5)), none, ann0⟩,
  ⟨none, (Op.store 37 (Operand.tmp 4) (Operand.tmp 41)), none, ann0⟩] none)
 .ret)))))⟩
theorem F48 (z : Nat) : FOk Try.prog 48 (s48 z) := by unfold FOk; kernel_rfl
def s53 (z : Nat) : SFn := ⟨2, 15, [(ResultVar.tmp 4)],
 (.seq (.reg [⟨(some 2), (Op.box 37 (Operand.tmp 0)), none, ⟨1, false, false⟩⟩,
  ⟨(some 4), (Op.assign (Operand.const (Value.bool false))), none, ann0⟩] none)
 (.seq (.reg [⟨(some 5), (Op.fieldAddr 37 (Operand.tmp 2) 0), none, ann0⟩,
  ⟨(some 6), (Op.load 3 (Operand.tmp 5)), none, ann0⟩,
  ⟨(some 7), (Op.move (Operand.tmp 1)), none, ann0⟩,
  ⟨(some 8), (Op.binOp BinOp.leq 3 (Operand.tmp 6) (Operand.tmp 7) 3), none, ann0⟩,
  ⟨(some 9), (Op.move (Operand.tmp 8)), none, ann0⟩,
  ⟨(some 10), (Op.move (Operand.tmp 1)), (some (9, true)), ann0⟩,
  ⟨(some 11), (Op.fieldAddr 37 (Operand.tmp 2) 1), (some (9, true)), ann0⟩,
  ⟨(some 12), (Op.load 3 (Operand.tmp 11)), (some (9, true)), ann0⟩,
  ⟨(some 13), (Op.binOp BinOp.lss 3 (Operand.tmp 10) (Operand.tmp 12) 3), (some (9, true)), ann0⟩,
  ⟨(some 14), (Op.pick (Operand.tmp 9) (Operand.tmp 13) (Operand.const (Value.bool false))), none, ann0⟩,
  ⟨(some 4), (Op.assign (Operand.tmp 14)), none, ann0⟩] none)
 .ret))⟩
theorem F53 (z : Nat) : FOk Try.prog 53 (s53 z) := by unfold FOk; kernel_rfl
def c17_1 (z : Nat) : SC := .post (.seq (.reg [⟨(some 14), (Op.binOp BinOp.lss 3 (Operand.tmp 13) (Operand.tmp 12) 3), none, ann0⟩] none)
 (.seq (.cond (Operand.tmp 14) .skip
 (.exit 0))
 (.seq (.post (.block 1 (.seq (.reg [⟨(some 15), (Op.move (Operand.tmp 13)), none, ann0⟩,
  ⟨(some 16), (Op.indexAddr 22 (Operand.tmp 11) (Operand.tmp 13)), none, ann0⟩,
  ⟨(some 17), (Op.load 26 (Operand.tmp 16)), none, ann0⟩,
  ⟨(some 5), (Op.alloc 26), none, ⟨1, false, false⟩⟩,
  ⟨(some 4), (Op.assign (Operand.tmp 15)), none, ann0⟩,
  ⟨none, (Op.store 26 (Operand.tmp 5) (Operand.tmp 17)), none, ann0⟩] none)
 (.seq (.post (.seq (.post (.reg [⟨(some 18), (Op.load 26 (Operand.tmp 5)), none, ann0⟩,
  ⟨(some 19), (Op.call { callee := (Callee.value (Operand.func 45)), args := #[(Operand.tmp 18)], argTypes := #[26] }), none, ann0⟩,
  ⟨(some 6), (Op.assign (Operand.tmp 19)), none, ann0⟩] none) (.tidy [0, 3, 4, 5, 6, 11, 12, 13] z (z + 2)))
 (.seq (.reg [⟨(some 20), (Op.move (Operand.tmp 6)), none, ann0⟩,
  ⟨(some 21), (Op.binOp BinOp.neq 27 (Operand.tmp 20) (Operand.const (Value.int IntKind.i64 0)) 27), none, ann0⟩] none)
 (.cond (Operand.tmp 21) (.seq (.reg [⟨(some 22), (Op.move (Operand.tmp 6)), none, ann0⟩,
  ⟨(some 2), (Op.assign (Operand.tmp 22)), none, ann0⟩] none)
 .ret)
 .skip))) (.tidy [0, 3, 4, 5, 11, 12, 13] z (z + 2)))
 (.seq (.post (.block 2 (.seq (.post (.reg [⟨(some 24), (Op.move (Operand.tmp 4)), none, ann0⟩,
  ⟨(some 25), (Op.binOp BinOp.gtr 3 (Operand.tmp 24) (Operand.const (Value.int IntKind.i64 0)) 3), none, ann0⟩,
  ⟨(some 26), (Op.move (Operand.tmp 25)), none, ann0⟩,
  ⟨(some 27), (Op.load 26 (Operand.tmp 5)), (some (26, true)), ann0⟩,
  ⟨(some 28), (Op.move (Operand.tmp 0)), (some (26, true)), ann0⟩,
  ⟨(some 29), (Op.move (Operand.tmp 4)), (some (26, true)), ann0⟩,
  ⟨(some 30), (Op.binOp BinOp.sub 3 (Operand.tmp 29) (Operand.const (Value.int IntKind.i64 1)) 3), (some (26, true)), ann0⟩,
  ⟨(some 31), (Op.indexAddr 22 (Operand.tmp 28) (Operand.tmp 30)), (some (26, true)), ann0⟩,
  ⟨(some 32), (Op.load 26 (Operand.tmp 31)), (some (26, true)), ann0⟩,
  ⟨(some 33), (Op.call { callee := (Callee.value (Operand.func 15)), args := #[(Operand.tmp 27), (Operand.tmp 32)], argTypes := #[26, 26] }), (some (26, true)), ann0⟩,
  ⟨(some 34), (Op.binOp BinOp.lss 3 (Operand.tmp 33) (Operand.const (Value.int IntKind.i64 0)) 3), (some (26, true)), ann0⟩,
  ⟨(some 35), (Op.pick (Operand.tmp 26) (Operand.tmp 34) (Operand.const (Value.bool false))), none, ann0⟩,
  ⟨(some 23), (Op.assign (Operand.tmp 35)), none, ann0⟩] (some [0, 1, 3, 7, 7, 7, 39, 119, 247, 511, 1023, 2047, 4095])) (.tidy [0, 3, 5, 11, 12, 13, 23] z (z + 2)))
 (.cond (Operand.tmp 23) (.seq (.reg [⟨(some 2), (Op.assign (Operand.const (Value.int IntKind.i64 8))), none, ann0⟩] none)
 .ret)
 (.seq (.reg [⟨(some 37), (Op.move (Operand.tmp 3)), none, ann0⟩,
  ⟨(some 38), (Op.fieldAddr 26 (Operand.tmp 5) 0), none, ann0⟩,
  ⟨(some 39), (Op.load 3 (Operand.tmp 38)), none, ann0⟩,
  ⟨(some 40), (Op.lookup 73 (Operand.tmp 37) (Operand.tmp 39) false), none, ann0⟩,
  ⟨(some 36), (Op.assign (Operand.tmp 40)), none, ann0⟩] none)
 (.cond (Operand.tmp 36) (.seq (.reg [⟨(some 2), (Op.assign (Operand.const (Value.int IntKind.i64 9))), none, ann0⟩] none)
 .ret)
 .skip))))) (.tidy [0, 3, 5, 11, 12, 13] z (z + 2)))
 (.reg [⟨(some 41), (Op.move (Operand.tmp 3)), none, ann0⟩,
  ⟨(some 42), (Op.fieldAddr 26 (Operand.tmp 5) 0), none, ann0⟩,
  ⟨(some 43), (Op.load 3 (Operand.tmp 42)), none, ann0⟩,
  ⟨none, (Op.mapUpdate 73 (Operand.tmp 41) (Operand.tmp 43) (Operand.const (Value.bool true))), none, ann0⟩] none))))) (.tidy [0, 3, 11, 12, 13] z (z + 2)))
 (.reg [⟨(some 44), (Op.binOp BinOp.add 3 (Operand.tmp 13) (Operand.const (Value.int IntKind.i64 1)) 3), none, ann0⟩,
  ⟨(some 13), (Op.move (Operand.tmp 44)), none, ann0⟩] none)))) (.tidy [0, 3, 11, 12, 13] z (z + 1))
def s17_1 (z : Nat) : SC := c17_1 z
theorem e17_1 {C : Pg} {z : Nat} {st : St} {ks : List Fr} {K : Ex → St → Prop} : wpk C (s17_1 z) st ks K ↔ wpk C (c17_1 z) st ks K := Iff.rfl
def s17 (z : Nat) : SFn := ⟨1, 45, [(ResultVar.tmp 2)],
 (.seq (.reg [⟨(some 2), (Op.assign (Operand.const (Value.int IntKind.i64 0))), none, ann0⟩] none)
 (.seq (.post (.seq (.reg [⟨(some 7), (Op.move (Operand.tmp 0)), none, ann0⟩,
  ⟨(some 8), (Op.call { callee := (Callee.builtin Builtin.len), args := #[(Operand.tmp 7)], argTypes := #[22] }), none, ann0⟩,
  ⟨(some 9), (Op.binOp BinOp.gtr 3 (Operand.tmp 8) (Operand.const (Value.int IntKind.i64 256)) 3), none, ann0⟩] none)
 (.cond (Operand.tmp 9) (.seq (.reg [⟨(some 2), (Op.assign (Operand.const (Value.int IntKind.i64 6))), none, ann0⟩] none)
 .ret)
 .skip)) (.tidy [0] z (z + 0)))
 (.seq (.reg [⟨(some 10), (Op.makeMap 73 none), none, ⟨1, false, false⟩⟩,
  ⟨(some 3), (Op.assign (Operand.tmp 10)), none, ann0⟩] none)
 (.seq (.post (.seq (.reg [⟨(some 11), (Op.move (Operand.tmp 0)), none, ann0⟩,
  ⟨(some 12), (Op.call { callee := (Callee.builtin Builtin.len), args := #[(Operand.tmp 11)], argTypes := #[22] }), none, ann0⟩,
  ⟨(some 13), (Op.move (Operand.const (Value.int IntKind.i64 0))), none, ann0⟩] none)
 (.post (.block 0 (.pre (.tidy [0, 3, 11, 12, 13] z (z + 1)) (.loop (s17_1 z)))) (.tidy [] z (z + 1)))) (.tidy [] z (z + 1)))
 (.seq (.reg [⟨(some 2), (Op.assign (Operand.const (Value.int IntKind.i64 0))), none, ann0⟩] none)
 .ret)))))⟩
theorem F17 (z : Nat) : FOk Try.prog 17 (s17 z) := by unfold FOk; kernel_rfl
def c20_1 (z : Nat) : SC := .post (.seq (.reg [⟨(some 10), (Op.binOp BinOp.lss 3 (Operand.tmp 9) (Operand.tmp 8) 3), none, ann0⟩] none)
 (.seq (.cond (Operand.tmp 10) .skip
 (.exit 0))
 (.seq (.post (.block 1 (.seq (.reg [⟨(some 11), (Op.move (Operand.tmp 9)), none, ann0⟩,
  ⟨(some 12), (Op.indexAddr 22 (Operand.tmp 7) (Operand.tmp 9)), none, ann0⟩,
  ⟨(some 13), (Op.load 26 (Operand.tmp 12)), none, ann0⟩,
  ⟨(some 5), (Op.alloc 26), none, ⟨1, false, false⟩⟩,
  ⟨(some 4), (Op.assign (Operand.tmp 11)), none, ann0⟩,
  ⟨none, (Op.store 26 (Operand.tmp 5) (Operand.tmp 13)), none, ann0⟩] none)
 (.seq (.post (.reg [⟨(some 14), (Op.move (Operand.tmp 0)), none, ann0⟩,
  ⟨(some 15), (Op.move (Operand.tmp 4)), none, ann0⟩,
  ⟨(some 16), (Op.call { callee := (Callee.value (Operand.func 48)), args := #[(Operand.tmp 14), (Operand.tmp 15)], argTypes := #[22, 3] }), none, ann0⟩,
  ⟨(some 6), (Op.alloc 37), none, ⟨1, false, false⟩⟩,
  ⟨none, (Op.store 37 (Operand.tmp 6) (Operand.tmp 16)), none, ann0⟩] none) (.tidy [0, 3, 5, 6, 7, 8, 9] z (z + 3)))
 (.seq (.post (.reg [⟨(some 17), (Op.fieldAddr 26 (Operand.tmp 5) 1), none, ann0⟩,
  ⟨(some 18), (Op.load 3 (Operand.tmp 17)), none, ann0⟩,
  ⟨(some 19), (Op.binOp BinOp.eql 3 (Operand.tmp 18) (Operand.const (Value.int IntKind.i64 1)) 3), none, ann0⟩,
  ⟨(some 20), (Op.move (Operand.tmp 19)), none, ann0⟩,
  ⟨(some 21), (Op.load 37 (Operand.tmp 6)), (some (20, true)), ann0⟩,
  ⟨(some 22), (Op.build 37 #[]), (some (20, true)), ann0⟩,
  ⟨(some 23), (Op.binOp BinOp.neq 37 (Operand.tmp 21) (Operand.tmp 22) 37), (some (20, true)), ann0⟩,
  ⟨(some 24), (Op.pick (Operand.tmp 20) (Operand.tmp 23) (Operand.const (Value.bool false))), none, ann0⟩] none) (.tidy [0, 3, 5, 6, 7, 8, 9, 24] z (z + 3)))
 (.cond (Operand.tmp 24) (.reg [⟨(some 25), (Op.move (Operand.tmp 3)), none, ann0⟩,
  ⟨(some 26), (Op.fieldAddr 26 (Operand.tmp 5) 0), none, ann0⟩,
  ⟨(some 27), (Op.load 3 (Operand.tmp 26)), none, ann0⟩,
  ⟨(some 28), (Op.fieldAddr 26 (Operand.tmp 5) 3), none, ann0⟩,
  ⟨(some 29), (Op.load 9 (Operand.tmp 28)), none, ann0⟩,
  ⟨(some 30), (Op.fieldAddr 26 (Operand.tmp 5) 5), none, ann0⟩,
  ⟨(some 31), (Op.load 9 (Operand.tmp 30)), none, ann0⟩,
  ⟨(some 32), (Op.load 37 (Operand.tmp 6)), none, ann0⟩,
  ⟨(some 33), (Op.build 39 #[(0, (Operand.tmp 27)), (1, (Operand.tmp 29)), (2, (Operand.tmp 31)), (3, (Operand.tmp 32))]), none, ann0⟩,
  ⟨(some 34), (Op.buildSlice 32 1 #[(0, (Operand.tmp 33))]), none, ⟨1, true, false⟩⟩,
  ⟨(some 35), (Op.call { callee := (Callee.builtin Builtin.append), args := #[(Operand.tmp 25), (Operand.tmp 34)], argTypes := #[32, 32] }), none, ann0⟩,
  ⟨(some 3), (Op.assign (Operand.tmp 35)), none, ann0⟩] none)
 .skip))))) (.tidy [0, 3, 7, 8, 9] z (z + 4)))
 (.reg [⟨(some 36), (Op.binOp BinOp.add 3 (Operand.tmp 9) (Operand.const (Value.int IntKind.i64 1)) 3), none, ann0⟩,
  ⟨(some 9), (Op.move (Operand.tmp 36)), none, ann0⟩] none)))) (.tidy [0, 3, 7, 8, 9] z (z + 1))
def s20_1 (z : Nat) : SC := c20_1 z
theorem e20_1 {C : Pg} {z : Nat} {st : St} {ks : List Fr} {K : Ex → St → Prop} : wpk C (s20_1 z) st ks K ↔ wpk C (c20_1 z) st ks K := Iff.rfl
def s20 (z : Nat) : SFn := ⟨1, 38, [(ResultVar.tmp 2)],
 (.post (.seq (.reg [⟨(some 2), (Op.assign (Operand.const (Value.slice none 0 0))), none, ann0⟩] none)
 (.seq (.post (.reg [⟨(some 3), (Op.assign (Operand.const (Value.slice none 0 0))), none, ann0⟩] none) (.mkv 3 39 5))
 (.seq (.post (.seq (.reg [⟨(some 7), (Op.move (Operand.tmp 0)), none, ann0⟩,
  ⟨(some 8), (Op.call { callee := (Callee.builtin Builtin.len), args := #[(Operand.tmp 7)], argTypes := #[22] }), none, ann0⟩,
  ⟨(some 9), (Op.move (Operand.const (Value.int IntKind.i64 0))), none, ann0⟩] none)
 (.post (.block 0 (.pre (.tidy [0, 3, 7, 8, 9] z (z + 1)) (.loop (s20_1 z)))) (.tidy [3] z (z + 1)))) (.tidy [3] z (z + 1)))
 (.seq (.reg [⟨(some 37), (Op.move (Operand.tmp 3)), none, ann0⟩,
  ⟨(some 2), (Op.assign (Operand.tmp 37)), none, ann0⟩] none)
 .ret)))) (.frz 2))⟩
theorem F20 (z : Nat) : FOk Try.prog 20 (s20 z) := by unfold FOk; kernel_rfl
def c29_1 (z : Nat) : SC := .post (.seq (.reg [⟨(some 13), (Op.binOp BinOp.lss 3 (Operand.tmp 12) (Operand.tmp 11) 3), none, ann0⟩] none)
 (.seq (.cond (Operand.tmp 13) .skip
 (.exit 0))
 (.seq (.post (.block 1 (.seq (.reg [⟨(some 14), (Op.move (Operand.tmp 12)), none, ann0⟩,
  ⟨(some 15), (Op.indexAddr 22 (Operand.tmp 10) (Operand.tmp 12)), none, ann0⟩,
  ⟨(some 16), (Op.load 26 (Operand.tmp 15)), none, ann0⟩,
  ⟨(some 9), (Op.alloc 26), none, ⟨1, false, false⟩⟩,
  ⟨(some 8), (Op.assign (Operand.tmp 14)), none, ann0⟩,
  ⟨none, (Op.store 26 (Operand.tmp 9) (Operand.tmp 16)), none, ann0⟩] none)
 (.seq (.post (.reg [⟨(some 17), (Op.fieldAddr 26 (Operand.tmp 9) 1), none, ann0⟩,
  ⟨(some 18), (Op.load 3 (Operand.tmp 17)), none, ann0⟩,
  ⟨(some 19), (Op.binOp BinOp.eql 3 (Operand.tmp 18) (Operand.const (Value.int IntKind.i64 1)) 3), none, ann0⟩,
  ⟨(some 20), (Op.move (Operand.tmp 19)), none, ann0⟩,
  ⟨(some 21), (Op.fieldAddr 26 (Operand.tmp 9) 3), (some (20, true)), ann0⟩,
  ⟨(some 22), (Op.load 9 (Operand.tmp 21)), (some (20, true)), ann0⟩,
  ⟨(some 23), (Op.move (Operand.tmp 1)), (some (20, true)), ann0⟩,
  ⟨(some 24), (Op.binOp BinOp.eql 9 (Operand.tmp 22) (Operand.tmp 23) 9), (some (20, true)), ann0⟩,
  ⟨(some 25), (Op.pick (Operand.tmp 20) (Operand.tmp 24) (Operand.const (Value.bool false))), none, ann0⟩,
  ⟨(some 26), (Op.move (Operand.tmp 25)), none, ann0⟩,
  ⟨(some 27), (Op.move (Operand.tmp 0)), (some (26, true)), ann0⟩,
  ⟨(some 28), (Op.move (Operand.tmp 8)), (some (26, true)), ann0⟩,
  ⟨(some 29), (Op.call { callee := (Callee.value (Operand.func 48)), args := #[(Operand.tmp 27), (Operand.tmp 28)], argTypes := #[22, 3] }), (some (26, true)), ann0⟩,
  ⟨(some 30), (Op.move (Operand.tmp 2)), (some (26, true)), ann0⟩,
  ⟨(some 31), (Op.call { callee := (Callee.value (Operand.func 53)), args := #[(Operand.tmp 29), (Operand.tmp 30)], argTypes := #[37, 3] }), (some (26, true)), ann0⟩,
  ⟨(some 32), (Op.pick (Operand.tmp 26) (Operand.tmp 31) (Operand.const (Value.bool false))), none, ann0⟩] none) (.tidy [0, 1, 2, 6, 9, 10, 11, 12, 32] z (z + 2)))
 (.cond (Operand.tmp 32) (.seq (.reg [⟨(some 33), (Op.load 26 (Operand.tmp 9)), none, ann0⟩,
  ⟨none, (Op.store 26 (Operand.tmp 6) (Operand.tmp 33)), none, ann0⟩,
  ⟨(some 7), (Op.assign (Operand.const (Value.bool true))), none, ann0⟩] none)
 .ret)
 .skip)))) (.tidy [0, 1, 2, 6, 10, 11, 12] z (z + 2)))
 (.reg [⟨(some 34), (Op.binOp BinOp.add 3 (Operand.tmp 12) (Operand.const (Value.int IntKind.i64 1)) 3), none, ann0⟩,
  ⟨(some 12), (Op.move (Operand.tmp 34)), none, ann0⟩] none)))) (.tidy [0, 1, 2, 6, 10, 11, 12] z (z + 1))
def s29_1 (z : Nat) : SC := c29_1 z
theorem e29_1 {C : Pg} {z : Nat} {st : St} {ks : List Fr} {K : Ex → St → Prop} : wpk C (s29_1 z) st ks K ↔ wpk C (c29_1 z) st ks K := Iff.rfl
def s29 (z : Nat) : SFn := ⟨3, 36, [(ResultVar.cell 6 26), (ResultVar.tmp 7)],
 (.seq (.reg [⟨(some 6), (Op.alloc 26), none, ⟨1, false, false⟩⟩,
  ⟨(some 7), (Op.assign (Operand.const (Value.bool false))), none, ann0⟩] none)
 (.seq (.post (.seq (.reg [⟨(some 10), (Op.move (Operand.tmp 0)), none, ann0⟩,
  ⟨(some 11), (Op.call { callee := (Callee.builtin Builtin.len), args := #[(Operand.tmp 10)], argTypes := #[22] }), none, ann0⟩,
  ⟨(some 12), (Op.move (Operand.const (Value.int IntKind.i64 0))), none, ann0⟩] none)
 (.post (.block 0 (.pre (.tidy [0, 1, 2, 6, 10, 11, 12] z (z + 1)) (.loop (s29_1 z)))) (.tidy [6] z (z + 1)))) (.tidy [6] z (z + 1)))
 (.seq (.reg [⟨(some 35), (Op.build 26 #[]), none, ann0⟩,
  ⟨none, (Op.store 26 (Operand.tmp 6) (Operand.tmp 35)), none, ann0⟩,
  ⟨(some 7), (Op.assign (Operand.const (Value.bool false))), none, ann0⟩] none)
 .ret)))⟩
theorem F29 (z : Nat) : FOk Try.prog 29 (s29 z) := by unfold FOk; kernel_rfl
def s14 (z : Nat) : SFn := ⟨0, 47, [(ResultVar.tmp 0)],
 (.seq (.reg [⟨(some 0), (Op.assign (Operand.const (Value.bool false))), none, ann0⟩] none)
 (.seq (.reg [⟨(some 5), (Op.build 26 #[(0, (Operand.const (Value.int IntKind.i64 1))), (1, (Operand.const (Value.int IntKind.i64 1))), (2, (Operand.const (Value.int IntKind.i64 3))), (3, (Operand.const (Value.string ⟨#[97, 112, 105]⟩))), (5, (Operand.const (Value.string ⟨#[118, 49]⟩)))]), none, ann0⟩,
  ⟨(some 6), (Op.build 26 #[(0, (Operand.const (Value.int IntKind.i64 2))), (1, (Operand.const (Value.int IntKind.i64 1))), (2, (Operand.const (Value.int IntKind.i64 7))), (3, (Operand.const (Value.string ⟨#[97, 112, 105]⟩))), (5, (Operand.const (Value.string ⟨#[118, 50]⟩)))]), none, ann0⟩,
  ⟨(some 7), (Op.build 26 #[(0, (Operand.const (Value.int IntKind.i64 3))), (1, (Operand.const (Value.int IntKind.i64 1))), (2, (Operand.const (Value.int IntKind.i64 7))), (3, (Operand.const (Value.string ⟨#[97, 112, 105]⟩))), (5, (Operand.const (Value.string ⟨#[118, 51]⟩)))]), none, ann0⟩,
  ⟨(some 8), (Op.buildSlice 22 3 #[(0, (Operand.tmp 5)), (1, (Operand.tmp 6)), (2, (Operand.tmp 7))]), none, ⟨1, true, false⟩⟩,
  ⟨(some 1), (Op.assign (Operand.tmp 8)), none, ann0⟩] none)
 (.seq (.post (.reg [⟨(some 9), (Op.move (Operand.tmp 1)), none, ann0⟩,
  ⟨(some 10), (Op.call { callee := (Callee.value (Operand.func 20)), args := #[(Operand.tmp 9)], argTypes := #[22] }), none, ann0⟩,
  ⟨(some 2), (Op.assign (Operand.tmp 10)), none, ann0⟩] none) (.tidy [1, 2] z (z + 1)))
 (.seq (.reg [⟨(some 12), (Op.move (Operand.tmp 1)), none, ann0⟩,
  ⟨(some 13), (Op.call { callee := (Callee.value (Operand.func 29)), args := #[(Operand.tmp 12), (Operand.const (Value.string ⟨#[97, 112, 105]⟩)), (Operand.const (Value.int IntKind.i64 6))], argTypes := #[22, 9, 3] }), none, ann0⟩,
  ⟨(some 11), (Op.move (Operand.tmp 13)), none, ann0⟩,
  ⟨(some 14), (Op.extract (Operand.tmp 11) 0), none, ann0⟩,
  ⟨(some 15), (Op.extract (Operand.tmp 11) 1), none, ann0⟩,
  ⟨(some 3), (Op.alloc 26), none, ⟨1, false, false⟩⟩,
  ⟨none, (Op.store 26 (Operand.tmp 3) (Operand.tmp 14)), none, ann0⟩,
  ⟨(some 4), (Op.assign (Operand.tmp 15)), none, ann0⟩] none)
 (.seq (.reg [⟨(some 16), (Op.move (Operand.tmp 1)), none, ann0⟩,
  ⟨(some 17), (Op.call { callee := (Callee.value (Operand.func 17)), args := #[(Operand.tmp 16)], argTypes := #[22] }), none, ann0⟩,
  ⟨(some 18), (Op.binOp BinOp.eql 27 (Operand.tmp 17) (Operand.const (Value.int IntKind.i64 0)) 27), none, ann0⟩,
  ⟨(some 19), (Op.move (Operand.tmp 18)), none, ann0⟩,
  ⟨(some 20), (Op.move (Operand.tmp 2)), (some (19, true)), ann0⟩,
  ⟨(some 21), (Op.call { callee := (Callee.builtin Builtin.len), args := #[(Operand.tmp 20)], argTypes := #[32] }), (some (19, true)), ann0⟩,
  ⟨(some 22), (Op.binOp BinOp.eql 3 (Operand.tmp 21) (Operand.const (Value.int IntKind.i64 2)) 3), (some (19, true)), ann0⟩,
  ⟨(some 23), (Op.pick (Operand.tmp 19) (Operand.tmp 22) (Operand.const (Value.bool false))), none, ann0⟩,
  ⟨(some 24), (Op.move (Operand.tmp 23)), none, ann0⟩,
  ⟨(some 25), (Op.move (Operand.tmp 2)), (some (24, true)), ann0⟩,
  ⟨(some 26), (Op.indexAddr 32 (Operand.tmp 25) (Operand.const (Value.int IntKind.i64 0))), (some (24, true)), ann0⟩,
  ⟨(some 27), (Op.fieldAddr 39 (Operand.tmp 26) 3), (some (24, true)), ann0⟩,
  ⟨(some 28), (Op.load 37 (Operand.tmp 27)), (some (24, true)), ann0⟩,
  ⟨(some 29), (Op.build 37 #[(0, (Operand.const (Value.int IntKind.i64 3))), (1, (Operand.const (Value.int IntKind.i64 7)))]), (some (24, true)), ann0⟩,
  ⟨(some 30), (Op.binOp BinOp.eql 37 (Operand.tmp 28) (Operand.tmp 29) 37), (some (24, true)), ann0⟩,
  ⟨(some 31), (Op.pick (Operand.tmp 24) (Operand.tmp 30) (Operand.const (Value.bool false))), none, ann0⟩,
  ⟨(some 32), (Op.move (Operand.tmp 31)), none, ann0⟩,
  ⟨(some 33), (Op.move (Operand.tmp 2)), (some (32, true)), ann0⟩,
  ⟨(some 34), (Op.indexAddr 32 (Operand.tmp 33) (Operand.const (Value.int IntKind.i64 1))), (some (32, true)), ann0⟩,
  ⟨(some 35), (Op.fieldAddr 39 (Operand.tmp 34) 0), (some (32, true)), ann0⟩,
  ⟨(some 36), (Op.load 3 (Operand.tmp 35)), (some (32, true)), ann0⟩,
  ⟨(some 37), (Op.binOp BinOp.eql 3 (Operand.tmp 36) (Operand.const (Value.int IntKind.i64 3)) 3), (some (32, true)), ann0⟩,
  ⟨(some 38), (Op.pick (Operand.tmp 32) (Operand.tmp 37) (Operand.const (Value.bool false))), none, ann0⟩,
  ⟨(some 39), (Op.move (Operand.tmp 38)), none, ann0⟩,
  ⟨(some 40), (Op.move (Operand.tmp 4)), (some (39, true)), ann0⟩,
  ⟨(some 41), (Op.pick (Operand.tmp 39) (Operand.tmp 40) (Operand.const (Value.bool false))), none, ann0⟩,
  ⟨(some 42), (Op.move (Operand.tmp 41)), none, ann0⟩,
  ⟨(some 43), (Op.fieldAddr 26 (Operand.tmp 3) 5), (some (42, true)), ann0⟩,
  ⟨(some 44), (Op.load 9 (Operand.tmp 43)), (some (42, true)), ann0⟩,
  ⟨(some 45), (Op.binOp BinOp.eql 9 (Operand.tmp 44) (Operand.const (Value.string ⟨#[118, 49]⟩)) 9), (some (42, true)), ann0⟩,
  ⟨(some 46), (Op.pick (Operand.tmp 42) (Operand.tmp 45) (Operand.const (Value.bool false))), none, ann0⟩,
  ⟨(some 0), (Op.assign (Operand.tmp 46)), none, ann0⟩] none)
 .ret)))))⟩
theorem F14 (z : Nat) : FOk Try.prog 14 (s14 z) := by unfold FOk; kernel_rfl
def s43 (z : Nat) : SFn := ⟨2, 11, [(ResultVar.tmp 4)],
 (.seq (.reg [⟨(some 4), (Op.assign (Operand.const (Value.int IntKind.i64 0))), none, ann0⟩] none)
 (.seq (.post (.seq (.reg [⟨(some 5), (Op.move (Operand.tmp 0)), none, ann0⟩,
  ⟨(some 6), (Op.move (Operand.tmp 1)), none, ann0⟩,
  ⟨(some 7), (Op.binOp BinOp.lss 3 (Operand.tmp 5) (Operand.tmp 6) 3), none, ann0⟩] none)
 (.cond (Operand.tmp 7) (.seq (.reg [⟨(some 4), (Op.assign (Operand.const (Value.int IntKind.i64 (-1)))), none, ann0⟩] none)
 .ret)
 .skip)) (.tidy [0, 1] z (z + 0)))
 (.seq (.post (.seq (.reg [⟨(some 8), (Op.move (Operand.tmp 0)), none, ann0⟩,
  ⟨(some 9), (Op.move (Operand.tmp 1)), none, ann0⟩,
  ⟨(some 10), (Op.binOp BinOp.gtr 3 (Operand.tmp 8) (Operand.tmp 9) 3), none, ann0⟩] none)
 (.cond (Operand.tmp 10) (.seq (.reg [⟨(some 4), (Op.assign (Operand.const (Value.int IntKind.i64 1))), none, ann0⟩] none)
 .ret)
 .skip)) (.tidy [] z (z + 0)))
 (.seq (.reg [⟨(some 4), (Op.assign (Operand.const (Value.int IntKind.i64 0))), none, ann0⟩] none)
 .ret))))⟩
theorem F43 (z : Nat) : FOk Try.prog 43 (s43 z) := by unfold FOk; kernel_rfl
def s44 (z : Nat) : SFn := ⟨2, 11, [(ResultVar.tmp 4)],
 (.seq (.reg [⟨(some 4), (Op.assign (Operand.const (Value.int IntKind.i64 0))), none, ann0⟩] none)
 (.seq (.post (.seq (.reg [⟨(some 5), (Op.move (Operand.tmp 0)), none, ann0⟩,
  ⟨(some 6), (Op.move (Operand.tmp 1)), none, ann0⟩,
  ⟨(some 7), (Op.binOp BinOp.lss 9 (Operand.tmp 5) (Operand.tmp 6) 9), none, ann0⟩] none)
 (.cond (Operand.tmp 7) (.seq (.reg [⟨(some 4), (Op.assign (Operand.const (Value.int IntKind.i64 (-1)))), none, ann0⟩] none)
 .ret)
 .skip)) (.tidy [0, 1] z (z + 0)))
 (.seq (.post (.seq (.reg [⟨(some 8), (Op.move (Operand.tmp 0)), none, ann0⟩,
  ⟨(some 9), (Op.move (Operand.tmp 1)), none, ann0⟩,
  ⟨(some 10), (Op.binOp BinOp.gtr 9 (Operand.tmp 8) (Operand.tmp 9) 9), none, ann0⟩] none)
 (.cond (Operand.tmp 10) (.seq (.reg [⟨(some 4), (Op.assign (Operand.const (Value.int IntKind.i64 1))), none, ann0⟩] none)
 .ret)
 .skip)) (.tidy [] z (z + 0)))
 (.seq (.reg [⟨(some 4), (Op.assign (Operand.const (Value.int IntKind.i64 0))), none, ann0⟩] none)
 .ret))))⟩
theorem F44 (z : Nat) : FOk Try.prog 44 (s44 z) := by unfold FOk; kernel_rfl
def c16_1 (z : Nat) : SC := .post (.seq (.post (.seq (.reg [⟨(some 38), (Op.move (Operand.tmp 6)), none, ann0⟩,
  ⟨(some 39), (Op.move (Operand.tmp 5)), none, ann0⟩,
  ⟨(some 40), (Op.call { callee := (Callee.builtin Builtin.len), args := #[(Operand.tmp 39)], argTypes := #[54] }), none, ann0⟩,
  ⟨(some 41), (Op.binOp BinOp.lss 3 (Operand.tmp 38) (Operand.tmp 40) 3), none, ann0⟩] none)
 (.cond (Operand.tmp 41) .skip
 (.exit 0))) (.tidy [5, 6] z (z + 3)))
 (.seq (.post (.block 1 (.seq (.reg [⟨(some 44), (Op.move (Operand.tmp 5)), none, ann0⟩,
  ⟨(some 45), (Op.move (Operand.tmp 6)), none, ann0⟩,
  ⟨(some 46), (Op.indexAddr 54 (Operand.tmp 44) (Operand.tmp 45)), none, ann0⟩,
  ⟨(some 47), (Op.load 3 (Operand.tmp 46)), none, ann0⟩,
  ⟨(some 48), (Op.binOp BinOp.neq 3 (Operand.tmp 47) (Operand.const (Value.int IntKind.i64 0)) 3), none, ann0⟩] none)
 (.cond (Operand.tmp 48) (.seq (.reg [⟨(some 49), (Op.move (Operand.tmp 5)), none, ann0⟩,
  ⟨(some 50), (Op.move (Operand.tmp 6)), none, ann0⟩,
  ⟨(some 51), (Op.indexAddr 54 (Operand.tmp 49) (Operand.tmp 50)), none, ann0⟩,
  ⟨(some 52), (Op.load 3 (Operand.tmp 51)), none, ann0⟩,
  ⟨(some 4), (Op.assign (Operand.tmp 52)), none, ann0⟩] none)
 .ret)
 .skip))) (.tidy [5, 6] z (z + 3)))
 (.reg [⟨(some 42), (Op.move (Operand.tmp 6)), none, ann0⟩,
  ⟨(some 43), (Op.binOp BinOp.add 3 (Operand.tmp 42) (Operand.const (Value.int IntKind.i64 1)) 3), none, ann0⟩,
  ⟨(some 6), (Op.assign (Operand.tmp 43)), none, ann0⟩] none))) (.tidy [5, 6] z (z + 3))
def s16_1 (z : Nat) : SC := c16_1 z
theorem e16_1 {C : Pg} {z : Nat} {st : St} {ks : List Fr} {K : Ex → St → Prop} : wpk C (s16_1 z) st ks K ↔ wpk C (c16_1 z) st ks K := Iff.rfl
def s16 (z : Nat) : SFn := ⟨2, 53, [(ResultVar.tmp 4)],
 (.seq (.reg [⟨(some 2), (Op.box 26 (Operand.tmp 0)), none, ⟨1, false, false⟩⟩,
  ⟨(some 3), (Op.box 26 (Operand.tmp 1)), none, ⟨1, false, false⟩⟩,
  ⟨(some 4), (Op.assign (Operand.const (Value.int IntKind.i64 0))), none, ann0⟩] none)
 (.seq (.post (.reg [⟨(some 7), (Op.fieldAddr 26 (Operand.tmp 2) 2), none, ann0⟩,
  ⟨(some 8), (Op.load 3 (Operand.tmp 7)), none, ann0⟩,
  ⟨(some 9), (Op.fieldAddr 26 (Operand.tmp 3) 2), none, ann0⟩,
  ⟨(some 10), (Op.load 3 (Operand.tmp 9)), none, ann0⟩,
  ⟨(some 11), (Op.call { callee := (Callee.value (Operand.func 43)), args := #[(Operand.tmp 8), (Operand.tmp 10)], argTypes := #[3, 3] }), none, ann0⟩,
  ⟨(some 12), (Op.fieldAddr 26 (Operand.tmp 2) 0), none, ann0⟩,
  ⟨(some 13), (Op.load 3 (Operand.tmp 12)), none, ann0⟩,
  ⟨(some 14), (Op.fieldAddr 26 (Operand.tmp 3) 0), none, ann0⟩,
  ⟨(some 15), (Op.load 3 (Operand.tmp 14)), none, ann0⟩,
  ⟨(some 16), (Op.call { callee := (Callee.value (Operand.func 43)), args := #[(Operand.tmp 13), (Operand.tmp 15)], argTypes := #[3, 3] }), none, ann0⟩,
  ⟨(some 17), (Op.fieldAddr 26 (Operand.tmp 2) 1), none, ann0⟩,
  ⟨(some 18), (Op.load 3 (Operand.tmp 17)), none, ann0⟩,
  ⟨(some 19), (Op.fieldAddr 26 (Operand.tmp 3) 1), none, ann0⟩,
  ⟨(some 20), (Op.load 3 (Operand.tmp 19)), none, ann0⟩,
  ⟨(some 21), (Op.call { callee := (Callee.value (Operand.func 43)), args := #[(Operand.tmp 18), (Operand.tmp 20)], argTypes := #[3, 3] }), none, ann0⟩,
  ⟨(some 22), (Op.fieldAddr 26 (Operand.tmp 2) 3), none, ann0⟩,
  ⟨(some 23), (Op.load 9 (Operand.tmp 22)), none, ann0⟩,
  ⟨(some 24), (Op.fieldAddr 26 (Operand.tmp 3) 3), none, ann0⟩,
  ⟨(some 25), (Op.load 9 (Operand.tmp 24)), none, ann0⟩,
  ⟨(some 26), (Op.call { callee := (Callee.value (Operand.func 44)), args := #[(Operand.tmp 23), (Operand.tmp 25)], argTypes := #[9, 9] }), none, ann0⟩,
  ⟨(some 27), (Op.fieldAddr 26 (Operand.tmp 2) 4), none, ann0⟩,
  ⟨(some 28), (Op.load 9 (Operand.tmp 27)), none, ann0⟩,
  ⟨(some 29), (Op.fieldAddr 26 (Operand.tmp 3) 4), none, ann0⟩,
  ⟨(some 30), (Op.load 9 (Operand.tmp 29)), none, ann0⟩,
  ⟨(some 31), (Op.call { callee := (Callee.value (Operand.func 44)), args := #[(Operand.tmp 28), (Operand.tmp 30)], argTypes := #[9, 9] }), none, ann0⟩,
  ⟨(some 32), (Op.fieldAddr 26 (Operand.tmp 2) 5), none, ann0⟩,
  ⟨(some 33), (Op.load 9 (Operand.tmp 32)), none, ann0⟩,
  ⟨(some 34), (Op.fieldAddr 26 (Operand.tmp 3) 5), none, ann0⟩,
  ⟨(some 35), (Op.load 9 (Operand.tmp 34)), none, ann0⟩,
  ⟨(some 36), (Op.call { callee := (Callee.value (Operand.func 44)), args := #[(Operand.tmp 33), (Operand.tmp 35)], argTypes := #[9, 9] }), none, ann0⟩,
  ⟨(some 37), (Op.buildSlice 54 6 #[(0, (Operand.tmp 11)), (1, (Operand.tmp 16)), (2, (Operand.tmp 21)), (3, (Operand.tmp 26)), (4, (Operand.tmp 31)), (5, (Operand.tmp 36))]), none, ⟨1, true, false⟩⟩,
  ⟨(some 5), (Op.assign (Operand.tmp 37)), none, ann0⟩] (some [0, 1, 0, 4, 15, 0, 32, 0, 128, 511, 0, 1024, 0, 4096, 16383, 0, 32768, 0, 131072, 524287, 0, 1048576, 0, 4194304, 16777215, 0, 33554432, 0, 134217728, 536870911, 1073741823, 2147483647])) (.tidy [5] z (z + 3)))
 (.seq (.post (.seq (.reg [⟨(some 6), (Op.assign (Operand.const (Value.int IntKind.i64 0))), none, ann0⟩] none)
 (.post (.block 0 (.pre (.tidy [5, 6] z (z + 3)) (.loop (s16_1 z)))) (.tidy [] z (z + 3)))) (.tidy [] z (z + 3)))
 (.seq (.reg [⟨(some 4), (Op.assign (Operand.const (Value.int IntKind.i64 0))), none, ann0⟩] none)
 .ret))))⟩
theorem F16 (z : Nat) : FOk Try.prog 16 (s16 z) := by unfold FOk; kernel_rfl
def c39_2 (z : Nat) : SC := .post (.seq (.post (.seq (.post (.reg [⟨(some 12), (Op.move (Operand.tmp 5)), none, ann0⟩,
  ⟨(some 13), (Op.move (Operand.tmp 3)), none, ann0⟩,
  ⟨(some 14), (Op.call { callee := (Callee.builtin Builtin.len), args := #[(Operand.tmp 13)], argTypes := #[22] }), none, ann0⟩,
  ⟨(some 15), (Op.binOp BinOp.lss 3 (Operand.tmp 12) (Operand.tmp 14) 3), none, ann0⟩,
  ⟨(some 16), (Op.move (Operand.tmp 15)), none, ann0⟩,
  ⟨(some 17), (Op.move (Operand.tmp 3)), (some (16, true)), ann0⟩,
  ⟨(some 18), (Op.move (Operand.tmp 5)), (some (16, true)), ann0⟩,
  ⟨(some 19), (Op.indexAddr 22 (Operand.tmp 17) (Operand.tmp 18)), (some (16, true)), ann0⟩,
  ⟨(some 20), (Op.load 26 (Operand.tmp 19)), (some (16, true)), ann0⟩,
  ⟨(some 21), (Op.move (Operand.tmp 0)), (some (16, true)), ann0⟩,
  ⟨(some 22), (Op.move (Operand.tmp 4)), (some (16, true)), ann0⟩,
  ⟨(some 23), (Op.indexAddr 22 (Operand.tmp 21) (Operand.tmp 22)), (some (16, true)), ann0⟩,
  ⟨(some 24), (Op.load 26 (Operand.tmp 23)), (some (16, true)), ann0⟩,
  ⟨(some 25), (Op.call { callee := (Callee.value (Operand.func 16)), args := #[(Operand.tmp 20), (Operand.tmp 24)], argTypes := #[26, 26] }), (some (16, true)), ann0⟩,
  ⟨(some 26), (Op.binOp BinOp.lss 3 (Operand.tmp 25) (Operand.const (Value.int IntKind.i64 0)) 3), (some (16, true)), ann0⟩,
  ⟨(some 27), (Op.pick (Operand.tmp 16) (Operand.tmp 26) (Operand.const (Value.bool false))), none, ann0⟩] (some [0, 0, 2, 7, 15, 31, 31, 127, 255, 31, 31, 1567, 3615, 8191, 16383, 32767])) (.tidy [0, 3, 4, 5, 27] z (z + 0)))
 (.cond (Operand.tmp 27) .skip
 (.exit 2))) (.tidy [0, 3, 4, 5] z (z + 0)))
 (.block 3 (.reg [⟨(some 28), (Op.move (Operand.tmp 5)), none, ann0⟩,
  ⟨(some 29), (Op.binOp BinOp.add 3 (Operand.tmp 28) (Operand.const (Value.int IntKind.i64 1)) 3), none, ann0⟩,
  ⟨(some 5), (Op.assign (Operand.tmp 29)), none, ann0⟩] none))) (.tidy [0, 3, 4, 5] z (z + 0))
def s39_2 (z : Nat) : SC := c39_2 z
theorem e39_2 {C : Pg} {z : Nat} {st : St} {ks : List Fr} {K : Ex → St → Prop} : wpk C (s39_2 z) st ks K ↔ wpk C (c39_2 z) st ks K := Iff.rfl
def c39_1 (z : Nat) : SC := .post (.seq (.post (.seq (.reg [⟨(some 6), (Op.move (Operand.tmp 4)), none, ann0⟩,
  ⟨(some 7), (Op.move (Operand.tmp 0)), none, ann0⟩,
  ⟨(some 8), (Op.call { callee := (Callee.builtin Builtin.len), args := #[(Operand.tmp 7)], argTypes := #[22] }), none, ann0⟩,
  ⟨(some 9), (Op.binOp BinOp.lss 3 (Operand.tmp 6) (Operand.tmp 8) 3), none, ann0⟩] none)
 (.cond (Operand.tmp 9) .skip
 (.exit 0))) (.tidy [0, 3, 4] z (z + 0)))
 (.seq (.post (.block 1 (.seq (.reg [⟨(some 5), (Op.assign (Operand.const (Value.int IntKind.i64 0))), none, ann0⟩] none)
 (.seq (.post (.block 2 (.pre (.tidy [0, 3, 4, 5] z (z + 0)) (.loop (s39_2 z)))) (.tidy [0, 3, 4, 5] z (z + 0)))
 (.seq (.post (.reg [⟨(some 30), (Op.move (Operand.tmp 5)), none, ann0⟩,
  ⟨(some 31), (Op.move (Operand.tmp 3)), none, ann0⟩,
  ⟨(some 32), (Op.call { callee := (Callee.builtin Builtin.len), args := #[(Operand.tmp 31)], argTypes := #[22] }), none, ann0⟩,
  ⟨(some 33), (Op.binOp BinOp.eql 3 (Operand.tmp 30) (Operand.tmp 32) 3), none, ann0⟩,
  ⟨(some 34), (Op.move (Operand.tmp 33)), none, ann0⟩,
  ⟨(some 35), (Op.move (Operand.tmp 3)), (some (34, false)), ann0⟩,
  ⟨(some 36), (Op.move (Operand.tmp 5)), (some (34, false)), ann0⟩,
  ⟨(some 37), (Op.indexAddr 22 (Operand.tmp 35) (Operand.tmp 36)), (some (34, false)), ann0⟩,
  ⟨(some 38), (Op.load 26 (Operand.tmp 37)), (some (34, false)), ann0⟩,
  ⟨(some 39), (Op.move (Operand.tmp 0)), (some (34, false)), ann0⟩,
  ⟨(some 40), (Op.move (Operand.tmp 4)), (some (34, false)), ann0⟩,
  ⟨(some 41), (Op.indexAddr 22 (Operand.tmp 39) (Operand.tmp 40)), (some (34, false)), ann0⟩,
  ⟨(some 42), (Op.load 26 (Operand.tmp 41)), (some (34, false)), ann0⟩,
  ⟨(some 43), (Op.binOp BinOp.neq 26 (Operand.tmp 38) (Operand.tmp 42) 26), (some (34, false)), ann0⟩,
  ⟨(some 44), (Op.pick (Operand.tmp 34) (Operand.const (Value.bool true)) (Operand.tmp 43)), none, ann0⟩] (some [0, 0, 2, 7, 15, 31, 31, 127, 255, 31, 31, 1567, 3615, 8191, 16383])) (.tidy [0, 3, 4, 5, 44] z (z + 0)))
 (.cond (Operand.tmp 44) (.post (.reg [⟨(some 45), (Op.buildSlice 22 0 #[]), none, ⟨1, false, false⟩⟩,
  ⟨(some 46), (Op.move (Operand.tmp 3)), none, ann0⟩,
  ⟨(some 47), (Op.move (Operand.tmp 5)), none, ann0⟩,
  ⟨(some 48), (Op.slice 22 (Operand.tmp 46) none (some (Operand.tmp 47)) none), none, ann0⟩,
  ⟨(some 49), (Op.call { callee := (Callee.builtin Builtin.append), args := #[(Operand.tmp 45), (Operand.tmp 48)], argTypes := #[22, 22] }), none, ann0⟩,
  ⟨(some 50), (Op.move (Operand.tmp 0)), none, ann0⟩,
  ⟨(some 51), (Op.move (Operand.tmp 4)), none, ann0⟩,
  ⟨(some 52), (Op.indexAddr 22 (Operand.tmp 50) (Operand.tmp 51)), none, ann0⟩,
  ⟨(some 53), (Op.load 26 (Operand.tmp 52)), none, ann0⟩,
  ⟨(some 54), (Op.buildSlice 22 1 #[(0, (Operand.tmp 53))]), none, ⟨1, true, false⟩⟩,
  ⟨(some 55), (Op.call { callee := (Callee.builtin Builtin.append), args := #[(Operand.tmp 49), (Operand.tmp 54)], argTypes := #[22, 22] }), none, ann0⟩,
  ⟨(some 56), (Op.move (Operand.tmp 3)), none, ann0⟩,
  ⟨(some 57), (Op.move (Operand.tmp 5)), none, ann0⟩,
  ⟨(some 58), (Op.slice 22 (Operand.tmp 56) (some (Operand.tmp 57)) none none), none, ann0⟩,
  ⟨(some 59), (Op.call { callee := (Callee.builtin Builtin.append), args := #[(Operand.tmp 55), (Operand.tmp 58)], argTypes := #[22, 22] }), none, ann0⟩,
  ⟨(some 3), (Op.assign (Operand.tmp 59)), none, ann0⟩] (some [0, 0, 0, 6, 15, 0, 0, 96, 224, 480, 1023, 0, 0, 6144, 16383, 32767])) (.frz 3))
 .skip))))) (.tidy [0, 3, 4] z (z + 2)))
 (.reg [⟨(some 10), (Op.move (Operand.tmp 4)), none, ann0⟩,
  ⟨(some 11), (Op.binOp BinOp.add 3 (Operand.tmp 10) (Operand.const (Value.int IntKind.i64 1)) 3), none, ann0⟩,
  ⟨(some 4), (Op.assign (Operand.tmp 11)), none, ann0⟩] none))) (.tidy [0, 3, 4] z (z + 0))
def s39_1 (z : Nat) : SC := c39_1 z
theorem e39_1 {C : Pg} {z : Nat} {st : St} {ks : List Fr} {K : Ex → St → Prop} : wpk C (s39_1 z) st ks K ↔ wpk C (c39_1 z) st ks K := Iff.rfl
def s39 (z : Nat) : SFn := ⟨1, 61, [(ResultVar.tmp 2)],
 (.post (.seq (.reg [⟨(some 2), (Op.assign (Operand.const (Value.slice none 0 0))), none, ann0⟩] none)
 (.seq (.reg [⟨(some 3), (Op.assign (Operand.const (Value.slice none 0 0))), none, ann0⟩] none)
 (.seq (.post (.seq (.reg [⟨(some 4), (Op.assign (Operand.const (Value.int IntKind.i64 0))), none, ann0⟩] none)
 (.post (.block 0 (.pre (.tidy [0, 3, 4] z (z + 0)) (.loop (s39_1 z)))) (.tidy [3] z (z + 0)))) (.tidy [3] z (z + 0)))
 (.seq (.reg [⟨(some 60), (Op.move (Operand.tmp 3)), none, ann0⟩,
  ⟨(some 2), (Op.assign (Operand.tmp 60)), none, ann0⟩] none)
 .ret)))) (.frz 2))⟩
theorem F39 (z : Nat) : FOk Try.prog 39 (s39 z) := by unfold FOk; kernel_rfl
def s47 (z : Nat) : SFn := ⟨2, 43, [(ResultVar.cell 4 26)],
 (.seq (.reg [⟨(some 2), (Op.box 99 (Operand.tmp 0)), none, ⟨1, false, false⟩⟩,
  ⟨(some 4), (Op.alloc 26), none, ⟨1, false, false⟩⟩] none)
 (.seq (.reg [⟨(some 7), (Op.buildSlice 66 4 #[(0, (Operand.const (Value.string ⟨#[97, 112, 105]⟩))), (1, (Operand.const (Value.string ⟨#[100, 98]⟩))), (2, (Operand.const (Value.string ⟨#[119, 101, 98]⟩))), (3, (Operand.const (Value.string ⟨#[99, 97, 99, 104, 101]⟩)))]), none, ⟨1, true, false⟩⟩,
  ⟨(some 5), (Op.assign (Operand.tmp 7)), none, ann0⟩] none)
 (.seq (.post (.reg [⟨(some 8), (Op.move (Operand.tmp 1)), none, ann0⟩,
  ⟨(some 9), (Op.fieldAddr 99 (Operand.tmp 2) 0), none, ann0⟩,
  ⟨(some 10), (Op.load 5 (Operand.tmp 9)), none, ann0⟩,
  ⟨(some 11), (Op.binOp BinOp.rem 5 (Operand.tmp 10) (Operand.const (Value.int IntKind.u8 3)) 5), none, ann0⟩,
  ⟨(some 12), (Op.convert 5 3 (Operand.tmp 11)), none, ann0⟩,
  ⟨(some 13), (Op.binOp BinOp.add 3 (Operand.const (Value.int IntKind.i64 1)) (Operand.tmp 12) 3), none, ann0⟩,
  ⟨(some 14), (Op.fieldAddr 99 (Operand.tmp 2) 1), none, ann0⟩,
  ⟨(some 15), (Op.load 5 (Operand.tmp 14)), none, ann0⟩,
  ⟨(some 16), (Op.binOp BinOp.rem 5 (Operand.tmp 15) (Operand.const (Value.int IntKind.u8 64)) 5), none, ann0⟩,
  ⟨(some 17), (Op.convert 5 3 (Operand.tmp 16)), none, ann0⟩,
  ⟨(some 18), (Op.move (Operand.tmp 5)), none, ann0⟩,
  ⟨(some 19), (Op.fieldAddr 99 (Operand.tmp 2) 2), none, ann0⟩,
  ⟨(some 20), (Op.load 5 (Operand.tmp 19)), none, ann0⟩,
  ⟨(some 21), (Op.binOp BinOp.rem 5 (Operand.tmp 20) (Operand.const (Value.int IntKind.u8 4)) 5), none, ann0⟩,
  ⟨(some 22), (Op.indexAddr 66 (Operand.tmp 18) (Operand.tmp 21)), none, ann0⟩,
  ⟨(some 23), (Op.load 9 (Operand.tmp 22)), none, ann0⟩,
  ⟨(some 24), (Op.build 26 #[(0, (Operand.tmp 8)), (1, (Operand.tmp 13)), (2, (Operand.tmp 17)), (3, (Operand.tmp 23))]), none, ann0⟩,
  ⟨(some 6), (Op.alloc 26), none, ⟨1, false, false⟩⟩,
  ⟨none, (Op.store 26 (Operand.tmp 6) (Operand.tmp 24)), none, ann0⟩] (some [0, 0, 2, 6, 14, 30, 0, 64, 192, 448, 0, 0, 2048, 6144, 15360, 31744, 65535, 0, 262143])) (.tidy [2, 4, 5, 6] z (z + 4)))
 (.seq (.post (.seq (.reg [⟨(some 25), (Op.fieldAddr 26 (Operand.tmp 6) 1), none, ann0⟩,
  ⟨(some 26), (Op.load 3 (Operand.tmp 25)), none, ann0⟩,
  ⟨(some 27), (Op.binOp BinOp.eql 3 (Operand.tmp 26) (Operand.const (Value.int IntKind.i64 1)) 3), none, ann0⟩] none)
 (.cond (Operand.tmp 27) (.reg [⟨(some 28), (Op.buildSlice 66 3 #[(0, (Operand.const (Value.string ⟨#[118, 49]⟩))), (1, (Operand.const (Value.string ⟨#[118, 50]⟩))), (2, (Operand.const (Value.string ⟨#[118, 51]⟩)))]), none, ⟨1, true, false⟩⟩,
  ⟨(some 29), (Op.fieldAddr 99 (Operand.tmp 2) 4), none, ann0⟩,
  ⟨(some 30), (Op.load 5 (Operand.tmp 29)), none, ann0⟩,
  ⟨(some 31), (Op.binOp BinOp.rem 5 (Operand.tmp 30) (Operand.const (Value.int IntKind.u8 3)) 5), none, ann0⟩,
  ⟨(some 32), (Op.indexAddr 66 (Operand.tmp 28) (Operand.tmp 31)), none, ann0⟩,
  ⟨(some 33), (Op.load 9 (Operand.tmp 32)), none, ann0⟩,
  ⟨(some 34), (Op.fieldAddr 26 (Operand.tmp 6) 5), none, ann0⟩,
  ⟨none, (Op.store 9 (Operand.tmp 34) (Operand.tmp 33)), none, ann0⟩] none)
 (.reg [⟨(some 35), (Op.move (Operand.tmp 5)), none, ann0⟩,
  ⟨(some 36), (Op.fieldAddr 99 (Operand.tmp 2) 3), none, ann0⟩,
  ⟨(some 37), (Op.load 5 (Operand.tmp 36)), none, ann0⟩,
  ⟨(some 38), (Op.binOp BinOp.rem 5 (Operand.tmp 37) (Operand.const (Value.int IntKind.u8 4)) 5), none, ann0⟩,
  ⟨(some 39), (Op.indexAddr 66 (Operand.tmp 35) (Operand.tmp 38)), none, ann0⟩,
  ⟨(some 40), (Op.load 9 (Operand.tmp 39)), none, ann0⟩,
  ⟨(some 41), (Op.fieldAddr 26 (Operand.tmp 6) 4), none, ann0⟩,
  ⟨none, (Op.store 9 (Operand.tmp 41) (Operand.tmp 40)), none, ann0⟩] none))) (.tidy [4, 6] z (z + 5)))
 (.seq (.reg [⟨(some 42), (Op.load 26 (Operand.tmp 6)), none, ann0⟩,
  ⟨none, (Op.store 26 (Operand.tmp 4) (Operand.tmp 42)), none, ann0⟩] none)
 .ret)))))⟩
theorem F47 (z : Nat) : FOk Try.prog 47 (s47 z) := by unfold FOk; kernel_rfl
def c19_1 (z : Nat) : SC := .post (.seq (.post (.seq (.post (.reg [⟨(some 5), (Op.move (Operand.tmp 4)), none, ann0⟩,
  ⟨(some 6), (Op.move (Operand.tmp 0)), none, ann0⟩,
  ⟨(some 7), (Op.call { callee := (Callee.builtin Builtin.len), args := #[(Operand.tmp 6)], argTypes := #[30] }), none, ann0⟩,
  ⟨(some 8), (Op.binOp BinOp.lss 3 (Operand.tmp 5) (Operand.tmp 7) 3), none, ann0⟩,
  ⟨(some 9), (Op.move (Operand.tmp 8)), none, ann0⟩,
  ⟨(some 10), (Op.move (Operand.tmp 4)), (some (9, true)), ann0⟩,
  ⟨(some 11), (Op.binOp BinOp.lss 3 (Operand.tmp 10) (Operand.const (Value.int IntKind.i64 12)) 3), (some (9, true)), ann0⟩,
  ⟨(some 12), (Op.pick (Operand.tmp 9) (Operand.tmp 11) (Operand.const (Value.bool false))), none, ann0⟩] none) (.tidy [0, 3, 4, 12] z (z + 1)))
 (.cond (Operand.tmp 12) .skip
 (.exit 0))) (.tidy [0, 3, 4] z (z + 1)))
 (.seq (.post (.block 1 (.reg [⟨(some 15), (Op.move (Operand.tmp 3)), none, ann0⟩,
  ⟨(some 16), (Op.move (Operand.tmp 0)), none, ann0⟩,
  ⟨(some 17), (Op.move (Operand.tmp 4)), none, ann0⟩,
  ⟨(some 18), (Op.indexAddr 30 (Operand.tmp 16) (Operand.tmp 17)), none, ann0⟩,
  ⟨(some 19), (Op.load 99 (Operand.tmp 18)), none, ann0⟩,
  ⟨(some 20), (Op.move (Operand.tmp 4)), none, ann0⟩,
  ⟨(some 21), (Op.binOp BinOp.add 3 (Operand.tmp 20) (Operand.const (Value.int IntKind.i64 1)) 3), none, ann0⟩,
  ⟨(some 22), (Op.call { callee := (Callee.value (Operand.func 47)), args := #[(Operand.tmp 19), (Operand.tmp 21)], argTypes := #[99, 3] }), none, ann0⟩,
  ⟨(some 23), (Op.buildSlice 22 1 #[(0, (Operand.tmp 22))]), none, ⟨1, true, false⟩⟩,
  ⟨(some 24), (Op.call { callee := (Callee.builtin Builtin.append), args := #[(Operand.tmp 15), (Operand.tmp 23)], argTypes := #[22, 22] }), none, ann0⟩,
  ⟨(some 3), (Op.assign (Operand.tmp 24)), none, ann0⟩] none)) (.tidy [0, 3, 4] z (z + 2)))
 (.reg [⟨(some 13), (Op.move (Operand.tmp 4)), none, ann0⟩,
  ⟨(some 14), (Op.binOp BinOp.add 3 (Operand.tmp 13) (Operand.const (Value.int IntKind.i64 1)) 3), none, ann0⟩,
  ⟨(some 4), (Op.assign (Operand.tmp 14)), none, ann0⟩] none))) (.tidy [0, 3, 4] z (z + 1))
def s19_1 (z : Nat) : SC := c19_1 z
theorem e19_1 {C : Pg} {z : Nat} {st : St} {ks : List Fr} {K : Ex → St → Prop} : wpk C (s19_1 z) st ks K ↔ wpk C (c19_1 z) st ks K := Iff.rfl
def s19 (z : Nat) : SFn := ⟨1, 27, [(ResultVar.tmp 2)],
 (.post (.seq (.reg [⟨(some 2), (Op.assign (Operand.const (Value.slice none 0 0))), none, ann0⟩] none)
 (.seq (.post (.reg [⟨(some 3), (Op.assign (Operand.const (Value.slice none 0 0))), none, ann0⟩] none) (.mkv 3 26 6))
 (.seq (.post (.seq (.reg [⟨(some 4), (Op.assign (Operand.const (Value.int IntKind.i64 0))), none, ann0⟩] none)
 (.post (.post (.block 0 (.pre (.tidy [0, 3, 4] z (z + 1)) (.loop (s19_1 z)))) (.tidy [3] z (z + 1))) (.frz 3))) (.tidy [3] z (z + 1)))
 (.seq (.reg [⟨(some 25), (Op.move (Operand.tmp 3)), none, ann0⟩,
  ⟨(some 26), (Op.call { callee := (Callee.value (Operand.func 39)), args := #[(Operand.tmp 25)], argTypes := #[22] }), none, ann0⟩,
  ⟨(some 2), (Op.assign (Operand.tmp 26)), none, ann0⟩] none)
 .ret)))) (.frz 2))⟩
theorem F19 (z : Nat) : FOk Try.prog 19 (s19 z) := by unfold FOk; kernel_rfl
def s60 (z : Nat) : SFn := ⟨2, 17, [(ResultVar.tmp 4)],
 (.seq (.reg [⟨(some 2), (Op.box 86 (Operand.tmp 0)), none, ⟨1, false, false⟩⟩,
  ⟨(some 3), (Op.box 86 (Operand.tmp 1)), none, ⟨1, false, false⟩⟩,
  ⟨(some 4), (Op.assign (Operand.const (Value.int IntKind.i64 0))), none, ann0⟩] none)
 (.seq (.reg [⟨(some 5), (Op.fieldAddr 86 (Operand.tmp 2) 0), none, ann0⟩,
  ⟨(some 6), (Op.load 9 (Operand.tmp 5)), none, ann0⟩,
  ⟨(some 7), (Op.fieldAddr 86 (Operand.tmp 3) 0), none, ann0⟩,
  ⟨(some 8), (Op.load 9 (Operand.tmp 7)), none, ann0⟩,
  ⟨(some 9), (Op.call { callee := (Callee.value (Operand.func 42)), args := #[(Operand.tmp 6), (Operand.tmp 8)], argTypes := #[9, 9] }), none, ann0⟩,
  ⟨(some 10), (Op.fieldAddr 86 (Operand.tmp 2) 1), none, ann0⟩,
  ⟨(some 11), (Op.load 9 (Operand.tmp 10)), none, ann0⟩,
  ⟨(some 12), (Op.fieldAddr 86 (Operand.tmp 3) 1), none, ann0⟩,
  ⟨(some 13), (Op.load 9 (Operand.tmp 12)), none, ann0⟩,
  ⟨(some 14), (Op.call { callee := (Callee.value (Operand.func 42)), args := #[(Operand.tmp 11), (Operand.tmp 13)], argTypes := #[9, 9] }), none, ann0⟩,
  ⟨(some 15), (Op.buildSlice 54 2 #[(0, (Operand.tmp 9)), (1, (Operand.tmp 14))]), none, ⟨1, true, false⟩⟩,
  ⟨(some 16), (Op.call { callee := (Callee.value (Operand.func 40)), args := #[(Operand.tmp 15)], argTypes := #[54] }), none, ann0⟩,
  ⟨(some 4), (Op.assign (Operand.tmp 16)), none, ann0⟩] (some [0, 1, 0, 4, 15, 0, 32, 0, 128, 511, 1023, 2047, 4095]))
 .ret))⟩
theorem F60 (z : Nat) : FOk Try.prog 60 (s60 z) := by unfold FOk; kernel_rfl
def c85_2 (z : Nat) : SC := .post (.seq (.post (.seq (.post (.reg [⟨(some 18), (Op.move (Operand.tmp 9)), none, ann0⟩,
  ⟨(some 19), (Op.move (Operand.tmp 1)), none, ann0⟩,
  ⟨(some 20), (Op.binOp BinOp.gtr 3 (Operand.tmp 18) (Operand.tmp 19) 3), none, ann0⟩,
  ⟨(some 21), (Op.move (Operand.tmp 20)), none, ann0⟩,
  ⟨(some 22), (Op.move (Operand.tmp 3)), (some (21, true)), ann0⟩,
  ⟨(some 23), (Op.move (Operand.tmp 0)), (some (21, true)), ann0⟩,
  ⟨(some 24), (Op.move (Operand.tmp 9)), (some (21, true)), ann0⟩,
  ⟨(some 25), (Op.indexAddr 83 (Operand.tmp 23) (Operand.tmp 24)), (some (21, true)), ann0⟩,
  ⟨(some 26), (Op.load 86 (Operand.tmp 25)), (some (21, true)), ann0⟩,
  ⟨(some 27), (Op.move (Operand.tmp 0)), (some (21, true)), ann0⟩,
  ⟨(some 28), (Op.move (Operand.tmp 9)), (some (21, true)), ann0⟩,
  ⟨(some 29), (Op.binOp BinOp.sub 3 (Operand.tmp 28) (Operand.const (Value.int IntKind.i64 1)) 3), (some (21, true)), ann0⟩,
  ⟨(some 30), (Op.indexAddr 83 (Operand.tmp 27) (Operand.tmp 29)), (some (21, true)), ann0⟩,
  ⟨(some 31), (Op.load 86 (Operand.tmp 30)), (some (21, true)), ann0⟩,
  ⟨(some 32), (Op.call { callee := (Callee.value (Operand.tmp 22)), args := #[(Operand.tmp 26), (Operand.tmp 31)], argTypes := #[86, 86] }), (some (21, true)), ann0⟩,
  ⟨(some 33), (Op.binOp BinOp.lss 3 (Operand.tmp 32) (Operand.const (Value.int IntKind.i64 0)) 3), (some (21, true)), ann0⟩,
  ⟨(some 34), (Op.pick (Operand.tmp 21) (Operand.tmp 33) (Operand.const (Value.bool false))), none, ann0⟩] (some [0, 0, 3, 7, 15, 15, 15, 111, 239, 15, 15, 1039, 3599, 7695, 16383, 32767, 65535])) (.tidy [0, 1, 2, 3, 8, 9, 34] z (z + 0)))
 (.cond (Operand.tmp 34) .skip
 (.exit 2))) (.tidy [0, 1, 2, 3, 8, 9] z (z + 0)))
 (.seq (.post (.block 3 (.reg [⟨(some 37), (Op.move (Operand.tmp 0)), none, ann0⟩,
  ⟨(some 38), (Op.move (Operand.tmp 9)), none, ann0⟩,
  ⟨(some 39), (Op.move (Operand.tmp 0)), none, ann0⟩,
  ⟨(some 40), (Op.move (Operand.tmp 9)), none, ann0⟩,
  ⟨(some 41), (Op.binOp BinOp.sub 3 (Operand.tmp 40) (Operand.const (Value.int IntKind.i64 1)) 3), none, ann0⟩,
  ⟨(some 42), (Op.move (Operand.tmp 0)), none, ann0⟩,
  ⟨(some 43), (Op.move (Operand.tmp 9)), none, ann0⟩,
  ⟨(some 44), (Op.binOp BinOp.sub 3 (Operand.tmp 43) (Operand.const (Value.int IntKind.i64 1)) 3), none, ann0⟩,
  ⟨(some 45), (Op.indexAddr 83 (Operand.tmp 42) (Operand.tmp 44)), none, ann0⟩,
  ⟨(some 46), (Op.load 86 (Operand.tmp 45)), none, ann0⟩,
  ⟨(some 47), (Op.move (Operand.tmp 0)), none, ann0⟩,
  ⟨(some 48), (Op.move (Operand.tmp 9)), none, ann0⟩,
  ⟨(some 49), (Op.indexAddr 83 (Operand.tmp 47) (Operand.tmp 48)), none, ann0⟩,
  ⟨(some 50), (Op.load 86 (Operand.tmp 49)), none, ann0⟩,
  ⟨(some 51), (Op.indexAddr 83 (Operand.tmp 37) (Operand.tmp 38)), none, ann0⟩,
  ⟨none, (Op.store 86 (Operand.tmp 51) (Operand.tmp 46)), none, ann0⟩,
  ⟨(some 52), (Op.indexAddr 83 (Operand.tmp 39) (Operand.tmp 41)), none, ann0⟩,
  ⟨none, (Op.store 86 (Operand.tmp 52) (Operand.tmp 50)), none, ann0⟩] (some [0, 0, 0, 0, 8, 0, 0, 64, 224, 480, 0, 0, 3072, 7168, 16355, 32739, 65535, 131071]))) (.tidy [0, 1, 2, 3, 8, 9] z (z + 0)))
 (.reg [⟨(some 35), (Op.move (Operand.tmp 9)), none, ann0⟩,
  ⟨(some 36), (Op.binOp BinOp.sub 3 (Operand.tmp 35) (Operand.const (Value.int IntKind.i64 1)) 3), none, ann0⟩,
  ⟨(some 9), (Op.assign (Operand.tmp 36)), none, ann0⟩] none))) (.tidy [0, 1, 2, 3, 8, 9] z (z + 0))
def s85_2 (z : Nat) : SC := c85_2 z
theorem e85_2 {C : Pg} {z : Nat} {st : St} {ks : List Fr} {K : Ex → St → Prop} : wpk C (s85_2 z) st ks K ↔ wpk C (c85_2 z) st ks K := Iff.rfl
def c85_1 (z : Nat) : SC := .post (.seq (.post (.seq (.reg [⟨(some 12), (Op.move (Operand.tmp 8)), none, ann0⟩,
  ⟨(some 13), (Op.move (Operand.tmp 2)), none, ann0⟩,
  ⟨(some 14), (Op.binOp BinOp.lss 3 (Operand.tmp 12) (Operand.tmp 13) 3), none, ann0⟩] none)
 (.cond (Operand.tmp 14) .skip
 (.exit 0))) (.tidy [0, 1, 2, 3, 8] z (z + 0)))
 (.seq (.post (.block 1 (.seq (.reg [⟨(some 17), (Op.move (Operand.tmp 8)), none, ann0⟩,
  ⟨(some 9), (Op.assign (Operand.tmp 17)), none, ann0⟩] none)
 (.post (.block 2 (.pre (.tidy [0, 1, 2, 3, 8, 9] z (z + 0)) (.loop (s85_2 z)))) (.tidy [0, 1, 2, 3, 8] z (z + 0))))) (.tidy [0, 1, 2, 3, 8] z (z + 0)))
 (.reg [⟨(some 15), (Op.move (Operand.tmp 8)), none, ann0⟩,
  ⟨(some 16), (Op.binOp BinOp.add 3 (Operand.tmp 15) (Operand.const (Value.int IntKind.i64 1)) 3), none, ann0⟩,
  ⟨(some 8), (Op.assign (Operand.tmp 16)), none, ann0⟩] none))) (.tidy [0, 1, 2, 3, 8] z (z + 0))
def s85_1 (z : Nat) : SC := c85_1 z
theorem e85_1 {C : Pg} {z : Nat} {st : St} {ks : List Fr} {K : Ex → St → Prop} : wpk C (s85_1 z) st ks K ↔ wpk C (c85_1 z) st ks K := Iff.rfl
def s85 (z : Nat) : SFn := ⟨4, 53, [],
 (.seq (.reg [⟨(some 10), (Op.move (Operand.tmp 1)), none, ann0⟩,
  ⟨(some 11), (Op.binOp BinOp.add 3 (Operand.tmp 10) (Operand.const (Value.int IntKind.i64 1)) 3), none, ann0⟩,
  ⟨(some 8), (Op.assign (Operand.tmp 11)), none, ann0⟩] none)
 (.post (.block 0 (.pre (.tidy [0, 1, 2, 3, 8] z (z + 0)) (.loop (s85_1 z)))) (.tidy [] z (z + 0))))⟩
theorem F85 (z : Nat) : FOk Try.prog 85 (s85 z) := by unfold FOk; kernel_rfl
def s93 (z : Nat) : SFn := ⟨1, 19, [(ResultVar.tmp 2)],
 (.seq (.reg [⟨(some 2), (Op.assign (Operand.const (Value.int IntKind.i64 0))), none, ann0⟩] none)
 (.seq (.post (.seq (.reg [⟨(some 3), (Op.move (Operand.tmp 0)), none, ann0⟩,
  ⟨(some 4), (Op.binOp BinOp.geq 148 (Operand.tmp 3) (Operand.const (Value.int IntKind.u32 65536)) 148), none, ann0⟩] none)
 (.cond (Operand.tmp 4) (.seq (.reg [⟨(some 5), (Op.move (Operand.tmp 0)), none, ann0⟩,
  ⟨(some 6), (Op.binOp BinOp.shr 148 (Operand.tmp 5) (Operand.const (Value.int IntKind.u64 16)) 110), none, ann0⟩,
  ⟨(some 0), (Op.assign (Operand.tmp 6)), none, ann0⟩] none)
 (.reg [⟨(some 2), (Op.assign (Operand.const (Value.int IntKind.i64 16))), none, ann0⟩] none))
 .skip)) (.tidy [0, 2] z (z + 0)))
 (.seq (.post (.seq (.reg [⟨(some 7), (Op.move (Operand.tmp 0)), none, ann0⟩,
  ⟨(some 8), (Op.binOp BinOp.geq 148 (Operand.tmp 7) (Operand.const (Value.int IntKind.u32 256)) 148), none, ann0⟩] none)
 (.cond (Operand.tmp 8) (.seq (.reg [⟨(some 9), (Op.move (Operand.tmp 0)), none, ann0⟩,
  ⟨(some 10), (Op.binOp BinOp.shr 148 (Operand.tmp 9) (Operand.const (Value.int IntKind.u64 8)) 110), none, ann0⟩,
  ⟨(some 0), (Op.assign (Operand.tmp 10)), none, ann0⟩] none)
 (.reg [⟨(some 11), (Op.move (Operand.tmp 2)), none, ann0⟩,
  ⟨(some 12), (Op.binOp BinOp.add 3 (Operand.tmp 11) (Operand.const (Value.int IntKind.i64 8)) 3), none, ann0⟩,
  ⟨(some 2), (Op.assign (Operand.tmp 12)), none, ann0⟩] none))
 .skip)) (.tidy [0, 2] z (z + 0)))
 (.seq (.reg [⟨(some 13), (Op.move (Operand.tmp 2)), none, ann0⟩,
  ⟨(some 14), (Op.move (Operand.tmp 0)), none, ann0⟩,
  ⟨(some 15), (Op.convert 148 5 (Operand.tmp 14)), none, ann0⟩,
  ⟨(some 16), (Op.index 9 (Operand.const (Value.string ⟨#[0, 1, 2, 2, 3, 3, 3, 3, 4, 4, 4, 4, 4, 4, 4, 4, 5, 5, 5, 5, 5, 5, 5, 5, 5, 5, 5, 5, 5, 5, 5, 5, 6, 6, 6, 6, 6, 6, 6, 6, 6, 6, 6, 6, 6, 6, 6, 6, 6, 6, 6, 6, 6, 6, 6, 6, 6, 6, 6, 6, 6, 6, 6, 6, 7, 7, 7, 7, 7, 7, 7, 7, 7, 7, 7, 7, 7, 7, 7, 7, 7, 7, 7, 7, 7, 7, 7, 7, 7, 7, 7, 7, 7, 7, 7, 7, 7, 7, 7, 7, 7, 7, 7, 7, 7, 7, 7, 7, 7, 7, 7, 7, 7, 7, 7, 7, 7, 7, 7, 7, 7, 7, 7, 7, 7, 7, 7, 7, 8, 8, 8, 8, 8, 8, 8, 8, 8, 8, 8, 8, 8, 8, 8, 8, 8, 8, 8, 8, 8, 8, 8, 8, 8, 8, 8, 8, 8, 8, 8, 8, 8, 8, 8, 8, 8, 8, 8, 8, 8, 8, 8, 8, 8, 8, 8, 8, 8, 8, 8, 8, 8, 8, 8, 8, 8, 8, 8, 8, 8, 8, 8, 8, 8, 8, 8, 8, 8, 8, 8, 8, 8, 8, 8, 8, 8, 8, 8, 8, 8, 8, 8, 8, 8, 8, 8, 8, 8, 8, 8, 8, 8, 8, 8, 8, 8, 8, 8, 8, 8, 8, 8, 8, 8, 8, 8, 8, 8, 8, 8, 8, 8, 8, 8, 8, 8, 8, 8, 8, 8, 8, 8, 8, 8, 8, 8, 8]⟩)) (Operand.tmp 15)), none, ann0⟩,
  ⟨(some 17), (Op.convert 5 3 (Operand.tmp 16)), none, ann0⟩,
  ⟨(some 18), (Op.binOp BinOp.add 3 (Operand.tmp 13) (Operand.tmp 17) 3), none, ann0⟩,
  ⟨(some 2), (Op.assign (Operand.tmp 18)), none, ann0⟩] none)
 .ret))))⟩
theorem F93 (z : Nat) : FOk Try.prog 93 (s93 z) := by unfold FOk; kernel_rfl
def s94 (z : Nat) : SFn := ⟨1, 25, [(ResultVar.tmp 2)],
 (.seq (.reg [⟨(some 2), (Op.assign (Operand.const (Value.int IntKind.i64 0))), none, ann0⟩] none)
 (.seq (.post (.seq (.reg [⟨(some 3), (Op.move (Operand.tmp 0)), none, ann0⟩,
  ⟨(some 4), (Op.binOp BinOp.geq 150 (Operand.tmp 3) (Operand.const (Value.int IntKind.u64 4294967296)) 150), none, ann0⟩] none)
 (.cond (Operand.tmp 4) (.seq (.reg [⟨(some 5), (Op.move (Operand.tmp 0)), none, ann0⟩,
  ⟨(some 6), (Op.binOp BinOp.shr 150 (Operand.tmp 5) (Operand.const (Value.int IntKind.u64 32)) 110), none, ann0⟩,
  ⟨(some 0), (Op.assign (Operand.tmp 6)), none, ann0⟩] none)
 (.reg [⟨(some 2), (Op.assign (Operand.const (Value.int IntKind.i64 32))), none, ann0⟩] none))
 .skip)) (.tidy [0, 2] z (z + 0)))
 (.seq (.post (.seq (.reg [⟨(some 7), (Op.move (Operand.tmp 0)), none, ann0⟩,
  ⟨(some 8), (Op.binOp BinOp.geq 150 (Operand.tmp 7) (Operand.const (Value.int IntKind.u64 65536)) 150), none, ann0⟩] none)
 (.cond (Operand.tmp 8) (.seq (.reg [⟨(some 9), (Op.move (Operand.tmp 0)), none, ann0⟩,
  ⟨(some 10), (Op.binOp BinOp.shr 150 (Operand.tmp 9) (Operand.const (Value.int IntKind.u64 16)) 110), none, ann0⟩,
  ⟨(some 0), (Op.assign (Operand.tmp 10)), none, ann0⟩] none)
 (.reg [⟨(some 11), (Op.move (Operand.tmp 2)), none, ann0⟩,
  ⟨(some 12), (Op.binOp BinOp.add 3 (Operand.tmp 11) (Operand.const (Value.int IntKind.i64 16)) 3), none, ann0⟩,
  ⟨(some 2), (Op.assign (Operand.tmp 12)), none, ann0⟩] none))
 .skip)) (.tidy [0, 2] z (z + 0)))
 (.seq (.post (.seq (.reg [⟨(some 13), (Op.move (Operand.tmp 0)), none, ann0⟩,
  ⟨(some 14), (Op.binOp BinOp.geq 150 (Operand.tmp 13) (Operand.const (Value.int IntKind.u64 256)) 150), none, ann0⟩] none)
 (.cond (Operand.tmp 14) (.seq (.reg [⟨(some 15), (Op.move (Operand.tmp 0)), none, ann0⟩,
  ⟨(some 16), (Op.binOp BinOp.shr 150 (Operand.tmp 15) (Operand.const (Value.int IntKind.u64 8)) 110), none, ann0⟩,
  ⟨(some 0), (Op.assign (Operand.tmp 16)), none, ann0⟩] none)
 (.reg [⟨(some 17), (Op.move (Operand.tmp 2)), none, ann0⟩,
  ⟨(some 18), (Op.binOp BinOp.add 3 (Operand.tmp 17) (Operand.const (Value.int IntKind.i64 8)) 3), none, ann0⟩,
  ⟨(some 2), (Op.assign (Operand.tmp 18)), none, ann0⟩] none))
 .skip)) (.tidy [0, 2] z (z + 0)))
 (.seq (.reg [⟨(some 19), (Op.move (Operand.tmp 2)), none, ann0⟩,
  ⟨(some 20), (Op.move (Operand.tmp 0)), none, ann0⟩,
  ⟨(some 21), (Op.convert 150 5 (Operand.tmp 20)), none, ann0⟩,
  ⟨(some 22), (Op.index 9 (Operand.const (Value.string ⟨#[0, 1, 2, 2, 3, 3, 3, 3, 4, 4, 4, 4, 4, 4, 4, 4, 5, 5, 5, 5, 5, 5, 5, 5, 5, 5, 5, 5, 5, 5, 5, 5, 6, 6, 6, 6, 6, 6, 6, 6, 6, 6, 6, 6, 6, 6, 6, 6, 6, 6, 6, 6, 6, 6, 6, 6, 6, 6, 6, 6, 6, 6, 6, 6, 7, 7, 7, 7, 7, 7, 7, 7, 7, 7, 7, 7, 7, 7, 7, 7, 7, 7, 7, 7, 7, 7, 7, 7, 7, 7, 7, 7, 7, 7, 7, 7, 7, 7, 7, 7, 7, 7, 7, 7, 7, 7, 7, 7, 7, 7, 7, 7, 7, 7, 7, 7, 7, 7, 7, 7, 7, 7, 7, 7, 7, 7, 7, 7, 8, 8, 8, 8, 8, 8, 8, 8, 8, 8, 8, 8, 8, 8, 8, 8, 8, 8, 8, 8, 8, 8, 8, 8, 8, 8, 8, 8, 8, 8, 8, 8, 8, 8, 8, 8, 8, 8, 8, 8, 8, 8, 8, 8, 8, 8, 8, 8, 8, 8, 8, 8, 8, 8, 8, 8, 8, 8, 8, 8, 8, 8, 8, 8, 8, 8, 8, 8, 8, 8, 8, 8, 8, 8, 8, 8, 8, 8, 8, 8, 8, 8, 8, 8, 8, 8, 8, 8, 8, 8, 8, 8, 8, 8, 8, 8, 8, 8, 8, 8, 8, 8, 8, 8, 8, 8, 8, 8, 8, 8, 8, 8, 8, 8, 8, 8, 8, 8, 8, 8, 8, 8, 8, 8, 8, 8, 8, 8]⟩)) (Operand.tmp 21)), none, ann0⟩,
  ⟨(some 23), (Op.convert 5 3 (Operand.tmp 22)), none, ann0⟩,
  ⟨(some 24), (Op.binOp BinOp.add 3 (Operand.tmp 19) (Operand.tmp 23) 3), none, ann0⟩,
  ⟨(some 2), (Op.assign (Operand.tmp 24)), none, ann0⟩] none)
 .ret)))))⟩
theorem F94 (z : Nat) : FOk Try.prog 94 (s94 z) := by unfold FOk; kernel_rfl
def s77 (z : Nat) : SFn := ⟨1, 8, [(ResultVar.tmp 2)],
 (.seq (.reg [⟨(some 2), (Op.assign (Operand.const (Value.int IntKind.i64 0))), none, ann0⟩] none)
 (.seq (.post (.cond (Operand.const (Value.bool false)) (.seq (.reg [⟨(some 3), (Op.move (Operand.tmp 0)), none, ann0⟩,
  ⟨(some 4), (Op.convert 110 148 (Operand.tmp 3)), none, ann0⟩,
  ⟨(some 5), (Op.call { callee := (Callee.value (Operand.func 93)), args := #[(Operand.tmp 4)], argTypes := #[148] }), none, ann0⟩,
  ⟨(some 2), (Op.assign (Operand.tmp 5)), none, ann0⟩] none)
 .ret)
 .skip) (.tidy [0] z (z + 0)))
 (.seq (.reg [⟨(some 6), (Op.move (Operand.tmp 0)), none, ann0⟩,
  ⟨(some 7), (Op.call { callee := (Callee.value (Operand.func 94)), args := #[(Operand.tmp 6)], argTypes := #[150] }), none, ann0⟩,
  ⟨(some 2), (Op.assign (Operand.tmp 7)), none, ann0⟩] none)
 .ret)))⟩
theorem F77 (z : Nat) : FOk Try.prog 77 (s77 z) := by unfold FOk; kernel_rfl
def c76_1 (z : Nat) : SC := .post (.block 1 (.seq (.reg [⟨(some 21), (Op.move (Operand.tmp 2)), none, ann0⟩,
  ⟨(some 22), (Op.move (Operand.tmp 1)), none, ann0⟩,
  ⟨(some 23), (Op.binOp BinOp.sub 3 (Operand.tmp 21) (Operand.tmp 22) 3), none, ann0⟩,
  ⟨(some 12), (Op.assign (Operand.tmp 23)), none, ann0⟩] none)
 (.seq (.post (.seq (.reg [⟨(some 24), (Op.move (Operand.tmp 12)), none, ann0⟩,
  ⟨(some 25), (Op.binOp BinOp.leq 3 (Operand.tmp 24) (Operand.const (Value.int IntKind.i64 12)) 3), none, ann0⟩] none)
 (.cond (Operand.tmp 25) (.seq (.reg [⟨(some 26), (Op.move (Operand.tmp 0)), none, ann0⟩,
  ⟨(some 27), (Op.move (Operand.tmp 1)), none, ann0⟩,
  ⟨(some 28), (Op.move (Operand.tmp 2)), none, ann0⟩,
  ⟨(some 29), (Op.move (Operand.tmp 4)), none, ann0⟩,
  ⟨(some 30), (Op.call { callee := (Callee.value (Operand.func 85)), args := #[(Operand.tmp 26), (Operand.tmp 27), (Operand.tmp 28), (Operand.tmp 29)], argTypes := #[83, 3, 3, 119] }), none, ann0⟩] none)
 .ret)
 .skip)) (.tidy [0, 1, 2, 3, 4, 10, 11, 12] z (z + 0)))
 (.seq (.post (.seq (.reg [⟨(some 31), (Op.move (Operand.tmp 3)), none, ann0⟩,
  ⟨(some 32), (Op.binOp BinOp.eql 3 (Operand.tmp 31) (Operand.const (Value.int IntKind.i64 0)) 3), none, ann0⟩] none)
 (.cond (Operand.tmp 32) (.seq (.reg [⟨(some 33), (Op.move (Operand.tmp 0)), none, ann0⟩,
  ⟨(some 34), (Op.move (Operand.tmp 1)), none, ann0⟩,
  ⟨(some 35), (Op.move (Operand.tmp 2)), none, ann0⟩,
  ⟨(some 36), (Op.move (Operand.tmp 4)), none, ann0⟩,
  ⟨(some 37), (Op.call { callee := (Callee.value (Operand.func 86)), args := #[(Operand.tmp 33), (Operand.tmp 34), (Operand.tmp 35), (Operand.tmp 36)], argTypes := #[83, 3, 3, 119] }), none, ann0⟩] none)
 .ret)
 .skip)) (.tidy [0, 1, 2, 3, 4, 10, 11, 12] z (z + 0)))
 (.seq (.post (.seq (.reg [⟨(some 38), (Op.move (Operand.tmp 10)), none, ann0⟩,
  ⟨(some 39), (Op.unOp UnOp.not 4 (Operand.tmp 38)), none, ann0⟩] none)
 (.cond (Operand.tmp 39) (.seq (.post (.reg [⟨(some 40), (Op.move (Operand.tmp 0)), none, ann0⟩,
  ⟨(some 41), (Op.move (Operand.tmp 1)), none, ann0⟩,
  ⟨(some 42), (Op.move (Operand.tmp 2)), none, ann0⟩,
  ⟨(some 43), (Op.move (Operand.tmp 4)), none, ann0⟩,
  ⟨(some 44), (Op.call { callee := (Callee.value (Operand.func 87)), args := #[(Operand.tmp 40), (Operand.tmp 41), (Operand.tmp 42), (Operand.tmp 43)], argTypes := #[83, 3, 3, 119] }), none, ann0⟩] none) (.tidy [0, 1, 2, 3, 4, 10, 11, 12] z (z + 0)))
 (.reg [⟨(some 45), (Op.move (Operand.tmp 3)), none, ann0⟩,
  ⟨(some 46), (Op.binOp BinOp.sub 3 (Operand.tmp 45) (Operand.const (Value.int IntKind.i64 1)) 3), none, ann0⟩,
  ⟨(some 3), (Op.assign (Operand.tmp 46)), none, ann0⟩] none))
 .skip)) (.tidy [0, 1, 2, 3, 4, 10, 11, 12] z (z + 0)))
 (.seq (.post (.reg [⟨(some 48), (Op.move (Operand.tmp 0)), none, ann0⟩,
  ⟨(some 49), (Op.move (Operand.tmp 1)), none, ann0⟩,
  ⟨(some 50), (Op.move (Operand.tmp 2)), none, ann0⟩,
  ⟨(some 51), (Op.move (Operand.tmp 4)), none, ann0⟩,
  ⟨(some 52), (Op.call { callee := (Callee.value (Operand.func 88)), args := #[(Operand.tmp 48), (Operand.tmp 49), (Operand.tmp 50), (Operand.tmp 51)], argTypes := #[83, 3, 3, 119] }), none, ann0⟩,
  ⟨(some 47), (Op.move (Operand.tmp 52)), none, ann0⟩,
  ⟨(some 53), (Op.extract (Operand.tmp 47) 0), none, ann0⟩,
  ⟨(some 54), (Op.extract (Operand.tmp 47) 1), none, ann0⟩,
  ⟨(some 13), (Op.assign (Operand.tmp 53)), none, ann0⟩,
  ⟨(some 14), (Op.assign (Operand.tmp 54)), none, ann0⟩] none) (.tidy [0, 1, 2, 3, 4, 10, 11, 12, 13, 14] z (z + 0)))
 (.seq (.post (.seq (.reg [⟨(some 55), (Op.move (Operand.tmp 14)), none, ann0⟩,
  ⟨(some 56), (Op.binOp BinOp.eql 141 (Operand.tmp 55) (Operand.const (Value.int IntKind.i64 2)) 141), none, ann0⟩] none)
 (.cond (Operand.tmp 56) (.seq (.post (.reg [⟨(some 57), (Op.move (Operand.tmp 0)), none, ann0⟩,
  ⟨(some 58), (Op.move (Operand.tmp 1)), none, ann0⟩,
  ⟨(some 59), (Op.move (Operand.tmp 2)), none, ann0⟩,
  ⟨(some 60), (Op.move (Operand.tmp 4)), none, ann0⟩,
  ⟨(some 61), (Op.call { callee := (Callee.value (Operand.func 89)), args := #[(Operand.tmp 57), (Operand.tmp 58), (Operand.tmp 59), (Operand.tmp 60)], argTypes := #[83, 3, 3, 119] }), none, ann0⟩] none) (.tidy [0, 1, 2, 3, 4, 10, 11, 12, 13] z (z + 0)))
 (.seq (.post (.reg [⟨(some 62), (Op.move (Operand.tmp 2)), none, ann0⟩,
  ⟨(some 63), (Op.binOp BinOp.sub 3 (Operand.tmp 62) (Operand.const (Value.int IntKind.i64 1)) 3), none, ann0⟩,
  ⟨(some 64), (Op.move (Operand.tmp 13)), none, ann0⟩,
  ⟨(some 65), (Op.move (Operand.tmp 1)), none, ann0⟩,
  ⟨(some 66), (Op.binOp BinOp.sub 3 (Operand.tmp 64) (Operand.tmp 65) 3), none, ann0⟩,
  ⟨(some 67), (Op.binOp BinOp.sub 3 (Operand.tmp 63) (Operand.tmp 66) 3), none, ann0⟩,
  ⟨(some 13), (Op.assign (Operand.tmp 67)), none, ann0⟩] none) (.tidy [0, 1, 2, 3, 4, 10, 11, 12, 13] z (z + 0)))
 (.reg [⟨(some 14), (Op.assign (Operand.const (Value.int IntKind.i64 1))), none, ann0⟩] none)))
 .skip)) (.tidy [0, 1, 2, 3, 4, 10, 11, 12, 13, 14] z (z + 0)))
 (.seq (.post (.seq (.post (.reg [⟨(some 68), (Op.move (Operand.tmp 10)), none, ann0⟩,
  ⟨(some 69), (Op.move (Operand.tmp 68)), none, ann0⟩,
  ⟨(some 70), (Op.move (Operand.tmp 11)), (some (69, true)), ann0⟩,
  ⟨(some 71), (Op.pick (Operand.tmp 69) (Operand.tmp 70) (Operand.const (Value.bool false))), none, ann0⟩,
  ⟨(some 72), (Op.move (Operand.tmp 71)), none, ann0⟩,
  ⟨(some 73), (Op.move (Operand.tmp 14)), (some (72, true)), ann0⟩,
  ⟨(some 74), (Op.binOp BinOp.eql 141 (Operand.tmp 73) (Operand.const (Value.int IntKind.i64 1)) 141), (some (72, true)), ann0⟩,
  ⟨(some 75), (Op.pick (Operand.tmp 72) (Operand.tmp 74) (Operand.const (Value.bool false))), none, ann0⟩] none) (.tidy [0, 1, 2, 3, 4, 10, 11, 12, 13, 75] z (z + 0)))
 (.cond (Operand.tmp 75) (.seq (.reg [⟨(some 76), (Op.move (Operand.tmp 0)), none, ann0⟩,
  ⟨(some 77), (Op.move (Operand.tmp 1)), none, ann0⟩,
  ⟨(some 78), (Op.move (Operand.tmp 2)), none, ann0⟩,
  ⟨(some 79), (Op.move (Operand.tmp 4)), none, ann0⟩,
  ⟨(some 80), (Op.call { callee := (Callee.value (Operand.func 90)), args := #[(Operand.tmp 76), (Operand.tmp 77), (Operand.tmp 78), (Operand.tmp 79)], argTypes := #[83, 3, 3, 119] }), none, ann0⟩] none)
 (.cond (Operand.tmp 80) .ret
 .skip))
 .skip)) (.tidy [0, 1, 2, 3, 4, 10, 11, 12, 13] z (z + 0)))
 (.seq (.post (.seq (.post (.reg [⟨(some 81), (Op.move (Operand.tmp 1)), none, ann0⟩,
  ⟨(some 82), (Op.binOp BinOp.gtr 3 (Operand.tmp 81) (Operand.const (Value.int IntKind.i64 0)) 3), none, ann0⟩,
  ⟨(some 83), (Op.move (Operand.tmp 82)), none, ann0⟩,
  ⟨(some 84), (Op.move (Operand.tmp 4)), (some (83, true)), ann0⟩,
  ⟨(some 85), (Op.move (Operand.tmp 0)), (some (83, true)), ann0⟩,
  ⟨(some 86), (Op.move (Operand.tmp 1)), (some (83, true)), ann0⟩,
  ⟨(some 87), (Op.binOp BinOp.sub 3 (Operand.tmp 86) (Operand.const (Value.int IntKind.i64 1)) 3), (some (83, true)), ann0⟩,
  ⟨(some 88), (Op.indexAddr 83 (Operand.tmp 85) (Operand.tmp 87)), (some (83, true)), ann0⟩,
  ⟨(some 89), (Op.load 86 (Operand.tmp 88)), (some (83, true)), ann0⟩,
  ⟨(some 90), (Op.move (Operand.tmp 0)), (some (83, true)), ann0⟩,
  ⟨(some 91), (Op.move (Operand.tmp 13)), (some (83, true)), ann0⟩,
  ⟨(some 92), (Op.indexAddr 83 (Operand.tmp 90) (Operand.tmp 91)), (some (83, true)), ann0⟩,
  ⟨(some 93), (Op.load 86 (Operand.tmp 92)), (some (83, true)), ann0⟩,
  ⟨(some 94), (Op.call { callee := (Callee.value (Operand.tmp 84)), args := #[(Operand.tmp 89), (Operand.tmp 93)], argTypes := #[86, 86] }), (some (83, true)), ann0⟩,
  ⟨(some 95), (Op.binOp BinOp.lss 3 (Operand.tmp 94) (Operand.const (Value.int IntKind.i64 0)) 3), (some (83, true)), ann0⟩,
  ⟨(some 96), (Op.unOp UnOp.not 4 (Operand.tmp 95)), (some (83, true)), ann0⟩,
  ⟨(some 97), (Op.pick (Operand.tmp 83) (Operand.tmp 96) (Operand.const (Value.bool false))), none, ann0⟩] (some [0, 1, 3, 7, 7, 7, 39, 119, 247, 7, 7, 1543, 3591, 8191, 16383, 32767, 65535])) (.tidy [0, 1, 2, 3, 4, 10, 11, 12, 13, 97] z (z + 0)))
 (.cond (Operand.tmp 97) (.seq (.post (.reg [⟨(some 98), (Op.move (Operand.tmp 0)), none, ann0⟩,
  ⟨(some 99), (Op.move (Operand.tmp 1)), none, ann0⟩,
  ⟨(some 100), (Op.move (Operand.tmp 2)), none, ann0⟩,
  ⟨(some 101), (Op.move (Operand.tmp 13)), none, ann0⟩,
  ⟨(some 102), (Op.move (Operand.tmp 4)), none, ann0⟩,
  ⟨(some 103), (Op.call { callee := (Callee.value (Operand.func 91)), args := #[(Operand.tmp 98), (Operand.tmp 99), (Operand.tmp 100), (Operand.tmp 101), (Operand.tmp 102)], argTypes := #[83, 3, 3, 3, 119] }), none, ann0⟩,
  ⟨(some 15), (Op.assign (Operand.tmp 103)), none, ann0⟩] none) (.tidy [0, 2, 3, 4, 10, 11, 15] z (z + 0)))
 (.seq (.reg [⟨(some 104), (Op.move (Operand.tmp 15)), none, ann0⟩,
  ⟨(some 1), (Op.assign (Operand.tmp 104)), none, ann0⟩] none)
 (.exit 1)))
 .skip)) (.tidy [0, 1, 2, 3, 4, 12, 13] z (z + 0)))
 (.seq (.post (.reg [⟨(some 106), (Op.move (Operand.tmp 0)), none, ann0⟩,
  ⟨(some 107), (Op.move (Operand.tmp 1)), none, ann0⟩,
  ⟨(some 108), (Op.move (Operand.tmp 2)), none, ann0⟩,
  ⟨(some 109), (Op.move (Operand.tmp 13)), none, ann0⟩,
  ⟨(some 110), (Op.move (Operand.tmp 4)), none, ann0⟩,
  ⟨(some 111), (Op.call { callee := (Callee.value (Operand.func 92)), args := #[(Operand.tmp 106), (Operand.tmp 107), (Operand.tmp 108), (Operand.tmp 109), (Operand.tmp 110)], argTypes := #[83, 3, 3, 3, 119] }), none, ann0⟩,
  ⟨(some 105), (Op.move (Operand.tmp 111)), none, ann0⟩,
  ⟨(some 112), (Op.extract (Operand.tmp 105) 0), none, ann0⟩,
  ⟨(some 113), (Op.extract (Operand.tmp 105) 1), none, ann0⟩,
  ⟨(some 16), (Op.assign (Operand.tmp 112)), none, ann0⟩,
  ⟨(some 17), (Op.assign (Operand.tmp 113)), none, ann0⟩] none) (.tidy [0, 1, 2, 3, 4, 12, 16, 17] z (z + 0)))
 (.seq (.reg [⟨(some 114), (Op.move (Operand.tmp 17)), none, ann0⟩,
  ⟨(some 11), (Op.assign (Operand.tmp 114)), none, ann0⟩] none)
 (.seq (.post (.reg [⟨(some 115), (Op.move (Operand.tmp 16)), none, ann0⟩,
  ⟨(some 116), (Op.move (Operand.tmp 1)), none, ann0⟩,
  ⟨(some 117), (Op.binOp BinOp.sub 3 (Operand.tmp 115) (Operand.tmp 116) 3), none, ann0⟩,
  ⟨(some 118), (Op.move (Operand.tmp 2)), none, ann0⟩,
  ⟨(some 119), (Op.move (Operand.tmp 16)), none, ann0⟩,
  ⟨(some 120), (Op.binOp BinOp.sub 3 (Operand.tmp 118) (Operand.tmp 119) 3), none, ann0⟩,
  ⟨(some 18), (Op.assign (Operand.tmp 117)), none, ann0⟩,
  ⟨(some 19), (Op.assign (Operand.tmp 120)), none, ann0⟩] none) (.tidy [0, 1, 2, 3, 4, 11, 12, 16, 18, 19] z (z + 0)))
 (.seq (.reg [⟨(some 121), (Op.move (Operand.tmp 12)), none, ann0⟩,
  ⟨(some 122), (Op.binOp BinOp.quo 3 (Operand.tmp 121) (Operand.const (Value.int IntKind.i64 8)) 3), none, ann0⟩,
  ⟨(some 20), (Op.assign (Operand.tmp 122)), none, ann0⟩] none)
 (.seq (.reg [⟨(some 123), (Op.move (Operand.tmp 18)), none, ann0⟩,
  ⟨(some 124), (Op.move (Operand.tmp 19)), none, ann0⟩,
  ⟨(some 125), (Op.binOp BinOp.lss 3 (Operand.tmp 123) (Operand.tmp 124) 3), none, ann0⟩] none)
 (.cond (Operand.tmp 125) (.seq (.post (.reg [⟨(some 126), (Op.move (Operand.tmp 18)), none, ann0⟩,
  ⟨(some 127), (Op.move (Operand.tmp 20)), none, ann0⟩,
  ⟨(some 128), (Op.binOp BinOp.geq 3 (Operand.tmp 126) (Operand.tmp 127) 3), none, ann0⟩,
  ⟨(some 10), (Op.assign (Operand.tmp 128)), none, ann0⟩] none) (.tidy [0, 1, 2, 3, 4, 10, 11, 16] z (z + 0)))
 (.seq (.post (.reg [⟨(some 129), (Op.move (Operand.tmp 0)), none, ann0⟩,
  ⟨(some 130), (Op.move (Operand.tmp 1)), none, ann0⟩,
  ⟨(some 131), (Op.move (Operand.tmp 16)), none, ann0⟩,
  ⟨(some 132), (Op.move (Operand.tmp 3)), none, ann0⟩,
  ⟨(some 133), (Op.move (Operand.tmp 4)), none, ann0⟩,
  ⟨(some 134), (Op.call { callee := (Callee.value (Operand.func 76)), args := #[(Operand.tmp 129), (Operand.tmp 130), (Operand.tmp 131), (Operand.tmp 132), (Operand.tmp 133)], argTypes := #[83, 3, 3, 3, 119] }), none, ann0⟩] none) (.tidy [0, 2, 3, 4, 10, 11, 16] z (z + 0)))
 (.reg [⟨(some 135), (Op.move (Operand.tmp 16)), none, ann0⟩,
  ⟨(some 136), (Op.binOp BinOp.add 3 (Operand.tmp 135) (Operand.const (Value.int IntKind.i64 1)) 3), none, ann0⟩,
  ⟨(some 1), (Op.assign (Operand.tmp 136)), none, ann0⟩] none)))
 (.seq (.reg [⟨(some 137), (Op.move (Operand.tmp 19)), none, ann0⟩,
  ⟨(some 138), (Op.move (Operand.tmp 20)), none, ann0⟩,
  ⟨(some 139), (Op.binOp BinOp.geq 3 (Operand.tmp 137) (Operand.tmp 138) 3), none, ann0⟩,
  ⟨(some 10), (Op.assign (Operand.tmp 139)), none, ann0⟩] none)
 (.seq (.post (.reg [⟨(some 140), (Op.move (Operand.tmp 0)), none, ann0⟩,
  ⟨(some 141), (Op.move (Operand.tmp 16)), none, ann0⟩,
  ⟨(some 142), (Op.binOp BinOp.add 3 (Operand.tmp 141) (Operand.const (Value.int IntKind.i64 1)) 3), none, ann0⟩,
  ⟨(some 143), (Op.move (Operand.tmp 2)), none, ann0⟩,
  ⟨(some 144), (Op.move (Operand.tmp 3)), none, ann0⟩,
  ⟨(some 145), (Op.move (Operand.tmp 4)), none, ann0⟩,
  ⟨(some 146), (Op.call { callee := (Callee.value (Operand.func 76)), args := #[(Operand.tmp 140), (Operand.tmp 142), (Operand.tmp 143), (Operand.tmp 144), (Operand.tmp 145)], argTypes := #[83, 3, 3, 3, 119] }), none, ann0⟩] none) (.tidy [0, 1, 3, 4, 10, 11, 16] z (z + 0)))
 (.reg [⟨(some 147), (Op.move (Operand.tmp 16)), none, ann0⟩,
  ⟨(some 2), (Op.assign (Operand.tmp 147)), none, ann0⟩] none)))))))))))))))))) (.tidy [0, 1, 2, 3, 4, 10, 11] z (z + 0))
def s76_1 (z : Nat) : SC := c76_1 z
theorem e76_1 {C : Pg} {z : Nat} {st : St} {ks : List Fr} {K : Ex → St → Prop} : wpk C (s76_1 z) st ks K ↔ wpk C (c76_1 z) st ks K := Iff.rfl
def s76 (z : Nat) : SFn := ⟨5, 148, [],
 (.seq (.reg [⟨(some 10), (Op.assign (Operand.const (Value.bool true))), none, ann0⟩] none)
 (.seq (.reg [⟨(some 11), (Op.assign (Operand.const (Value.bool true))), none, ann0⟩] none)
 (.post (.block 0 (.pre (.tidy [0, 1, 2, 3, 4, 10, 11] z (z + 0)) (.loop (s76_1 z)))) (.tidy [] z (z + 0)))))⟩
theorem F76 (z : Nat) : FOk Try.prog 76 (s76 z) := by unfold FOk; kernel_rfl
def s59 (z : Nat) : SFn := ⟨2, 14, [],
 (.seq (.reg [⟨(some 5), (Op.move (Operand.tmp 0)), none, ann0⟩,
  ⟨(some 6), (Op.call { callee := (Callee.builtin Builtin.len), args := #[(Operand.tmp 5)], argTypes := #[83] }), none, ann0⟩,
  ⟨(some 4), (Op.assign (Operand.tmp 6)), none, ann0⟩] none)
 (.reg [⟨(some 7), (Op.move (Operand.tmp 0)), none, ann0⟩,
  ⟨(some 8), (Op.move (Operand.tmp 4)), none, ann0⟩,
  ⟨(some 9), (Op.move (Operand.tmp 4)), none, ann0⟩,
  ⟨(some 10), (Op.convert 3 110 (Operand.tmp 9)), none, ann0⟩,
  ⟨(some 11), (Op.call { callee := (Callee.value (Operand.func 77)), args := #[(Operand.tmp 10)], argTypes := #[110] }), none, ann0⟩,
  ⟨(some 12), (Op.move (Operand.tmp 1)), none, ann0⟩,
  ⟨(some 13), (Op.call { callee := (Callee.value (Operand.func 76)), args := #[(Operand.tmp 7), (Operand.const (Value.int IntKind.i64 0)), (Operand.tmp 8), (Operand.tmp 11), (Operand.tmp 12)], argTypes := #[83, 3, 3, 3, 119] }), none, ann0⟩] none))⟩
theorem F59 (z : Nat) : FOk Try.prog 59 (s59 z) := by unfold FOk; kernel_rfl
def c36_1 (z : Nat) : SC := .post (.seq (.reg [⟨(some 15), (Op.binOp BinOp.lss 3 (Operand.tmp 14) (Operand.tmp 13) 3), none, ann0⟩] none)
 (.seq (.cond (Operand.tmp 15) .skip
 (.exit 0))
 (.seq (.post (.block 1 (.seq (.reg [⟨(some 16), (Op.indexAddr 22 (Operand.tmp 12) (Operand.tmp 14)), none, ann0⟩,
  ⟨(some 17), (Op.load 26 (Operand.tmp 16)), none, ann0⟩,
  ⟨(some 7), (Op.alloc 26), none, ⟨1, false, false⟩⟩,
  ⟨none, (Op.store 26 (Operand.tmp 7) (Operand.tmp 17)), none, ann0⟩] none)
 (.seq (.post (.reg [⟨(some 18), (Op.fieldAddr 26 (Operand.tmp 7) 1), none, ann0⟩,
  ⟨(some 19), (Op.load 3 (Operand.tmp 18)), none, ann0⟩,
  ⟨(some 20), (Op.binOp BinOp.eql 3 (Operand.tmp 19) (Operand.const (Value.int IntKind.i64 3)) 3), none, ann0⟩,
  ⟨(some 21), (Op.move (Operand.tmp 20)), none, ann0⟩,
  ⟨(some 22), (Op.fieldAddr 26 (Operand.tmp 7) 2), (some (21, true)), ann0⟩,
  ⟨(some 23), (Op.load 3 (Operand.tmp 22)), (some (21, true)), ann0⟩,
  ⟨(some 24), (Op.move (Operand.tmp 1)), (some (21, true)), ann0⟩,
  ⟨(some 25), (Op.binOp BinOp.leq 3 (Operand.tmp 23) (Operand.tmp 24) 3), (some (21, true)), ann0⟩,
  ⟨(some 26), (Op.pick (Operand.tmp 21) (Operand.tmp 25) (Operand.const (Value.bool false))), none, ann0⟩] none) (.tidy [1, 5, 7, 12, 13, 14, 26] z (z + 2)))
 (.cond (Operand.tmp 26) (.reg [⟨(some 27), (Op.move (Operand.tmp 5)), none, ann0⟩,
  ⟨(some 28), (Op.load 26 (Operand.tmp 7)), none, ann0⟩,
  ⟨(some 29), (Op.call { callee := (Callee.value (Operand.func 58)), args := #[(Operand.tmp 28)], argTypes := #[26] }), none, ann0⟩,
  ⟨(some 30), (Op.move (Operand.tmp 5)), none, ann0⟩,
  ⟨(some 31), (Op.load 26 (Operand.tmp 7)), none, ann0⟩,
  ⟨(some 32), (Op.call { callee := (Callee.value (Operand.func 58)), args := #[(Operand.tmp 31)], argTypes := #[26] }), none, ann0⟩,
  ⟨(some 33), (Op.lookup 114 (Operand.tmp 30) (Operand.tmp 32) false), none, ann0⟩,
  ⟨(some 34), (Op.unOp UnOp.not 4 (Operand.tmp 33)), none, ann0⟩,
  ⟨none, (Op.mapUpdate 114 (Operand.tmp 27) (Operand.tmp 29) (Operand.tmp 34)), none, ann0⟩] (some [0, 0, 2, 0, 0, 22, 62, 126, 255]))
 .skip)))) (.tidy [1, 5, 12, 13, 14] z (z + 2)))
 (.reg [⟨(some 35), (Op.binOp BinOp.add 3 (Operand.tmp 14) (Operand.const (Value.int IntKind.i64 1)) 3), none, ann0⟩,
  ⟨(some 14), (Op.move (Operand.tmp 35)), none, ann0⟩] none)))) (.tidy [1, 5, 12, 13, 14] z (z + 1))
def s36_1 (z : Nat) : SC := c36_1 z
theorem e36_1 {C : Pg} {z : Nat} {st : St} {ks : List Fr} {K : Ex → St → Prop} : wpk C (s36_1 z) st ks K ↔ wpk C (c36_1 z) st ks K := Iff.rfl
def c36_2 (z : Nat) : SC := .post (.seq (.reg [⟨(some 38), (Op.next (Operand.tmp 37) false), none, ann0⟩,
  ⟨(some 39), (Op.extract (Operand.tmp 38) 0), none, ann0⟩] none)
 (.seq (.cond (Operand.tmp 39) .skip
 (.exit 2))
 (.block 3 (.seq (.reg [⟨(some 40), (Op.entry (Operand.tmp 37)), none, ann0⟩,
  ⟨(some 41), (Op.extract (Operand.tmp 40) 0), none, ann0⟩,
  ⟨(some 42), (Op.extract (Operand.tmp 40) 1), none, ann0⟩,
  ⟨(some 9), (Op.alloc 116), none, ⟨1, false, false⟩⟩,
  ⟨none, (Op.store 116 (Operand.tmp 9) (Operand.tmp 41)), none, ann0⟩,
  ⟨(some 10), (Op.assign (Operand.tmp 42)), none, ann0⟩] none)
 (.seq (.reg [⟨(some 43), (Op.move (Operand.tmp 10)), none, ann0⟩] none)
 (.cond (Operand.tmp 43) (.reg [⟨(some 44), (Op.move (Operand.tmp 8)), none, ann0⟩,
  ⟨(some 45), (Op.fieldAddr 116 (Operand.tmp 9) 1), none, ann0⟩,
  ⟨(some 46), (Op.load 9 (Operand.tmp 45)), none, ann0⟩,
  ⟨(some 47), (Op.fieldAddr 116 (Operand.tmp 9) 2), none, ann0⟩,
  ⟨(some 48), (Op.load 9 (Operand.tmp 47)), none, ann0⟩,
  ⟨(some 49), (Op.build 86 #[(0, (Operand.tmp 46)), (1, (Operand.tmp 48))]), none, ann0⟩,
  ⟨(some 50), (Op.buildSlice 83 1 #[(0, (Operand.tmp 49))]), none, ⟨1, true, false⟩⟩,
  ⟨(some 51), (Op.call { callee := (Callee.builtin Builtin.append), args := #[(Operand.tmp 44), (Operand.tmp 50)], argTypes := #[83, 83] }), none, ann0⟩,
  ⟨(some 8), (Op.assign (Operand.tmp 51)), none, ann0⟩] none)
 .skip)))))) (.tidy [8, 37] z (z + 3))
def s36_2 (z : Nat) : SC := c36_2 z
theorem e36_2 {C : Pg} {z : Nat} {st : St} {ks : List Fr} {K : Ex → St → Prop} : wpk C (s36_2 z) st ks K ↔ wpk C (c36_2 z) st ks K := Iff.rfl
def s36 (z : Nat) : SFn := ⟨2, 55, [(ResultVar.tmp 4)],
 (.post (.seq (.reg [⟨(some 4), (Op.assign (Operand.const (Value.slice none 0 0))), none, ann0⟩] none)
 (.seq (.reg [⟨(some 11), (Op.makeMap 114 none), none, ⟨1, false, false⟩⟩,
  ⟨(some 5), (Op.assign (Operand.tmp 11)), none, ann0⟩] none)
 (.seq (.post (.seq (.reg [⟨(some 12), (Op.move (Operand.tmp 0)), none, ann0⟩,
  ⟨(some 13), (Op.call { callee := (Callee.builtin Builtin.len), args := #[(Operand.tmp 12)], argTypes := #[22] }), none, ann0⟩,
  ⟨(some 14), (Op.move (Operand.const (Value.int IntKind.i64 0))), none, ann0⟩] none)
 (.post (.block 0 (.pre (.tidy [1, 5, 12, 13, 14] z (z + 1)) (.loop (s36_1 z)))) (.tidy [5] z (z + 1)))) (.tidy [5] z (z + 1)))
 (.seq (.post (.reg [⟨(some 8), (Op.assign (Operand.const (Value.slice none 0 0))), none, ann0⟩] none) (.mkv 8 86 2))
 (.seq (.post (.seq (.reg [⟨(some 36), (Op.move (Operand.tmp 5)), none, ann0⟩,
  ⟨(some 37), (Op.range 114 (Operand.tmp 36)), none, ⟨1, false, false⟩⟩] none)
 (.post (.block 2 (.pre (.tidy [8, 37] z (z + 3)) (.loop (s36_2 z)))) (.tidy [8] z (z + 3)))) (.tidy [8] z (z + 3)))
 (.seq (.reg [⟨(some 52), (Op.move (Operand.tmp 8)), none, ann0⟩,
  ⟨(some 53), (Op.call { callee := (Callee.value (Operand.func 59)), args := #[(Operand.tmp 52), (Operand.func 60)], argTypes := #[83, 119] }), none, ann0⟩] none)
 (.seq (.reg [⟨(some 54), (Op.move (Operand.tmp 8)), none, ann0⟩,
  ⟨(some 4), (Op.assign (Operand.tmp 54)), none, ann0⟩] none)
 .ret))))))) (.frz 4))⟩
theorem F36 (z : Nat) : FOk Try.prog 36 (s36 z) := by unfold FOk; kernel_rfl
def c11_2 (z : Nat) : SC := .post (.seq (.seq (.post (.reg [⟨(some 22), (Op.move (Operand.tmp 11)), none, ann0⟩,
  ⟨(some 23), (Op.move (Operand.tmp 5)), none, ann0⟩,
  ⟨(some 24), (Op.call { callee := (Callee.builtin Builtin.len), args := #[(Operand.tmp 23)], argTypes := #[22] }), none, ann0⟩,
  ⟨(some 25), (Op.binOp BinOp.lss 3 (Operand.tmp 22) (Operand.tmp 24) 3), none, ann0⟩] none) (.tidy [1, 5, 6, 7, 8, 9, 10, 11, 25] z (z + 1)))
 (.cond (Operand.tmp 25) .skip
 (.exit 2)))
 (.seq (.post (.block 3 (.seq (.post (.reg [⟨(some 28), (Op.move (Operand.tmp 5)), none, ann0⟩,
  ⟨(some 29), (Op.move (Operand.tmp 11)), none, ann0⟩,
  ⟨(some 30), (Op.indexAddr 22 (Operand.tmp 28) (Operand.tmp 29)), none, ann0⟩,
  ⟨(some 31), (Op.fieldAddr 26 (Operand.tmp 30) 1), none, ann0⟩,
  ⟨(some 32), (Op.load 3 (Operand.tmp 31)), none, ann0⟩,
  ⟨(some 33), (Op.binOp BinOp.eql 3 (Operand.tmp 32) (Operand.const (Value.int IntKind.i64 3)) 3), none, ann0⟩,
  ⟨(some 34), (Op.move (Operand.tmp 33)), none, ann0⟩,
  ⟨(some 35), (Op.move (Operand.tmp 5)), (some (34, true)), ann0⟩,
  ⟨(some 36), (Op.move (Operand.tmp 11)), (some (34, true)), ann0⟩,
  ⟨(some 37), (Op.indexAddr 22 (Operand.tmp 35) (Operand.tmp 36)), (some (34, true)), ann0⟩,
  ⟨(some 38), (Op.fieldAddr 26 (Operand.tmp 37) 2), (some (34, true)), ann0⟩,
  ⟨(some 39), (Op.load 3 (Operand.tmp 38)), (some (34, true)), ann0⟩,
  ⟨(some 40), (Op.move (Operand.tmp 1)), (some (34, true)), ann0⟩,
  ⟨(some 41), (Op.binOp BinOp.leq 3 (Operand.tmp 39) (Operand.tmp 40) 3), (some (34, true)), ann0⟩,
  ⟨(some 42), (Op.pick (Operand.tmp 34) (Operand.tmp 41) (Operand.const (Value.bool false))), none, ann0⟩,
  ⟨(some 43), (Op.move (Operand.tmp 42)), none, ann0⟩,
  ⟨(some 44), (Op.move (Operand.tmp 5)), (some (43, true)), ann0⟩,
  ⟨(some 45), (Op.move (Operand.tmp 11)), (some (43, true)), ann0⟩,
  ⟨(some 46), (Op.indexAddr 22 (Operand.tmp 44) (Operand.tmp 45)), (some (43, true)), ann0⟩,
  ⟨(some 47), (Op.fieldAddr 26 (Operand.tmp 46) 3), (some (43, true)), ann0⟩,
  ⟨(some 48), (Op.load 9 (Operand.tmp 47)), (some (43, true)), ann0⟩,
  ⟨(some 49), (Op.move (Operand.tmp 6)), (some (43, true)), ann0⟩,
  ⟨(some 50), (Op.move (Operand.tmp 9)), (some (43, true)), ann0⟩,
  ⟨(some 51), (Op.binOp BinOp.quo 3 (Operand.tmp 50) (Operand.const (Value.int IntKind.i64 4)) 3), (some (43, true)), ann0⟩,
  ⟨(some 52), (Op.indexAddr 66 (Operand.tmp 49) (Operand.tmp 51)), (some (43, true)), ann0⟩,
  ⟨(some 53), (Op.load 9 (Operand.tmp 52)), (some (43, true)), ann0⟩,
  ⟨(some 54), (Op.binOp BinOp.eql 9 (Operand.tmp 48) (Operand.tmp 53) 9), (some (43, true)), ann0⟩,
  ⟨(some 55), (Op.pick (Operand.tmp 43) (Operand.tmp 54) (Operand.const (Value.bool false))), none, ann0⟩,
  ⟨(some 56), (Op.move (Operand.tmp 55)), none, ann0⟩,
  ⟨(some 57), (Op.move (Operand.tmp 5)), (some (56, true)), ann0⟩,
  ⟨(some 58), (Op.move (Operand.tmp 11)), (some (56, true)), ann0⟩,
  ⟨(some 59), (Op.indexAddr 22 (Operand.tmp 57) (Operand.tmp 58)), (some (56, true)), ann0⟩,
  ⟨(some 60), (Op.fieldAddr 26 (Operand.tmp 59) 4), (some (56, true)), ann0⟩,
  ⟨(some 61), (Op.load 9 (Operand.tmp 60)), (some (56, true)), ann0⟩,
  ⟨(some 62), (Op.move (Operand.tmp 6)), (some (56, true)), ann0⟩,
  ⟨(some 63), (Op.move (Operand.tmp 9)), (some (56, true)), ann0⟩,
  ⟨(some 64), (Op.binOp BinOp.rem 3 (Operand.tmp 63) (Operand.const (Value.int IntKind.i64 4)) 3), (some (56, true)), ann0⟩,
  ⟨(some 65), (Op.indexAddr 66 (Operand.tmp 62) (Operand.tmp 64)), (some (56, true)), ann0⟩,
  ⟨(some 66), (Op.load 9 (Operand.tmp 65)), (some (56, true)), ann0⟩,
  ⟨(some 67), (Op.binOp BinOp.eql 9 (Operand.tmp 61) (Operand.tmp 66) 9), (some (56, true)), ann0⟩,
  ⟨(some 68), (Op.pick (Operand.tmp 56) (Operand.tmp 67) (Operand.const (Value.bool false))), none, ann0⟩] (some [0, 0, 3, 7, 15, 31, 63, 127, 127, 511, 1023, 2047, 127, 8191, 16383, 32767, 65535, 65535, 262143, 524287, 1048575, 65535, 65535, 4259839, 14745599, 31522815, 67108863, 134217727, 268435455, 536870911, 536870911, 2147483647, 4294967295, 8589934591, 536870911, 536870911, 34896609279, 120795955199, 258234908671, 549755813887, 1099511627775])) (.tidy [1, 5, 6, 7, 8, 9, 10, 11, 68] z (z + 1)))
 (.cond (Operand.tmp 68) (.reg [⟨(some 69), (Op.move (Operand.tmp 10)), none, ann0⟩,
  ⟨(some 70), (Op.binOp BinOp.add 3 (Operand.tmp 69) (Operand.const (Value.int IntKind.i64 1)) 3), none, ann0⟩,
  ⟨(some 10), (Op.assign (Operand.tmp 70)), none, ann0⟩] none)
 .skip))) (.tidy [1, 5, 6, 7, 8, 9, 10, 11] z (z + 1)))
 (.reg [⟨(some 26), (Op.move (Operand.tmp 11)), none, ann0⟩,
  ⟨(some 27), (Op.binOp BinOp.add 3 (Operand.tmp 26) (Operand.const (Value.int IntKind.i64 1)) 3), none, ann0⟩,
  ⟨(some 11), (Op.assign (Operand.tmp 27)), none, ann0⟩] none))) (.tidy [1, 5, 6, 7, 8, 9, 10, 11] z (z + 1))
def s11_2 (z : Nat) : SC := c11_2 z
theorem e11_2 {C : Pg} {z : Nat} {st : St} {ks : List Fr} {K : Ex → St → Prop} : wpk C (s11_2 z) st ks K ↔ wpk C (c11_2 z) st ks K := Iff.rfl
def c11_1 (z : Nat) : SC := .post (.seq (.seq (.reg [⟨(some 18), (Op.move (Operand.tmp 9)), none, ann0⟩,
  ⟨(some 19), (Op.binOp BinOp.lss 3 (Operand.tmp 18) (Operand.const (Value.int IntKind.i64 16)) 3), none, ann0⟩] none)
 (.cond (Operand.tmp 19) .skip
 (.exit 0)))
 (.seq (.post (.block 1 (.seq (.reg [⟨(some 10), (Op.assign (Operand.const (Value.int IntKind.i64 0))), none, ann0⟩] none)
 (.seq (.post (.seq (.reg [⟨(some 11), (Op.assign (Operand.const (Value.int IntKind.i64 0))), none, ann0⟩] none)
 (.post (.block 2 (.pre (.tidy [1, 5, 6, 7, 8, 9, 10, 11] z (z + 1)) (.loop (s11_2 z)))) (.tidy [1, 5, 6, 7, 8, 9, 10] z (z + 1)))) (.tidy [1, 5, 6, 7, 8, 9, 10] z (z + 1)))
 (.seq (.seq (.reg [⟨(some 71), (Op.move (Operand.tmp 10)), none, ann0⟩,
  ⟨(some 72), (Op.binOp BinOp.rem 3 (Operand.tmp 71) (Operand.const (Value.int IntKind.i64 2)) 3), none, ann0⟩,
  ⟨(some 73), (Op.binOp BinOp.eql 3 (Operand.tmp 72) (Operand.const (Value.int IntKind.i64 0)) 3), none, ann0⟩] none)
 (.cond (Operand.tmp 73) (.exit 1)
 .skip))
 (.seq (.post (.seq (.post (.reg [⟨(some 74), (Op.move (Operand.tmp 8)), none, ann0⟩,
  ⟨(some 75), (Op.move (Operand.tmp 7)), none, ann0⟩,
  ⟨(some 76), (Op.call { callee := (Callee.builtin Builtin.len), args := #[(Operand.tmp 75)], argTypes := #[83] }), none, ann0⟩,
  ⟨(some 77), (Op.binOp BinOp.geq 3 (Operand.tmp 74) (Operand.tmp 76) 3), none, ann0⟩,
  ⟨(some 78), (Op.move (Operand.tmp 77)), none, ann0⟩,
  ⟨(some 79), (Op.move (Operand.tmp 7)), (some (78, false)), ann0⟩,
  ⟨(some 80), (Op.move (Operand.tmp 8)), (some (78, false)), ann0⟩,
  ⟨(some 81), (Op.indexAddr 83 (Operand.tmp 79) (Operand.tmp 80)), (some (78, false)), ann0⟩,
  ⟨(some 82), (Op.load 86 (Operand.tmp 81)), (some (78, false)), ann0⟩,
  ⟨(some 83), (Op.move (Operand.tmp 6)), (some (78, false)), ann0⟩,
  ⟨(some 84), (Op.move (Operand.tmp 9)), (some (78, false)), ann0⟩,
  ⟨(some 85), (Op.binOp BinOp.quo 3 (Operand.tmp 84) (Operand.const (Value.int IntKind.i64 4)) 3), (some (78, false)), ann0⟩,
  ⟨(some 86), (Op.indexAddr 66 (Operand.tmp 83) (Operand.tmp 85)), (some (78, false)), ann0⟩,
  ⟨(some 87), (Op.load 9 (Operand.tmp 86)), (some (78, false)), ann0⟩,
  ⟨(some 88), (Op.move (Operand.tmp 6)), (some (78, false)), ann0⟩,
  ⟨(some 89), (Op.move (Operand.tmp 9)), (some (78, false)), ann0⟩,
  ⟨(some 90), (Op.binOp BinOp.rem 3 (Operand.tmp 89) (Operand.const (Value.int IntKind.i64 4)) 3), (some (78, false)), ann0⟩,
  ⟨(some 91), (Op.indexAddr 66 (Operand.tmp 88) (Operand.tmp 90)), (some (78, false)), ann0⟩,
  ⟨(some 92), (Op.load 9 (Operand.tmp 91)), (some (78, false)), ann0⟩,
  ⟨(some 93), (Op.build 86 #[(0, (Operand.tmp 87)), (1, (Operand.tmp 92))]), (some (78, false)), ann0⟩,
  ⟨(some 94), (Op.binOp BinOp.neq 86 (Operand.tmp 82) (Operand.tmp 93) 86), (some (78, false)), ann0⟩,
  ⟨(some 95), (Op.pick (Operand.tmp 78) (Operand.const (Value.bool true)) (Operand.tmp 94)), none, ann0⟩] (some [0, 0, 2, 7, 15, 31, 31, 127, 255, 31, 31, 1055, 3615, 7711, 31, 31, 32799, 114719, 245791, 523807, 1048575, 2097151])) (.tidy [1, 5, 6, 7, 8, 9, 95] z (z + 1)))
 (.cond (Operand.tmp 95) (.seq (.reg [⟨(some 4), (Op.assign (Operand.const (Value.bool false))), none, ann0⟩] none)
 .ret)
 .skip)) (.tidy [1, 5, 6, 7, 8, 9] z (z + 1)))
 (.reg [⟨(some 96), (Op.move (Operand.tmp 8)), none, ann0⟩,
  ⟨(some 97), (Op.binOp BinOp.add 3 (Operand.tmp 96) (Operand.const (Value.int IntKind.i64 1)) 3), none, ann0⟩,
  ⟨(some 8), (Op.assign (Operand.tmp 97)), none, ann0⟩] none)))))) (.tidy [1, 5, 6, 7, 8, 9] z (z + 1)))
 (.reg [⟨(some 20), (Op.move (Operand.tmp 9)), none, ann0⟩,
  ⟨(some 21), (Op.binOp BinOp.add 3 (Operand.tmp 20) (Operand.const (Value.int IntKind.i64 1)) 3), none, ann0⟩,
  ⟨(some 9), (Op.assign (Operand.tmp 21)), none, ann0⟩] none))) (.tidy [1, 5, 6, 7, 8, 9] z (z + 1))
def s11_1 (z : Nat) : SC := c11_1 z
theorem e11_1 {C : Pg} {z : Nat} {st : St} {ks : List Fr} {K : Ex → St → Prop} : wpk C (s11_1 z) st ks K ↔ wpk C (c11_1 z) st ks K := Iff.rfl
def s11 (z : Nat) : SFn := ⟨2, 105, [(ResultVar.tmp 4)],
 (.seq (.reg [⟨(some 4), (Op.assign (Operand.const (Value.bool false))), none, ann0⟩] none)
 (.seq (.reg [⟨(some 12), (Op.move (Operand.tmp 0)), none, ann0⟩,
  ⟨(some 13), (Op.call { callee := (Callee.value (Operand.func 19)), args := #[(Operand.tmp 12)], argTypes := #[30] }), none, ann0⟩,
  ⟨(some 5), (Op.assign (Operand.tmp 13)), none, ann0⟩] none)
 (.seq (.reg [⟨(some 14), (Op.buildSlice 66 4 #[(0, (Operand.const (Value.string ⟨#[97, 112, 105]⟩))), (1, (Operand.const (Value.string ⟨#[99, 97, 99, 104, 101]⟩))), (2, (Operand.const (Value.string ⟨#[100, 98]⟩))), (3, (Operand.const (Value.string ⟨#[119, 101, 98]⟩)))]), none, ⟨1, true, false⟩⟩,
  ⟨(some 6), (Op.assign (Operand.tmp 14)), none, ann0⟩] none)
 (.seq (.post (.reg [⟨(some 15), (Op.move (Operand.tmp 5)), none, ann0⟩,
  ⟨(some 16), (Op.move (Operand.tmp 1)), none, ann0⟩,
  ⟨(some 17), (Op.call { callee := (Callee.value (Operand.func 36)), args := #[(Operand.tmp 15), (Operand.tmp 16)], argTypes := #[22, 3] }), none, ann0⟩,
  ⟨(some 7), (Op.assign (Operand.tmp 17)), none, ann0⟩] none) (.tidy [1, 5, 6, 7] z (z + 1)))
 (.seq (.reg [⟨(some 8), (Op.assign (Operand.const (Value.int IntKind.i64 0))), none, ann0⟩] none)
 (.seq (.post (.seq (.reg [⟨(some 9), (Op.assign (Operand.const (Value.int IntKind.i64 0))), none, ann0⟩] none)
 (.post (.block 0 (.pre (.tidy [1, 5, 6, 7, 8, 9] z (z + 1)) (.loop (s11_1 z)))) (.tidy [7, 8] z (z + 1)))) (.tidy [7, 8] z (z + 1)))
 (.seq (.reg [⟨(some 98), (Op.call { callee := (Callee.value (Operand.func 14)), args := #[], argTypes := #[] }), none, ann0⟩,
  ⟨(some 99), (Op.move (Operand.tmp 98)), none, ann0⟩,
  ⟨(some 100), (Op.move (Operand.tmp 8)), (some (99, true)), ann0⟩,
  ⟨(some 101), (Op.move (Operand.tmp 7)), (some (99, true)), ann0⟩,
  ⟨(some 102), (Op.call { callee := (Callee.builtin Builtin.len), args := #[(Operand.tmp 101)], argTypes := #[83] }), (some (99, true)), ann0⟩,
  ⟨(some 103), (Op.binOp BinOp.eql 3 (Operand.tmp 100) (Operand.tmp 102) 3), (some (99, true)), ann0⟩,
  ⟨(some 104), (Op.pick (Operand.tmp 99) (Operand.tmp 103) (Operand.const (Value.bool false))), none, ann0⟩,
  ⟨(some 4), (Op.assign (Operand.tmp 104)), none, ann0⟩] none)
 .ret)))))))⟩
theorem F11 (z : Nat) : FOk Try.prog 11 (s11 z) := by unfold FOk; kernel_rfl
def AL (z : Nat) : List (Nat × SFn) := [(65, s65 z), (66, s66 z), (41, s41 z), (42, s42 z), (40, s40 z), (15, s15 z), (67, s67 z), (46, s46 z), (45, s45 z), (58, s58 z), (48, s48 z), (53, s53 z), (17, s17 z), (20, s20 z), (29, s29 z), (14, s14 z), (43, s43 z), (44, s44 z), (16, s16 z), (39, s39 z), (47, s47 z), (19, s19 z), (60, s60 z), (85, s85 z), (93, s93 z), (94, s94 z), (77, s77 z), (76, s76 z), (59, s59 z), (36, s36 z), (11, s11 z)]
def AA (f : FuncId) (_ : List AV) (obs : List AObj) : Option SFn := getF f (AL obs.length)
theorem AL_ok (z : Nat) : AllF Try.prog (AL z) := by
  simp only [AL, AllF]
  exact ⟨F65 z, F66 z, F41 z, F42 z, F40 z, F15 z, F67 z, F46 z, F45 z, F58 z, F48 z, F53 z, F17 z, F20 z, F29 z, F14 z, F43 z, F44 z, F16 z, F39 z, F47 z, F19 z, F60 z, F85 z, F93 z, F94 z, F77 z, F76 z, F59 z, F36 z, F11 z, trivial⟩
theorem AA_ok (f : FuncId) (xs : List AV) (obs : List AObj) (s : SFn) (h : AA f xs obs = some s) : (Try.prog.funcs[f]?).bind slimFn = some s.erase := getF_ok (AL_ok _) h
theorem A65 (xs : List AV) (obs : List AObj) : AA 65 xs obs = some (s65 obs.length) := rfl
theorem A66 (xs : List AV) (obs : List AObj) : AA 66 xs obs = some (s66 obs.length) := rfl
theorem A41 (xs : List AV) (obs : List AObj) : AA 41 xs obs = some (s41 obs.length) := rfl
theorem A42 (xs : List AV) (obs : List AObj) : AA 42 xs obs = some (s42 obs.length) := rfl
theorem A40 (xs : List AV) (obs : List AObj) : AA 40 xs obs = some (s40 obs.length) := rfl
theorem A15 (xs : List AV) (obs : List AObj) : AA 15 xs obs = some (s15 obs.length) := rfl
theorem A67 (xs : List AV) (obs : List AObj) : AA 67 xs obs = some (s67 obs.length) := rfl
theorem A46 (xs : List AV) (obs : List AObj) : AA 46 xs obs = some (s46 obs.length) := rfl
theorem A45 (xs : List AV) (obs : List AObj) : AA 45 xs obs = some (s45 obs.length) := rfl
theorem A58 (xs : List AV) (obs : List AObj) : AA 58 xs obs = some (s58 obs.length) := rfl
theorem A48 (xs : List AV) (obs : List AObj) : AA 48 xs obs = some (s48 obs.length) := rfl
theorem A53 (xs : List AV) (obs : List AObj) : AA 53 xs obs = some (s53 obs.length) := rfl
theorem A17 (xs : List AV) (obs : List AObj) : AA 17 xs obs = some (s17 obs.length) := rfl
theorem A20 (xs : List AV) (obs : List AObj) : AA 20 xs obs = some (s20 obs.length) := rfl
theorem A29 (xs : List AV) (obs : List AObj) : AA 29 xs obs = some (s29 obs.length) := rfl
theorem A14 (xs : List AV) (obs : List AObj) : AA 14 xs obs = some (s14 obs.length) := rfl
theorem A43 (xs : List AV) (obs : List AObj) : AA 43 xs obs = some (s43 obs.length) := rfl
theorem A44 (xs : List AV) (obs : List AObj) : AA 44 xs obs = some (s44 obs.length) := rfl
theorem A16 (xs : List AV) (obs : List AObj) : AA 16 xs obs = some (s16 obs.length) := rfl
theorem A39 (xs : List AV) (obs : List AObj) : AA 39 xs obs = some (s39 obs.length) := rfl
theorem A47 (xs : List AV) (obs : List AObj) : AA 47 xs obs = some (s47 obs.length) := rfl
theorem A19 (xs : List AV) (obs : List AObj) : AA 19 xs obs = some (s19 obs.length) := rfl
theorem A60 (xs : List AV) (obs : List AObj) : AA 60 xs obs = some (s60 obs.length) := rfl
theorem A85 (xs : List AV) (obs : List AObj) : AA 85 xs obs = some (s85 obs.length) := rfl
theorem A93 (xs : List AV) (obs : List AObj) : AA 93 xs obs = some (s93 obs.length) := rfl
theorem A94 (xs : List AV) (obs : List AObj) : AA 94 xs obs = some (s94 obs.length) := rfl
theorem A77 (xs : List AV) (obs : List AObj) : AA 77 xs obs = some (s77 obs.length) := rfl
theorem A76 (xs : List AV) (obs : List AObj) : AA 76 xs obs = some (s76 obs.length) := rfl
theorem A59 (xs : List AV) (obs : List AObj) : AA 59 xs obs = some (s59 obs.length) := rfl
theorem A36 (xs : List AV) (obs : List AObj) : AA 36 xs obs = some (s36 obs.length) := rfl
theorem A11 (xs : List AV) (obs : List AObj) : AA 11 xs obs = some (s11 obs.length) := rfl
end Go.Proofs.YteidaaobppjlbaaV
