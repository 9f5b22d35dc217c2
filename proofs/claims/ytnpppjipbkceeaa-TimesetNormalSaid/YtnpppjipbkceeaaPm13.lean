/- breakPatterns: some permutation. -/
import Derived.Test.YtnpppjipbkceeaaPm12
set_option linter.unusedVariables false
set_option linter.unusedSimpArgs false
namespace Go.Proofs.YtnpppjipbkceeaaV
open Go.RowKit
/-- what the random number picks -/
def rnd (r m : Int) : Int := IntKind.i64.wrap (IntKind.u64.wrap (((r % 2 ^ IntKind.u64.bits).toNat &&& ((m - 1) % 2 ^ IntKind.u64.bits).toNat : Nat) : Int))
theorem rnd_in (r m : Int) (hm : m = 16 ∨ m = 32) : 0 ≤ rnd r m ∧ rnd r m < m := by
  have key : ∀ (x k : Nat), x &&& k ≤ k := fun x k => Nat.and_le_right
  have h := key (r % 2 ^ IntKind.u64.bits).toNat ((m - 1) % 2 ^ IntKind.u64.bits).toNat
  unfold rnd
  generalize (r % 2 ^ IntKind.u64.bits).toNat &&& ((m - 1) % 2 ^ IntKind.u64.bits).toNat = q at *
  have hk : ((m - 1) % 2 ^ IntKind.u64.bits).toNat < m.toNat := by rcases hm with rfl | rfl <;> decide
  have w1 : IntKind.u64.wrap (q : Int) = q := by
    simp [IntKind.wrap, IntKind.bits, IntKind.signed]; omega
  rw [w1, wrap64 (by omega) (by omega)]
  omega
end Go.Proofs.YtnpppjipbkceeaaV
