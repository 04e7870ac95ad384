/- Walks: rhythm.turned by its contract, on words. -/
import Derived.Test.YtfbifmgaehgcmaaRows
import Derived.Test.YtfbifmgaehgcmaaFl
import Derived.WalkKit
import Derived.WalkSpells
import Derived.WalkLawsBesides
namespace Go.Proofs.Ytfbifmgaehgcmaa
open Go.RowKit

@[go_sem] theorem unary_neg_float (k : FloatKind) (b : Nat) : Op.unary .neg (.float k b) = pure (.float k (Op.negFloat k b)) := rfl
@[go_sem] theorem unary_neg_complex (k : FloatKind) (a b : Nat) : Op.unary .neg (.complex k a b) = pure (.complex k (Op.negFloat k a) (Op.negFloat k b)) := rfl

section
variable (P : Program) (w : World) (a : Addr) (m : Mode)
@[go_sem] theorem run_store_float (k : FloatKind) (b : Nat) : (store a (.float k b) m).run P w = stored P w a (.float k b) m := run_store P w a _ m rfl
@[go_sem] theorem run_store_complex (k : FloatKind) (b c : Nat) : (store a (.complex k b c) m).run P w = stored P w a (.complex k b c) m := run_store P w a _ m rfl
end

theorem and3 (k : Int) : bits .and .i64 k 3 = k % 4 := by
  show IntKind.i64.wrap (((BitVec.ofInt 64 k &&& BitVec.ofInt 64 3).toNat : Nat) : Int) = _
  have e3 : (BitVec.ofInt 64 3).toNat = 3 := by decide
  rw [BitVec.toNat_and, e3, BitVec.toNat_ofInt, show (3 : Nat) = 2 ^ 2 - 1 from rfl, Nat.and_two_pow_sub_one_eq_mod]
  simp only [IntKind.wrap, IntKind.bits, IntKind.signed]
  simp
  omega

/-- What turned gives, on words. -/
def turnW (a b : Nat) (r : Int) : Nat × Nat :=
  if r = 1 then (b, Op.negFloat .f64 a) else if r = 2 then (Op.negFloat .f64 a, Op.negFloat .f64 b) else if r = 3 then (Op.negFloat .f64 b, a) else (a, b)

set_option maxHeartbeats 400000 in
theorem turned_any (a b : Nat) (k : Int) (w : World) :
    Calls Try.prog 24 #[.complex .f64 a b, .int .i64 k] w fun e w' => e = .returned (.complex .f64 (turnW a b (k % 4)).1 (turnW a b (k % 4)).2) ∧ w = w' := by
  have e := and3 k
  have h4 : k % 4 = 0 ∨ k % 4 = 1 ∨ k % 4 = 2 ∨ k % 4 = 3 := by omega
  rcases h4 with h | h | h | h
  all_goals
    rw [h] at e ⊢
    go_enter Try.func24, Try.ntmps24
    go_wp2
    go_ret
    exact ⟨rfl, rfl⟩

end Go.Proofs.Ytfbifmgaehgcmaa
