/-
  gf.Exp and gf.Pow in the words of the laws.
-/
import Derived.Test.YtoipbblgbbocnaaAwake
import Derived.Test.YtoipbblgbbocnaaShape
namespace Go.Proofs.Ytoipbblgbbocnaa
open Go.RowKit
/-- 2, i times by itself, i below 0 too. -/
def ie (i : Int) : Nat := pw (i % 255).toNat
theorem ie_lg {a : Nat} (ha : a < 256) (h0 : a ≠ 0) : ie (lg a : Int) = a := by
  have := lg_lt ha
  unfold ie
  rw [show ((lg a : Int) % 255).toNat = lg a by omega, pw_lg ha h0]
theorem ie_per (i : Int) : ie (i + 255) = ie i := by unfold ie; rw [Int.add_emod_right]
theorem exp_ie (i : Int) (w : World) :
    Calls Try.prog 15 #[.int .i64 i] w fun e w' => e = .returned (Q (ie i)) ∧ Below w.heap.size w w' := exp_any i w
theorem pow_any (a : Nat) (ha : a < 256) (ha0 : a ≠ 0) (i : Int) (w : World) :
    Calls Try.prog 14 #[Q a, .int .i64 i] w fun e w' => e = .returned (.tuple #[Q (ip a i), .int .i64 0]) ∧ Below w.heap.size w w' := by
  by_cases hi : i = 0
  · subst hi
    refine (pow_none a w).mono ?_
    rintro e w' ⟨rfl, rfl⟩
    exact ⟨by rw [ip_zero], Below.refl _ _⟩
  · exact pow_pos a ha ha0 i hi w

end Go.Proofs.Ytoipbblgbbocnaa
