/-
  The walk of GfOrder: 2 is each byte but 0 just once in 255 powers, a square's root is there once, and sums vanish with themselves.
-/
import Derived.Test.YtoipbblgbbocnaaFieldWalk
import Derived.Test.YtoipbblgbbocnaaPower
namespace Go.Proofs.Ytoipbblgbbocnaa
open Go.RowKit
theorem ie_ne (i : Int) : ie i ≠ 0 := pw_ne _
theorem ie_eq {n m : Int} (h0 : 0 ≤ n) (h1 : n ≤ 254) (h2 : 0 ≤ m) (h3 : m ≤ 254) : ((ie n : Int) == (ie m : Int)) = (n == m) := by
  rw [Bool.eq_iff_iff, beq_iff_eq, beq_iff_eq]
  constructor
  · intro h
    have := pw_inj (n := (n % 255).toNat) (m := (m % 255).toNat) (by omega) (by omega) (by unfold ie at h; omega)
    omega
  · rintro rfl; rfl
theorem sq_eq {a b : Nat} (ha : a < 256) (hb : b < 256) : ((gm a a : Int) == (gm b b : Int)) = ((a : Int) == (b : Int)) := by
  rw [Bool.eq_iff_iff, beq_iff_eq, beq_iff_eq]
  have := sq_inj ha hb
  omega
theorem xor_back (a b : Nat) : a ^^^ b ^^^ a = b := by
  rw [Nat.xor_comm a b, Nat.xor_assoc, Nat.xor_self, Nat.xor_zero]

set_option maxRecDepth 100000 in
set_option maxHeartbeats 3200000 in
theorem order_main (w : World) (a b : Nat) (ha : a < 256) (hb : b < 256) (n m : Int) (h0 : 0 ≤ n) (h1 : n ≤ 254) (h2 : 0 ≤ m) (h3 : m ≤ 254) :
    Calls Try.prog 8 #[Q a, Q b, .agg #[.int .i64 n, .int .i64 m]] w fun e w' => e = .returned (.bool true) ∧ Below w.heap.size w w' := by
  have x1 := xor_lt ha hb
  have g1 := gm_lt a a
  have g2 := gm_lt b b
  have e1 := ie_eq h0 h1 h2 h3
  have e2 := nz (ie_ne n)
  have e3 := sq_eq ha hb
  have e4 := sq_xor ha hb
  have e5 := xor_back a b
  go_enter Try.func8, Try.ntmps8
  go_wp2_with (first | (go_at_call 24; (first | (with_reducible refine (add2b a b ha hb _).mono ?_) | (with_reducible refine (add2b _ _ g1 g2 _).mono ?_) | (with_reducible refine (add3b a b a ha hb ha _).mono ?_)); rintro e w1 ⟨rfl, hb1⟩) | (go_at_call 13; (first | (with_reducible refine (mul2 a a ha ha _).mono ?_) | (with_reducible refine (mul2 b b hb hb _).mono ?_) | (with_reducible refine (mul2 _ _ x1 x1 _).mono ?_)); rintro e w1 ⟨rfl, hb1⟩) | (go_at_call 15; (with_reducible refine (exp_ie _ _).mono ?_); rintro e w1 ⟨rfl, hb1⟩) | (go_at_call 11; refine (awake_any _).mono ?_; rintro e w1 ⟨rfl, hb1⟩))
  go_ret
  refine ⟨rfl, ?_⟩
  repeat (first | exact Below.refl _ _ | assumption | (refine thenB ?_ (by assumption)) | refine allocB ?_ _)

set_option maxRecDepth 100000 in
set_option maxHeartbeats 1600000 in
theorem order_out (w : World) (a b : Nat) (n m : Int) (h : ¬ (0 ≤ n ∧ n ≤ 254 ∧ 0 ≤ m ∧ m ≤ 254)) :
    Calls Try.prog 8 #[Q a, Q b, .agg #[.int .i64 n, .int .i64 m]] w fun e w' => e = .returned (.bool true) ∧ Below w.heap.size w w' := by
  by_cases c0 : n < 0
  · clear h
    go_enter Try.func8, Try.ntmps8
    go_wp2_with (go_at_call 11; refine (awake_any _).mono ?_; rintro e w1 ⟨rfl, hb1⟩)
    go_ret
    refine ⟨rfl, ?_⟩
    repeat (first | exact Below.refl _ _ | assumption | (refine thenB ?_ (by assumption)) | refine allocB ?_ _)
  by_cases c1 : 254 < n
  · clear h
    go_enter Try.func8, Try.ntmps8
    go_wp2_with (go_at_call 11; refine (awake_any _).mono ?_; rintro e w1 ⟨rfl, hb1⟩)
    go_ret
    refine ⟨rfl, ?_⟩
    repeat (first | exact Below.refl _ _ | assumption | (refine thenB ?_ (by assumption)) | refine allocB ?_ _)
  by_cases c2 : m < 0
  · clear h
    go_enter Try.func8, Try.ntmps8
    go_wp2_with (go_at_call 11; refine (awake_any _).mono ?_; rintro e w1 ⟨rfl, hb1⟩)
    go_ret
    refine ⟨rfl, ?_⟩
    repeat (first | exact Below.refl _ _ | assumption | (refine thenB ?_ (by assumption)) | refine allocB ?_ _)
  by_cases c3 : 254 < m
  · clear h
    go_enter Try.func8, Try.ntmps8
    go_wp2_with (go_at_call 11; refine (awake_any _).mono ?_; rintro e w1 ⟨rfl, hb1⟩)
    go_ret
    refine ⟨rfl, ?_⟩
    repeat (first | exact Below.refl _ _ | assumption | (refine thenB ?_ (by assumption)) | refine allocB ?_ _)
  exact absurd ⟨by omega, by omega, by omega, by omega⟩ h

theorem order_all (w : World) (a : Int) (ha : (Lit.int .u8 a).wf = true) (b : Int) (hb : (Lit.int .u8 b).wf = true) (v : Value) (hv : ∃ x y : Int, v = .agg #[.int .i64 x, .int .i64 y] ∧ (Lit.int .i64 x).wf = true ∧ (Lit.int .i64 y).wf = true) :
    Calls Try.prog 8 #[.int .u8 a, .int .u8 b, v] w fun e w' => e = .returned (.bool true) ∧ Below w.heap.size w w' := by
  obtain ⟨n, m, rfl, _, _⟩ := hv
  obtain ⟨a, rfl, ka⟩ := byte_is ha
  obtain ⟨b, rfl, kb⟩ := byte_is hb
  by_cases h : 0 ≤ n ∧ n ≤ 254 ∧ 0 ≤ m ∧ m ≤ 254
  · exact order_main w a b ka kb n m h.1 h.2.1 h.2.2.1 h.2.2.2
  · exact order_out w a b n m h
end Go.Proofs.Ytoipbblgbbocnaa
