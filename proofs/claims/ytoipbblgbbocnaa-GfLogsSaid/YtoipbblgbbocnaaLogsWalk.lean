/-
  The walk of GfLogs: the sum of logarithms is that of the product, and powers are added, and multiplied.
-/
import Derived.Test.YtoipbblgbbocnaaPower
namespace Go.Proofs.Ytoipbblgbbocnaa
open Go.RowKit
set_option maxRecDepth 100000 in
set_option maxHeartbeats 1600000 in
theorem logs_main (w : World) (a b : Nat) (ha : a < 256) (hb : b < 256) (ha0 : a ≠ 0) (hb0 : b ≠ 0) (n m : Int)
    (n1 : -1000 ≤ n) (n2 : n ≤ 1000) (m1 : -1000 ≤ m) (m2 : m ≤ 1000) :
    Calls Try.prog 3 #[Q a, Q b, .agg #[.int .i64 n, .int .i64 m]] w fun e w' => e = .returned (.bool true) ∧ Below w.heap.size w w' := by
  have za := nz ha0
  have zb := nz hb0
  have l1 := lg_lt ha
  have l2 := lg_lt hb
  have l3 := lg_lt (gm_lt a b)
  have gl := gm_lt a b
  have GN := Lib.hid (gm_ne ha0 hb0)
  have PL := Lib.hid (ip_lt a n)
  have PN := Lib.hid (ip_ne a n)
  have e1 : (((lg a : Int) + (lg b : Int)) % 255 == (lg (gm a b) : Int)) = true := by
    rw [beq_iff_eq, gm_pos ha0 hb0, lg_pw]; omega
  have e2 := ie_lg ha ha0
  have e3 := ip_add a n m
  have e4 := ip_mul a n m
  have e5 := ie_per n
  have q1 : n * m ≤ 1000000 := by
    have h1 : n * m ≤ (n.natAbs * m.natAbs : Nat) := by rw [← Int.natAbs_mul]; exact Int.le_natAbs
    have h2 : n.natAbs * m.natAbs ≤ 1000 * 1000 := Nat.mul_le_mul (by omega) (by omega)
    omega
  have q2 : -1000000 ≤ n * m := by
    have h1 : -(n * m) ≤ (n.natAbs * m.natAbs : Nat) := by rw [← Int.natAbs_mul, ← Int.natAbs_neg]; exact Int.le_natAbs
    have h2 : n.natAbs * m.natAbs ≤ 1000 * 1000 := Nat.mul_le_mul (by omega) (by omega)
    omega
  obtain ⟨q, hq⟩ : ∃ q, n * m = q := ⟨_, rfl⟩
  rw [hq] at q1 q2 e4
  have HA0 := Lib.hid ha0
  have HB0 := Lib.hid hb0
  clear ha0 hb0
  go_enter Try.func3, Try.ntmps3
  go_wp2_with (first | (go_at_call 12; (first | (with_reducible refine (log_pos a ha HA0.out _).mono ?_) | (with_reducible refine (log_pos b hb HB0.out _).mono ?_) | (with_reducible refine (log_pos (gm a b) gl GN.out _).mono ?_)); rintro e w1 ⟨rfl, hb1⟩) | (go_at_call 13; (first | (with_reducible refine (mul2 a b ha hb _).mono ?_) | (with_reducible refine (mul2 (ip a n) (ip a m) (ip_lt _ _) (ip_lt _ _) _).mono ?_)); rintro e w1 ⟨rfl, hb1⟩) | (go_at_call 14; (first | (with_reducible refine (pow_any a ha HA0.out _ _).mono ?_) | (with_reducible refine (pow_any (ip a n) PL.out PN.out _ _).mono ?_)); rintro e w1 ⟨rfl, hb1⟩) | (go_at_call 15; (with_reducible refine (exp_ie _ _).mono ?_); rintro e w1 ⟨rfl, hb1⟩) | (go_at_call 11; refine (awake_any _).mono ?_; rintro e w1 ⟨rfl, hb1⟩))
  go_ret
  refine ⟨rfl, ?_⟩
  repeat (first | exact Below.refl _ _ | assumption | (refine thenB ?_ (by assumption)) | refine allocB ?_ _)

set_option maxRecDepth 100000 in
set_option maxHeartbeats 1600000 in
theorem logs_out (w : World) (a b : Nat) (n m : Int) (h : ¬ (-1000 ≤ n ∧ n ≤ 1000 ∧ -1000 ≤ m ∧ m ≤ 1000 ∧ a ≠ 0 ∧ b ≠ 0)) :
    Calls Try.prog 3 #[Q a, Q b, .agg #[.int .i64 n, .int .i64 m]] w fun e w' => e = .returned (.bool true) ∧ Below w.heap.size w w' := by
  by_cases c1 : n < -1000
  · clear h
    go_enter Try.func3, Try.ntmps3
    go_wp2_with (go_at_call 11; refine (awake_any _).mono ?_; rintro e w1 ⟨rfl, hb1⟩)
    go_ret
    refine ⟨rfl, ?_⟩
    repeat (first | exact Below.refl _ _ | assumption | (refine thenB ?_ (by assumption)) | refine allocB ?_ _)
  by_cases c2 : 1000 < n
  · clear h
    go_enter Try.func3, Try.ntmps3
    go_wp2_with (go_at_call 11; refine (awake_any _).mono ?_; rintro e w1 ⟨rfl, hb1⟩)
    go_ret
    refine ⟨rfl, ?_⟩
    repeat (first | exact Below.refl _ _ | assumption | (refine thenB ?_ (by assumption)) | refine allocB ?_ _)
  by_cases c3 : m < -1000
  · clear h
    go_enter Try.func3, Try.ntmps3
    go_wp2_with (go_at_call 11; refine (awake_any _).mono ?_; rintro e w1 ⟨rfl, hb1⟩)
    go_ret
    refine ⟨rfl, ?_⟩
    repeat (first | exact Below.refl _ _ | assumption | (refine thenB ?_ (by assumption)) | refine allocB ?_ _)
  by_cases c4 : 1000 < m
  · clear h
    go_enter Try.func3, Try.ntmps3
    go_wp2_with (go_at_call 11; refine (awake_any _).mono ?_; rintro e w1 ⟨rfl, hb1⟩)
    go_ret
    refine ⟨rfl, ?_⟩
    repeat (first | exact Below.refl _ _ | assumption | (refine thenB ?_ (by assumption)) | refine allocB ?_ _)
  by_cases c5 : a = 0
  · have z := z_is c5
    clear h c5
    go_enter Try.func3, Try.ntmps3
    go_wp2_with (go_at_call 11; refine (awake_any _).mono ?_; rintro e w1 ⟨rfl, hb1⟩)
    go_ret
    refine ⟨rfl, ?_⟩
    repeat (first | exact Below.refl _ _ | assumption | (refine thenB ?_ (by assumption)) | refine allocB ?_ _)
  have y := nz c5
  by_cases c6 : b = 0
  · have z := z_is c6
    clear h c5 c6
    go_enter Try.func3, Try.ntmps3
    go_wp2_with (go_at_call 11; refine (awake_any _).mono ?_; rintro e w1 ⟨rfl, hb1⟩)
    go_ret
    refine ⟨rfl, ?_⟩
    repeat (first | exact Below.refl _ _ | assumption | (refine thenB ?_ (by assumption)) | refine allocB ?_ _)
  exact absurd ⟨by omega, by omega, by omega, by omega, c5, c6⟩ h

theorem logs_all (w : World) (a : Int) (ha : (Lit.int .u8 a).wf = true) (b : Int) (hb : (Lit.int .u8 b).wf = true) (v : Value) (hv : ∃ x y : Int, v = .agg #[.int .i64 x, .int .i64 y] ∧ (Lit.int .i64 x).wf = true ∧ (Lit.int .i64 y).wf = true) :
    Calls Try.prog 3 #[.int .u8 a, .int .u8 b, v] w fun e w' => e = .returned (.bool true) ∧ Below w.heap.size w w' := by
  obtain ⟨n, m, rfl, _, _⟩ := hv
  obtain ⟨a, rfl, ka⟩ := byte_is ha
  obtain ⟨b, rfl, kb⟩ := byte_is hb
  by_cases h : -1000 ≤ n ∧ n ≤ 1000 ∧ -1000 ≤ m ∧ m ≤ 1000 ∧ a ≠ 0 ∧ b ≠ 0
  · exact logs_main w a b ka kb h.2.2.2.2.1 h.2.2.2.2.2 n m h.1 h.2.1 h.2.2.1 h.2.2.2.1
  · exact logs_out w a b n m h
end Go.Proofs.Ytoipbblgbbocnaa
