/-
  The walks of gf.Exp, gf.Log, gf.Div, gf.Inv and gf.Pow: each lays a Field and asks it once.
-/
import Derived.Test.YtoipbblgbbocnaaMeth
namespace Go.Proofs.Ytoipbblgbbocnaa
open Go.RowKit
theorem thenB {w w1 w2 : World} (h : Below w.heap.size w w1) (k : Below w1.heap.size w1 w2) : Below w.heap.size w w2 := h.trans (k.mono h.size)
theorem allocB {w w1 : World} (h : Below w.heap.size w w1) (o : Obj) : Below w.heap.size w (w1.alloc o) := h.alloc h.size o

set_option maxHeartbeats 400000 in
theorem exp_any (i : Int) (w : World) :
    Calls Try.prog 15 #[.int .i64 i] w fun e w' => e = .returned (Q (pw (i % 255).toNat)) ∧ Below w.heap.size w w' := by
  go_enter Try.func15, Try.ntmps15
  go_wp2_with (first | (go_at_call 16; refine (new_any _).mono ?_; rintro e w1 ⟨rfl, hF, hb1⟩) | (go_at_call 19; refine (fexp_any _ i _ hF).mono ?_; rintro e w2 ⟨rfl, rfl⟩))
  go_ret
  exact ⟨rfl, hb1⟩

set_option maxHeartbeats 400000 in
theorem log_zero (w : World) :
    Calls Try.prog 12 #[Q 0] w fun e w' => e = .returned (.tuple #[.int .i64 0, .int .i64 16]) ∧ w = w' := by
  go_enter Try.func12, Try.ntmps12
  go_wp2
  go_ret2
  exact ⟨rfl, rfl⟩
set_option maxRecDepth 100000 in
set_option maxHeartbeats 400000 in
theorem log_pos (a : Nat) (ha : a < 256) (ha0 : a ≠ 0) (w : World) :
    Calls Try.prog 12 #[Q a] w fun e w' => e = .returned (.tuple #[.int .i64 (lg a : Int), .int .i64 0]) ∧ Below w.heap.size w w' := by
  have n1 := nz ha0
  have i1 : (0 : Int) ≤ (a : Int) := Int.natCast_nonneg _
  have i2 : (a : Int) < 256 := by omega
  clear ha0
  go_enter Try.func12, Try.ntmps12
  go_wp2_with (go_at_call 16; refine (new_any _).mono ?_; rintro e w1 ⟨rfl, hF, hb1⟩; have h1 := hF.log a ha; clear hF)
  go_ret2
  exact ⟨rfl, hb1⟩

set_option maxRecDepth 100000 in
set_option maxHeartbeats 400000 in
theorem div_by_zero (a : Int) (w : World) :
    Calls Try.prog 25 #[.int .u8 a, Q 0] w fun e w' => e = .returned (.tuple #[Q 0, .int .i64 16]) ∧ Below w.heap.size w w' := by
  go_enter Try.func25, Try.ntmps25
  go_wp2_with (go_at_call 16; refine (new_any _).mono ?_; rintro e w1 ⟨rfl, hF, hb1⟩)
  go_ret2
  exact ⟨rfl, hb1⟩
set_option maxRecDepth 100000 in
set_option maxHeartbeats 800000 in
theorem div_any (a b : Nat) (ha : a < 256) (hb : b < 256) (hb0 : b ≠ 0) (w : World) :
    Calls Try.prog 25 #[Q a, Q b] w fun e w' => e = .returned (.tuple #[Q (gd a b), .int .i64 0]) ∧ Below w.heap.size w w' := by
  have n2 := nz hb0
  clear hb0
  by_cases ha0 : a = 0
  · have hd : gd a b = 0 := by unfold gd; rw [if_pos ha0]
    rw [hd]
    have n1 := z_is ha0
    clear ha0 hd
    go_enter Try.func25, Try.ntmps25
    go_wp2_with (go_at_call 16; refine (new_any _).mono ?_; rintro e w1 ⟨rfl, hF, hb1⟩)
    go_ret2
    exact ⟨rfl, hb1⟩
  · have hd : gd a b = pw (lg a + 255 - lg b) := by unfold gd; rw [if_neg ha0]
    rw [hd]
    have n1 := nz ha0
    have l1 := lg_lt ha
    have l2 := lg_lt hb
    have i1 : (0 : Int) ≤ (a : Int) := Int.natCast_nonneg _
    have i2 : (a : Int) < 256 := by omega
    have i3 : (0 : Int) ≤ (b : Int) := Int.natCast_nonneg _
    have i4 : (b : Int) < 256 := by omega
    have i5 : (0 : Int) ≤ (lg a : Int) := Int.natCast_nonneg _
    have i6 : (0 : Int) ≤ (lg b : Int) := Int.natCast_nonneg _
    clear ha0 hd
    go_enter Try.func25, Try.ntmps25
    go_wp2_with (go_at_call 16; refine (new_any _).mono ?_; rintro e w1 ⟨rfl, hF, hb1⟩; have h1 := hF.log a ha; have h2 := hF.log b hb; have h3 := hF.exp (lg a + 255 - lg b) (by omega); clear hF)
    go_quiet (fail)
    go_wp2
    go_ret2
    exact ⟨rfl, below_drewN hb1 _⟩

theorem inv_zero (w : World) :
    Calls Try.prog 21 #[Q 0] w fun e w' => e = .returned (.tuple #[Q 0, .int .i64 16]) ∧ Below w.heap.size w w' := by
  go_enter Try.func21, Try.ntmps21
  go_wp2_with (go_at_call 25; refine (div_by_zero 1 _).mono ?_; rintro e w1 ⟨rfl, hb1⟩)
  go_ret2
  exact ⟨rfl, hb1⟩
theorem inv_any (a : Nat) (ha : a < 256) (ha0 : a ≠ 0) (w : World) :
    Calls Try.prog 21 #[Q a] w fun e w' => e = .returned (.tuple #[Q (gd 1 a), .int .i64 0]) ∧ Below w.heap.size w w' := by
  go_enter Try.func21, Try.ntmps21
  go_wp2_with (go_at_call 25; refine (div_any 1 a (by omega) ha ha0 _).mono ?_; rintro e w1 ⟨rfl, hb1⟩)
  go_ret2
  exact ⟨rfl, hb1⟩

set_option maxHeartbeats 400000 in
theorem pow_none (a : Int) (w : World) :
    Calls Try.prog 14 #[.int .u8 a, .int .i64 0] w fun e w' => e = .returned (.tuple #[Q 1, .int .i64 0]) ∧ w = w' := by
  go_enter Try.func14, Try.ntmps14
  go_wp2
  go_ret2
  exact ⟨rfl, rfl⟩
set_option maxHeartbeats 400000 in
theorem pow_zero_neg (i : Int) (hi : i < 0) (w : World) :
    Calls Try.prog 14 #[Q 0, .int .i64 i] w fun e w' => e = .returned (.tuple #[Q 0, .int .i64 16]) ∧ w = w' := by
  have n1 : (i == 0) = false := by rw [beq_eq_false_iff_ne]; omega
  go_enter Try.func14, Try.ntmps14
  go_wp2
  go_ret2
  exact ⟨rfl, rfl⟩
set_option maxHeartbeats 400000 in
theorem pow_zero_pos (i : Int) (hi : 0 < i) (w : World) :
    Calls Try.prog 14 #[Q 0, .int .i64 i] w fun e w' => e = .returned (.tuple #[Q 0, .int .i64 0]) ∧ w = w' := by
  have n1 : (i == 0) = false := by rw [beq_eq_false_iff_ne]; omega
  go_enter Try.func14, Try.ntmps14
  go_wp2
  go_ret2
  exact ⟨rfl, rfl⟩
theorem pow_idx (i : Int) (l : Nat) : i.tmod 255 * (l : Int) % 255 = i * (l : Int) % 255 := by
  rw [Int.mul_emod, (tmod_bd i).2.2, ← Int.mul_emod]
set_option maxRecDepth 100000 in
set_option maxHeartbeats 800000 in
theorem pow_pos (a : Nat) (ha : a < 256) (ha0 : a ≠ 0) (i : Int) (hi : i ≠ 0) (w : World) :
    Calls Try.prog 14 #[Q a, .int .i64 i] w fun e w' => e = .returned (.tuple #[Q (ip a i), .int .i64 0]) ∧ Below w.heap.size w w' := by
  have n1 : (i == 0) = false := by rw [beq_eq_false_iff_ne]; exact hi
  have n2 := nz ha0
  have l1 := lg_lt ha
  have i1 : (0 : Int) ≤ (a : Int) := Int.natCast_nonneg _
  have i2 : (a : Int) < 256 := by omega
  have hx := pow_idx i (lg a)
  unfold ip
  rw [← hx]
  obtain ⟨h1, h2, h3⟩ := tmod_bd i
  obtain ⟨r, hr⟩ : ∃ r, i.tmod 255 = r := ⟨_, rfl⟩
  rw [hr] at h1 h2 hx
  rw [hr]
  have m1 : r * (lg a : Int) ≤ 254 * 254 := Int.le_trans (Int.mul_le_mul_of_nonneg_right (by omega : r ≤ 254) (by omega)) (Int.mul_le_mul_of_nonneg_left (by omega) (by omega))
  have m2 : -(254 * 254) ≤ r * (lg a : Int) := by
    have : (-r) * (lg a : Int) ≤ 254 * 254 := Int.le_trans (Int.mul_le_mul_of_nonneg_right (by omega : -r ≤ 254) (by omega)) (Int.mul_le_mul_of_nonneg_left (by omega) (by omega))
    rw [Int.neg_mul] at this
    omega
  obtain ⟨m, hm⟩ : ∃ m, r * (lg a : Int) = m := ⟨_, rfl⟩
  rw [hm] at m1 m2
  rw [hm]
  obtain ⟨t1, t2, t3⟩ := tmod_bd m
  obtain ⟨s, hs⟩ : ∃ s, m.tmod 255 = s := ⟨_, rfl⟩
  rw [hs] at t1 t2 t3
  rw [← t3]
  have h4 : (0 : Int) ≤ s % 255 := by omega
  have h5 : s % 255 < 255 := by omega
  clear ha0 hi hx h3 t3
  go_enter Try.func14, Try.ntmps14
  go_wp2_with (go_at_call 16; refine (new_any _).mono ?_; rintro e w1 ⟨rfl, hF, hb1⟩; have c1 := hF.log a ha; have c2 := hF.exp (s % 255).toNat (by omega); clear hF)
  go_quiet (fail)
  go_wp2
  go_ret2
  exact ⟨rfl, below_drewN hb1 _⟩
end Go.Proofs.Ytoipbblgbbocnaa
