/-
  The document's Pow and Log, and the walk of GfPowers: what a byte is, so many times by itself, and which power of 2 it is.
-/
import Derived.Test.YtoipbblgbbocnaaDivsWalk
import Derived.Test.YtoipbblgbbocnaaPower
namespace Go.Proofs.Ytoipbblgbbocnaa
open Go.RowKit
theorem ip_step {a : Nat} (ha : a < 256) (h0 : a ≠ 0) (j : Nat) : gm (ip a (j : Int)) a = ip a ((j + 1 : Nat) : Int) := by
  have := ip_add a j 1
  rw [ip_one ha h0] at this
  rw [this]; rfl
theorem ip_mod (a : Nat) (n : Int) (K : Nat) (h : (K : Int) = n % 255) : ip a (K : Int) = ip a n := by
  unfold ip
  rw [h, Int.mul_emod, Int.emod_emod, ← Int.mul_emod]

set_option maxRecDepth 100000 in
set_option maxHeartbeats 800000 in
theorem rpow_pos (a : Nat) (ha : a < 256) (ha0 : a ≠ 0) (n : Int) (w : World) :
    Calls Try.prog 29 #[Q a, .int .i64 n] w fun e w' => e = .returned (Q (ip a n)) ∧ w = w' := by
  obtain ⟨t1, t2, t3⟩ := tmod_bd n
  obtain ⟨K, hK⟩ : ∃ K : Nat, (K : Int) = n % 255 := ⟨(n % 255).toNat, by omega⟩
  have hK2 : K < 255 := by omega
  rw [← ip_mod a n K hK]
  have y := nz ha0
  have HS := Lib.hid fun j => ip_step ha ha0 j
  clear ha0
  by_cases hneg : n.tmod 255 < 0
  · obtain ⟨r, hr⟩ : ∃ r, n.tmod 255 = r := ⟨_, rfl⟩
    rw [hr] at t1 t2 t3 hneg
    have hk : r + 255 = (K : Int) := by omega
    clear hK t3
    go_enter Try.func29, Try.ntmps29
    go_wp2
    go_loop [6, 7] (fun o i => ∃ j : Nat, j ≤ K ∧ i = .int .i64 j ∧ o = Q (ip a (j : Int))) (fun _ i => K - (intOf i).toNat)
    case atStart => exact ⟨0, by omega, rfl, by rw [show ((0 : Nat) : Int) = 0 from rfl, ip_zero]; rfl⟩
    case round =>
      obtain ⟨j, hj, rfl, rfl⟩ := hrel
      by_cases hlt : j < K
      · have H1 := Lib.hid (HS.out j)
        have p1 := ip_lt a (j : Int)
        generalize ip a (j : Int) = p at p1 H1
        go_wp2_with (go_at_call 22; refine (rmul_any p a p1 ha _).mono ?_; rintro e w1 ⟨rfl, rfl⟩)
        go_round
        case rel => exact ⟨j + 1, by omega, by go_num, by rw [H1.out]⟩
        case measure => simp [intOf]; omega
      · obtain rfl : j = K := by omega
        go_wp2
        go_ret
        exact ⟨rfl, rfl⟩
  · have hr : n.tmod 255 = (K : Int) := by omega
    clear hK t3 t1 t2 hneg
    go_enter Try.func29, Try.ntmps29
    go_wp2
    go_loop [6, 7] (fun o i => ∃ j : Nat, j ≤ K ∧ i = .int .i64 j ∧ o = Q (ip a (j : Int))) (fun _ i => K - (intOf i).toNat)
    case atStart => exact ⟨0, by omega, rfl, by rw [show ((0 : Nat) : Int) = 0 from rfl, ip_zero]; rfl⟩
    case round =>
      obtain ⟨j, hj, rfl, rfl⟩ := hrel
      by_cases hlt : j < K
      · have H1 := Lib.hid (HS.out j)
        have p1 := ip_lt a (j : Int)
        generalize ip a (j : Int) = p at p1 H1
        go_wp2_with (go_at_call 22; refine (rmul_any p a p1 ha _).mono ?_; rintro e w1 ⟨rfl, rfl⟩)
        go_round
        case rel => exact ⟨j + 1, by omega, by go_num, by rw [H1.out]⟩
        case measure => simp [intOf]; omega
      · obtain rfl : j = K := by omega
        go_wp2
        go_ret
        exact ⟨rfl, rfl⟩
theorem rpow_two (n : Int) (w : World) :
    Calls Try.prog 29 #[.int .u8 2, .int .i64 n] w fun e w' => e = .returned (Q (ie n)) ∧ w = w' := by
  have := rpow_pos 2 (by omega) (by omega) n w
  rwa [ip_two] at this
set_option maxHeartbeats 400000 in
theorem rpow_zero_none (w : World) :
    Calls Try.prog 29 #[.int .u8 0, .int .i64 0] w fun e w' => e = .returned (.int .u8 1) ∧ w = w' := by
  go_enter Try.func29, Try.ntmps29
  go_wp2
  go_ret
  exact ⟨rfl, rfl⟩
set_option maxHeartbeats 400000 in
theorem rpow_zero_any (n : Int) (hn : n ≠ 0) (w : World) :
    Calls Try.prog 29 #[.int .u8 0, .int .i64 n] w fun e w' => e = .returned (.int .u8 0) ∧ w = w' := by
  have n1 : (n == 0) = false := by rw [beq_eq_false_iff_ne]; exact hn
  clear hn
  go_enter Try.func29, Try.ntmps29
  go_wp2
  go_ret
  exact ⟨rfl, rfl⟩

theorem pw_two (j : Nat) : gm (pw j) 2 = pw (j + 1) := by rw [← pw_one, gm_pw]
set_option maxRecDepth 100000 in
set_option maxHeartbeats 800000 in
theorem rlog_any (a : Nat) (ha : a < 256) (ha0 : a ≠ 0) (w : World) :
    Calls Try.prog 30 #[Q a] w fun e w' => e = .returned (.int .i64 (lg a : Int)) ∧ w = w' := by
  have l1 := lg_lt ha
  have HE := Lib.hid (pw_lg ha ha0)
  clear ha0
  go_enter Try.func30, Try.ntmps30
  go_wp2
  go_loop [3, 4] (fun x i => ∃ j : Nat, j ≤ lg a ∧ i = .int .i64 j ∧ x = Q (pw j)) (fun _ i => 255 - (intOf i).toNat)
  case atStart => exact ⟨0, by omega, rfl, rfl⟩
  case round =>
    obtain ⟨j, hj, rfl, rfl⟩ := hrel
    have p1 := pw_lt j
    by_cases hlt : j < lg a
    · have hne : ((pw j : Int) == (a : Int)) = false := by
        rw [beq_eq_false_iff_ne]
        intro h
        have : pw j = pw (lg a) := by rw [HE.out]; omega
        have := pw_inj (by omega) l1 this
        omega
      have H1 := Lib.hid (pw_two j)
      generalize pw j = p at p1 H1 hne
      go_wp2_with (go_at_call 22; refine (rmul_any p 2 p1 (by omega) _).mono ?_; rintro e w1 ⟨rfl, rfl⟩)
      go_round
      case rel => exact ⟨j + 1, by omega, by go_num, by rw [H1.out]⟩
      case measure => simp [intOf]; omega
    · obtain rfl : j = lg a := by omega
      rw [HE.out]
      go_wp2
      go_ret
      exact ⟨rfl, rfl⟩

set_option maxRecDepth 100000 in
set_option maxHeartbeats 1600000 in
theorem powers_pos (w : World) (a : Nat) (ha : a < 256) (ha0 : a ≠ 0) (n : Int) :
    Calls Try.prog 10 #[Q a, .int .i64 n] w fun e w' => e = .returned (.bool true) ∧ Below w.heap.size w w' := by
  have y := nz ha0
  have HA0 := Lib.hid ha0
  clear ha0
  go_enter Try.func10, Try.ntmps10
  go_wp2_with (first | (go_at_call 14; (refine (pow_any a ha HA0.out _ _).mono ?_); rintro e w1 ⟨rfl, hb1⟩) | (go_at_call 12; (refine (log_pos a ha HA0.out _).mono ?_); rintro e w1 ⟨rfl, hb1⟩) | (go_at_call 15; (with_reducible refine (exp_ie _ _).mono ?_); rintro e w1 ⟨rfl, hb1⟩) | (go_at_call 29; (first | (with_reducible refine (rpow_two _ _).mono ?_) | (with_reducible refine (rpow_pos a ha HA0.out _ _).mono ?_)); rintro e w1 ⟨rfl, rfl⟩) | (go_at_call 30; (refine (rlog_any a ha HA0.out _).mono ?_); rintro e w1 ⟨rfl, rfl⟩) | (go_at_call 11; refine (awake_any _).mono ?_; rintro e w1 ⟨rfl, hb1⟩))
  go_ret
  refine ⟨rfl, ?_⟩
  repeat (first | exact Below.refl _ _ | assumption | (refine thenB ?_ (by assumption)) | refine allocB ?_ _)
set_option maxRecDepth 100000 in
set_option maxHeartbeats 1600000 in
theorem powers_zero_neg (w : World) (n : Int) (hn : n < 0) :
    Calls Try.prog 10 #[Q 0, .int .i64 n] w fun e w' => e = .returned (.bool true) ∧ Below w.heap.size w w' := by
  go_enter Try.func10, Try.ntmps10
  go_wp2_with (first | (go_at_call 14; (refine (pow_zero_neg n hn _).mono ?_); rintro e w1 ⟨rfl, rfl⟩) | (go_at_call 12; (refine (log_zero _).mono ?_); rintro e w1 ⟨rfl, rfl⟩) | (go_at_call 15; (with_reducible refine (exp_ie _ _).mono ?_); rintro e w1 ⟨rfl, hb1⟩) | (go_at_call 29; (with_reducible refine (rpow_two _ _).mono ?_); rintro e w1 ⟨rfl, rfl⟩) | (go_at_call 11; refine (awake_any _).mono ?_; rintro e w1 ⟨rfl, hb1⟩))
  go_ret
  refine ⟨rfl, ?_⟩
  repeat (first | exact Below.refl _ _ | assumption | (refine thenB ?_ (by assumption)) | refine allocB ?_ _)
set_option maxRecDepth 100000 in
set_option maxHeartbeats 1600000 in
theorem powers_zero_none (w : World) :
    Calls Try.prog 10 #[Q 0, .int .i64 0] w fun e w' => e = .returned (.bool true) ∧ Below w.heap.size w w' := by
  go_enter Try.func10, Try.ntmps10
  go_wp2_with (first | (go_at_call 14; (refine (pow_none _ _).mono ?_); rintro e w1 ⟨rfl, rfl⟩) | (go_at_call 12; (refine (log_zero _).mono ?_); rintro e w1 ⟨rfl, rfl⟩) | (go_at_call 15; (with_reducible refine (exp_ie _ _).mono ?_); rintro e w1 ⟨rfl, hb1⟩) | (go_at_call 29; (first | (with_reducible refine (rpow_two _ _).mono ?_) | (with_reducible refine (rpow_zero_none _).mono ?_)); rintro e w1 ⟨rfl, rfl⟩) | (go_at_call 11; refine (awake_any _).mono ?_; rintro e w1 ⟨rfl, hb1⟩))
  go_ret
  refine ⟨rfl, ?_⟩
  repeat (first | exact Below.refl _ _ | assumption | (refine thenB ?_ (by assumption)) | refine allocB ?_ _)
set_option maxRecDepth 100000 in
set_option maxHeartbeats 1600000 in
theorem powers_zero_pos (w : World) (n : Int) (hn : 0 < n) :
    Calls Try.prog 10 #[Q 0, .int .i64 n] w fun e w' => e = .returned (.bool true) ∧ Below w.heap.size w w' := by
  have hn0 : Hid (n ≠ 0) := Lib.hid (by omega)
  go_enter Try.func10, Try.ntmps10
  go_wp2_with (first | (go_at_call 14; (refine (pow_zero_pos n hn _).mono ?_); rintro e w1 ⟨rfl, rfl⟩) | (go_at_call 12; (refine (log_zero _).mono ?_); rintro e w1 ⟨rfl, rfl⟩) | (go_at_call 15; (with_reducible refine (exp_ie _ _).mono ?_); rintro e w1 ⟨rfl, hb1⟩) | (go_at_call 29; (first | (with_reducible refine (rpow_two _ _).mono ?_) | (with_reducible refine (rpow_zero_any n hn0.out _).mono ?_)); rintro e w1 ⟨rfl, rfl⟩) | (go_at_call 11; refine (awake_any _).mono ?_; rintro e w1 ⟨rfl, hb1⟩))
  go_ret
  refine ⟨rfl, ?_⟩
  repeat (first | exact Below.refl _ _ | assumption | (refine thenB ?_ (by assumption)) | refine allocB ?_ _)

theorem powers_all (w : World) (a : Int) (ha : (Lit.int .u8 a).wf = true) (n : Int) (_hn : (Lit.int .i64 n).wf = true) :
    Calls Try.prog 10 #[.int .u8 a, .int .i64 n] w fun e w' => e = .returned (.bool true) ∧ Below w.heap.size w w' := by
  obtain ⟨a, rfl, ka⟩ := byte_is ha
  by_cases h : a = 0
  · subst h
    by_cases h1 : n < 0
    · exact powers_zero_neg w n h1
    · by_cases h2 : n = 0
      · subst h2; exact powers_zero_none w
      · exact powers_zero_pos w n (by omega)
  · exact powers_pos w a ka h n
end Go.Proofs.Ytoipbblgbbocnaa
