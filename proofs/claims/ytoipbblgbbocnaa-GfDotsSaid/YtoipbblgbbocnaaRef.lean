/-
  The walks of the document's Bit, Xor and Mul: bit by bit, the product is the product by logarithms.
-/
import Derived.Test.YtoipbblgbbocnaaMany
namespace Go.Proofs.Ytoipbblgbbocnaa
open Go.RowKit
theorem quo_is (a v : Nat) : (a : Int) / (v : Int) = ((a / v : Nat) : Int) := rfl
theorem bit_val (a k q : Nat) (hq : q = a / 2 ^ k) : ((q : Int) % 2 == 1) = a.testBit k := by
  rw [Nat.testBit_eq_decide_div_mod_eq, ← hq, Bool.eq_iff_iff, beq_iff_eq, decide_eq_true_iff]
  omega
set_option maxHeartbeats 400000 in
theorem bit_any (a v k : Nat) (hv : v = 2 ^ k) (ha : a < 4294967296) (hv2 : v < 4294967296) (w : World) :
    Calls Try.prog 31 #[.int .i64 (a : Int), .int .i64 (v : Int)] w fun e w' => e = .returned (.bool (a.testBit k)) ∧ w = w' := by
  have hv1 : 1 ≤ v := by rw [hv]; exact Nat.pow_pos (by omega)
  have hd := quo_is a v
  have hle : a / v ≤ a := Nat.div_le_self ..
  rw [← bit_val a k (a / v) (by rw [hv])]
  generalize a / v = q at hd hle
  clear hv
  go_enter Try.func31, Try.ntmps31
  go_wp2
  go_ret
  exact ⟨rfl, rfl⟩

def big : Nat := 65537
theorem big_eq : big = 65537 := rfl
theorem xor_step (n k : Nat) (h : n.testBit k = true) : ((n % 2 ^ k : Nat) : Int) + ((2 ^ k : Nat) : Int) = ((n % 2 ^ (k + 1) : Nat) : Int) := by
  rw [mod_succ_bit, if_pos h]
  have h1 : n % 2 ^ k < 2 ^ k := Nat.mod_lt _ (Nat.pow_pos (by omega))
  rw [← Int.natCast_add]
  congr 1
  have := Nat.two_pow_add_eq_or_of_lt h1 1
  rw [Nat.mul_one] at this
  rw [Nat.add_comm, this]
  apply Nat.eq_of_testBit_eq
  intro i
  rw [Nat.testBit_or, Nat.testBit_xor, Nat.testBit_two_pow]
  by_cases e : k = i
  · subst e
    rw [Nat.testBit_lt_two_pow h1]; simp
  · simp [e]
theorem xor_step' (n k v : Nat) (hv : v = 2 ^ k) (h : n.testBit k = true) : ((n % 2 ^ k : Nat) : Int) + (v : Int) = ((n % 2 ^ (k + 1) : Nat) : Int) := by
  rw [hv]; exact xor_step n k h
theorem xor_stay (n k : Nat) (h : n.testBit k = false) : ((n % 2 ^ k : Nat) : Int) = ((n % 2 ^ (k + 1) : Nat) : Int) := by
  rw [mod_succ_bit, h]; rfl
set_option maxRecDepth 100000 in
set_option maxHeartbeats 800000 in
theorem xor_any (a b : Nat) (ha : a < 65536) (hb : b < 65536) (w : World) :
    Calls Try.prog 32 #[.int .i64 (a : Int), .int .i64 (b : Int)] w fun e w' => e = .returned (.int .i64 ((a ^^^ b : Nat) : Int)) ∧ w = w' := by
  obtain ⟨x, hx⟩ : ∃ x, x = a ^^^ b := ⟨_, rfl⟩
  have hx2 : x < 65536 := by rw [hx]; exact Nat.xor_lt_two_pow (n := 16) ha hb
  rw [← hx]
  have HX := Lib.hid hx
  clear hx
  go_enter Try.func32, Try.ntmps32
  go_wp2
  go_loop [5, 6] (fun n u => ∃ k v : Nat, k ≤ 16 ∧ v = 2 ^ k ∧ u = .int .i64 (v : Int) ∧ n = .int .i64 ((x % 2 ^ k : Nat) : Int)) (fun _ u => big - (intOf u).toNat)
  case atStart => exact ⟨0, 1, by omega, rfl, rfl, by rw [Nat.pow_zero, Nat.mod_one]; rfl⟩
  case round =>
    obtain ⟨k, v, hk, hv, rfl, rfl⟩ := hrel
    by_cases hlt : k < 16
    · have hv1 : 1 ≤ v := by rw [hv]; exact Nat.pow_pos (by omega)
      have hv2 : v ≤ 32768 := by rw [hv]; exact Nat.pow_le_pow_right (by omega) (by omega : k ≤ 15)
      have hm : x % 2 ^ k ≤ x := Nat.mod_le _ _
      have hd : decide ((v : Int) < 65536) = true := decide_eq_true (by omega)
      have hbit : x.testBit k = (a.testBit k != b.testBit k) := by rw [HX.out, Nat.testBit_xor]
      have HV := Lib.hid hv
      have HV2 : Hid (v * 2 = 2 ^ (k + 1)) := by rw [hv, Nat.pow_succ]; exact Lib.hid rfl
      cases hA : a.testBit k <;> cases hB : b.testBit k <;> rw [hA, hB] at hbit
      · have HS := Lib.hid (xor_stay x k hbit)
        clear hv hbit
        generalize x % 2 ^ k = n at hm HS
        go_wp2_with (go_at_call 31; refine (bit_any _ _ k HV.out (by omega) (by omega) _).mono ?_; rintro e w1 ⟨rfl, rfl⟩)
        go_round
        case rel => exact ⟨k + 1, v * 2, by omega, HV2.out, by rw [Int.mul_comm]; go_num, by rw [HS.out]⟩
        case measure => simp only [intOf]; have := big_eq; omega
      · have HS := Lib.hid (xor_step' x k v hv hbit)
        clear hbit hv
        generalize x % 2 ^ k = n at hm HS
        go_wp2_with (go_at_call 31; refine (bit_any _ _ k HV.out (by omega) (by omega) _).mono ?_; rintro e w1 ⟨rfl, rfl⟩)
        go_round
        case rel => exact ⟨k + 1, v * 2, by omega, HV2.out, by rw [Int.mul_comm]; go_num, by rw [HS.out]⟩
        case measure => simp only [intOf]; have := big_eq; omega
      · have HS := Lib.hid (xor_step' x k v hv hbit)
        clear hbit hv
        generalize x % 2 ^ k = n at hm HS
        go_wp2_with (go_at_call 31; refine (bit_any _ _ k HV.out (by omega) (by omega) _).mono ?_; rintro e w1 ⟨rfl, rfl⟩)
        go_round
        case rel => exact ⟨k + 1, v * 2, by omega, HV2.out, by rw [Int.mul_comm]; go_num, by rw [HS.out]⟩
        case measure => simp only [intOf]; have := big_eq; omega
      · have HS := Lib.hid (xor_stay x k hbit)
        clear hv hbit
        generalize x % 2 ^ k = n at hm HS
        go_wp2_with (go_at_call 31; refine (bit_any _ _ k HV.out (by omega) (by omega) _).mono ?_; rintro e w1 ⟨rfl, rfl⟩)
        go_round
        case rel => exact ⟨k + 1, v * 2, by omega, HV2.out, by rw [Int.mul_comm]; go_num, by rw [HS.out]⟩
        case measure => simp only [intOf]; have := big_eq; omega
    · obtain rfl : k = 16 := by omega
      have hv3 : v = 65536 := hv
      have hm : x % 2 ^ 16 = x := Nat.mod_eq_of_lt hx2
      rw [hm]
      clear hv hm
      subst hv3
      go_wp2
      go_ret
      exact ⟨rfl, rfl⟩

theorem p1_succ (a b k : Nat) : p1 a b (k + 1) = if b.testBit k then p1 a b k ^^^ (a * 2 ^ k) else p1 a b k := rfl
theorem p2_succ (n k : Nat) : p2 n (k + 1) = if (p2 n k).testBit (15 - k) then p2 n k ^^^ (285 * 2 ^ (7 - k)) else p2 n k := rfl
set_option maxRecDepth 100000 in
set_option maxHeartbeats 1600000 in
theorem rmul_any (a b : Nat) (ha : a < 256) (hb : b < 256) (w : World) :
    Calls Try.prog 22 #[Q a, Q b] w fun e w' => e = .returned (Q (gm a b)) ∧ w = w' := by
  have HR := Lib.hid (rmul_gm ha hb)
  go_enter Try.func22, Try.ntmps22
  go_wp2
  go_loop [5, 6] (fun n u => ∃ k v : Nat, k ≤ 8 ∧ v = 2 ^ k ∧ u = .int .i64 (v : Int) ∧ n = .int .i64 ((p1 a b k : Nat) : Int)) (fun _ u => 257 - (intOf u).toNat)
  case atStart => exact ⟨0, 1, by omega, rfl, rfl, rfl⟩
  case round =>
    obtain ⟨k, v, hk, hv, rfl, rfl⟩ := hrel
    by_cases hlt : k < 8
    · have hv1 : 1 ≤ v := by rw [hv]; exact Nat.pow_pos (by omega)
      have hv2 : v ≤ 128 := by rw [hv]; exact Nat.pow_le_pow_right (by omega) (by omega : k ≤ 7)
      have hn := p1_lt a b ha k hk
      have HV := Lib.hid hv
      have HV2 : Hid (v * 2 = 2 ^ (k + 1)) := by rw [hv, Nat.pow_succ]; exact Lib.hid rfl
      have hp := p1_succ a b k
      rw [← hv] at hp
      clear hv
      cases hB : b.testBit k
      · rw [hB] at hp
        have HP := Lib.hid hp
        clear hp
        generalize p1 a b k = n at hn HP
        go_wp2_with (first | (go_at_call 31; refine (bit_any _ _ k HV.out (by omega) (by omega) _).mono ?_; rintro e w1 ⟨rfl, rfl⟩))
        go_round
        case rel => exact ⟨k + 1, v * 2, by omega, HV2.out, by rw [Int.mul_comm]; go_num, by rw [HP.out]; rfl⟩
        case measure => simp [intOf]; omega
      · rw [hB] at hp
        have HP := Lib.hid hp
        clear hp
        have hm : a * v < 65536 := Nat.lt_of_le_of_lt (Nat.mul_le_mul (by omega : a ≤ 255) hv2) (by omega)
        have hmi : (a : Int) * (v : Int) = ((a * v : Nat) : Int) := rfl
        generalize a * v = m at hm hmi HP
        generalize p1 a b k = n at hn HP
        go_wp2_with (first | (go_at_call 31; refine (bit_any _ _ k HV.out (by omega) (by omega) _).mono ?_; rintro e w1 ⟨rfl, rfl⟩) | (go_at_call 32; refine (xor_any _ _ hn hm _).mono ?_; rintro e w1 ⟨rfl, rfl⟩))
        go_round
        case rel => exact ⟨k + 1, v * 2, by omega, HV2.out, by rw [Int.mul_comm]; go_num, by rw [HP.out]; rfl⟩
        case measure => simp [intOf]; omega
    · obtain rfl : k = 8 := by omega
      have hv3 : v = 256 := hv
      clear hv
      subst hv3
      go_wp2
      have h8 := p1_lt a b ha 8 (by omega)
      unfold rmul at HR
      generalize p1 a b 8 = n0 at h8 HR
      go_loop [5, 7] (fun n u => ∃ j v : Nat, j ≤ 8 ∧ v = 2 ^ (15 - j) ∧ u = .int .i64 (v : Int) ∧ n = .int .i64 ((p2 n0 j : Nat) : Int)) (fun _ u => (intOf u).toNat)
      case atStart => exact ⟨0, 32768, by omega, rfl, rfl, rfl⟩
      case round =>
        obtain ⟨j, v, hj, hv, rfl, rfl⟩ := hrel
        by_cases hlt2 : j < 8
        · have hv1 : 256 ≤ v := by rw [hv]; exact (Nat.pow_le_pow_right (by decide) (by omega : 8 ≤ 15 - j) : 2 ^ 8 ≤ 2 ^ (15 - j))
          have hv2 : v ≤ 32768 := by rw [hv]; exact Nat.pow_le_pow_right (by omega) (by omega : 15 - j ≤ 15)
          have hn := p2_lt n0 h8 j hj
          have e1 : 2 ^ (15 - j) = 2 ^ (7 - j) * 256 := by rw [show 15 - j = (7 - j) + 8 by omega, Nat.pow_add]
          have e2 : 2 ^ (15 - j) = 2 ^ (15 - (j + 1)) * 2 := by rw [show 15 - j = (15 - (j + 1)) + 1 by omega, Nat.pow_succ]
          have HV := Lib.hid hv
          have HV2 : Hid (v / 2 = 2 ^ (15 - (j + 1))) := by rw [hv, e2]; exact Lib.hid (Nat.mul_div_cancel _ (by omega))
          have h256 : 2 ^ (7 - j) = v / 256 := by rw [hv, e1]; exact (Nat.mul_div_cancel _ (by omega)).symm
          have hp := p2_succ n0 j
          rw [h256] at hp
          clear hv e1 e2 h256
          cases hB : (p2 n0 j).testBit (15 - j)
          · rw [hB] at hp
            have HP := Lib.hid hp
            clear hp
            generalize p2 n0 j = n at hn HP hB
            go_wp2_with (first | (go_at_call 31; refine (bit_any _ _ (15 - j) HV.out (by omega) (by omega) _).mono ?_; rintro e w1 ⟨rfl, rfl⟩))
            go_round
            case rel => exact ⟨j + 1, v / 2, by omega, HV2.out, by go_num, by rw [HP.out]; rfl⟩
            case measure => simp [intOf]; omega
          · rw [hB] at hp
            have HP := Lib.hid hp
            clear hp
            have hm : 285 * (v / 256) < 65536 := by omega
            have hmi : (285 : Int) * ((v : Int) / 256) = ((285 * (v / 256) : Nat) : Int) := by omega
            generalize 285 * (v / 256) = m at hm hmi HP
            generalize p2 n0 j = n at hn HP hB
            go_wp2_with (first | (go_at_call 31; refine (bit_any _ _ (15 - j) HV.out (by omega) (by omega) _).mono ?_; rintro e w1 ⟨rfl, rfl⟩) | (go_at_call 32; refine (xor_any _ _ hn hm _).mono ?_; rintro e w1 ⟨rfl, rfl⟩))
            go_round
            case rel => exact ⟨j + 1, v / 2, by omega, HV2.out, by go_num, by rw [HP.out]; rfl⟩
            case measure => simp [intOf]; omega
        · obtain rfl : j = 8 := by omega
          have hv3 : v = 128 := hv
          clear hv
          subst hv3
          rw [HR.out]
          have hg := gm_lt a b
          clear HR
          go_wp2
          go_ret
          exact ⟨rfl, rfl⟩
end Go.Proofs.Ytoipbblgbbocnaa
