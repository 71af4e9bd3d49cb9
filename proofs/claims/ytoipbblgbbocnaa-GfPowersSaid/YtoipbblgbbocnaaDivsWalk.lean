/-
  The document's Inv, and the walk of GfDivs: what the inverse of a byte is, and how often one is in another one, or that there is none.
-/
import Derived.Test.YtoipbblgbbocnaaAwake
import Derived.Test.YtoipbblgbbocnaaRef
import Derived.Test.YtoipbblgbbocnaaShape
namespace Go.Proofs.Ytoipbblgbbocnaa
open Go.RowKit
theorem ip_one {a : Nat} (ha : a < 256) (h0 : a ≠ 0) : ip a 1 = a := by
  have := lg_lt ha
  unfold ip
  rw [show (1 * (lg a : Int) % 255).toNat = lg a by omega, pw_lg ha h0]
theorem ip_254 {a : Nat} (ha : a < 256) : ip a 254 = gd 1 a := by
  have := lg_lt ha
  rw [← inv_pw, ← pw_mod (255 - lg a)]
  unfold ip
  congr 1
  omega
theorem gm_inv {a b : Nat} (ha : a < 256) : gm b (gd 1 a) = gd b a := by
  have := lg_lt ha
  rw [← inv_pw]
  unfold gd
  by_cases h : b = 0
  · rw [if_pos h, h, zero_gm]
  · rw [if_neg h, gm_pos h (pw_ne _), lg_pw, pw_add_lg']
    congr 1
    omega
/-- The exponent of what is gathered behind k rounds. -/
def gath : Nat → Int
  | 0 => 0
  | k + 1 => gath k + 2 ^ (k + 1)
theorem gath_7 : gath 7 = 254 := by decide
set_option maxRecDepth 100000 in
set_option maxHeartbeats 800000 in
theorem rinv_any (a : Nat) (ha : a < 256) (ha0 : a ≠ 0) (w : World) :
    Calls Try.prog 26 #[Q a] w fun e w' => e = .returned (Q (gd 1 a)) ∧ w = w' := by
  have H1 := Lib.hid (ip_one ha ha0)
  rw [← ip_254 ha]
  clear ha0
  go_enter Try.func26, Try.ntmps26
  go_wp2
  go_loop [3, 4, 5] (fun o p i => ∃ k : Nat, k ≤ 7 ∧ i = .int .i64 k ∧ p = Q (ip a (2 ^ k)) ∧ o = Q (ip a (gath k))) (fun _ _ i => 7 - (intOf i).toNat)
  case atStart => exact ⟨0, by omega, rfl, by rw [Int.pow_zero, H1.out], by rw [gath, ip_zero]; rfl⟩
  case round =>
    obtain ⟨k, hk, rfl, rfl, rfl⟩ := hrel
    by_cases hlt : k < 7
    · have HP : Hid (gm (ip a (2 ^ k)) (ip a (2 ^ k)) = ip a (2 ^ (k + 1))) := by
        rw [ip_add, Int.pow_succ, Int.mul_comm, Int.two_mul]; exact Lib.hid rfl
      have HO : Hid (gm (ip a (gath k)) (ip a (2 ^ (k + 1))) = ip a (gath (k + 1))) := by
        rw [ip_add]; exact Lib.hid rfl
      have p1 := ip_lt a (2 ^ k)
      have p2 := ip_lt a (2 ^ (k + 1))
      have o1 := ip_lt a (gath k)
      generalize ip a (2 ^ k) = p at HP p1
      generalize ip a (gath k) = o at HO o1
      have e1 := HP.out
      go_wp2_with (go_at_call 22; (first | (with_reducible refine (rmul_any p p p1 p1 _).mono ?_) | (with_reducible refine (rmul_any o _ o1 p2 _).mono ?_)); rintro e w1 ⟨rfl, rfl⟩)
      go_round
      case rel => exact ⟨k + 1, by omega, by go_num, rfl, by rw [HO.out]⟩
      case measure => simp [intOf]; omega
    · obtain rfl : k = 7 := by omega
      rw [gath_7]
      go_wp2
      go_ret
      exact ⟨rfl, rfl⟩

set_option maxRecDepth 100000 in
set_option maxHeartbeats 1600000 in
theorem divs_zero (w : World) (b : Nat) :
    Calls Try.prog 6 #[Q 0, Q b] w fun e w' => e = .returned (.bool true) ∧ Below w.heap.size w w' := by
  go_enter Try.func6, Try.ntmps6
  go_wp2_with (first | (go_at_call 21; (refine (inv_zero _).mono ?_); rintro e w1 ⟨rfl, hb1⟩) | (go_at_call 25; (refine (div_by_zero _ _).mono ?_); rintro e w1 ⟨rfl, hb1⟩) | (go_at_call 11; refine (awake_any _).mono ?_; rintro e w1 ⟨rfl, hb1⟩))
  go_ret
  refine ⟨rfl, ?_⟩
  repeat (first | exact Below.refl _ _ | assumption | (refine thenB ?_ (by assumption)) | refine allocB ?_ _)
set_option maxRecDepth 100000 in
set_option maxHeartbeats 1600000 in
theorem divs_pos (w : World) (a b : Nat) (ha : a < 256) (hb : b < 256) (ha0 : a ≠ 0) :
    Calls Try.prog 6 #[Q a, Q b] w fun e w' => e = .returned (.bool true) ∧ Below w.heap.size w w' := by
  have y := nz ha0
  have g1 := gd_lt 1 a
  have e1 := gm_inv (b := b) ha
  have HA0 := Lib.hid ha0
  clear ha0
  go_enter Try.func6, Try.ntmps6
  go_wp2_with (first | (go_at_call 21; (refine (inv_any a ha HA0.out _).mono ?_); rintro e w1 ⟨rfl, hb1⟩) | (go_at_call 25; (refine (div_any b a hb ha HA0.out _).mono ?_); rintro e w1 ⟨rfl, hb1⟩) | (go_at_call 26; (refine (rinv_any a ha HA0.out _).mono ?_); rintro e w1 ⟨rfl, rfl⟩) | (go_at_call 22; (refine (rmul_any b _ hb g1 _).mono ?_); rintro e w1 ⟨rfl, rfl⟩) | (go_at_call 11; refine (awake_any _).mono ?_; rintro e w1 ⟨rfl, hb1⟩))
  go_ret
  refine ⟨rfl, ?_⟩
  repeat (first | exact Below.refl _ _ | assumption | (refine thenB ?_ (by assumption)) | refine allocB ?_ _)
theorem divs_all (w : World) (a : Int) (ha : (Lit.int .u8 a).wf = true) (b : Int) (hb : (Lit.int .u8 b).wf = true) :
    Calls Try.prog 6 #[.int .u8 a, .int .u8 b] w fun e w' => e = .returned (.bool true) ∧ Below w.heap.size w w' := by
  obtain ⟨a, rfl, ka⟩ := byte_is ha
  obtain ⟨b, rfl, kb⟩ := byte_is hb
  by_cases h : a = 0
  · subst h; exact divs_zero w b
  · exact divs_pos w a b ka kb h
end Go.Proofs.Ytoipbblgbbocnaa
