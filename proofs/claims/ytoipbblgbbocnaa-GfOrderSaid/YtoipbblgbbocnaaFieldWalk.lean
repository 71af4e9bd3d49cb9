/-
  The walk of GfField: sums and products of bytes are those of a field.
-/
import Derived.Test.YtoipbblgbbocnaaAwake
import Derived.Test.YtoipbblgbbocnaaShape
namespace Go.Proofs.Ytoipbblgbbocnaa
open Go.RowKit
theorem same_below {P : Program} {f : FuncId} {args : Array Value} {w : World} {v : Value} (h : Calls P f args w fun e w' => e = .returned v ∧ w = w') : Calls P f args w fun e w' => e = .returned v ∧ Below w.heap.size w w' :=
  h.mono fun _ _ ⟨he, hw⟩ => ⟨he, by rw [← hw]; exact Below.refl _ _⟩
theorem add2b (a b : Nat) (ha : a < 256) (hb : b < 256) (w : World) :
    Calls Try.prog 24 #[.slice (some ⟨w.heap.size, 0, none⟩) 2 2] (w.alloc (.cells #[Q a, Q b] 5)) fun e w' => e = .returned (Q (a ^^^ b)) ∧ Below (w.alloc (.cells #[Q a, Q b] 5)).heap.size (w.alloc (.cells #[Q a, Q b] 5)) w' := same_below (add2 a b ha hb w)
theorem add3b (a b c : Nat) (ha : a < 256) (hb : b < 256) (hc : c < 256) (w : World) :
    Calls Try.prog 24 #[.slice (some ⟨w.heap.size, 0, none⟩) 3 3] (w.alloc (.cells #[Q a, Q b, Q c] 5)) fun e w' => e = .returned (Q (a ^^^ b ^^^ c)) ∧ Below (w.alloc (.cells #[Q a, Q b, Q c] 5)).heap.size (w.alloc (.cells #[Q a, Q b, Q c] 5)) w' := same_below (add3 a b c ha hb hc w)
theorem add2_0 (a : Nat) (ha : a < 256) (w : World) :
    Calls Try.prog 24 #[.slice (some ⟨w.heap.size, 0, none⟩) 2 2] (w.alloc (.cells #[Q a, .int .u8 0] 5)) fun e w' => e = .returned (Q a) ∧ Below (w.alloc (.cells #[Q a, .int .u8 0] 5)).heap.size (w.alloc (.cells #[Q a, .int .u8 0] 5)) w' := by
  have := add2b a 0 ha (by omega) w
  rwa [Nat.xor_zero] at this
theorem mul2_0 (a : Nat) (ha : a < 256) (w : World) :
    Calls Try.prog 13 #[.slice (some ⟨w.heap.size, 0, none⟩) 2 2] (w.alloc (.cells #[Q a, .int .u8 0] 5)) fun e w' => e = .returned (.int .u8 0) ∧ Below (w.alloc (.cells #[Q a, .int .u8 0] 5)).heap.size (w.alloc (.cells #[Q a, .int .u8 0] 5)) w' := by
  have := mul2 a 0 ha (by omega) w
  rwa [gm_zero] at this
theorem mul2_1 (a : Nat) (ha : a < 256) (w : World) :
    Calls Try.prog 13 #[.slice (some ⟨w.heap.size, 0, none⟩) 2 2] (w.alloc (.cells #[Q a, .int .u8 1] 5)) fun e w' => e = .returned (Q a) ∧ Below (w.alloc (.cells #[Q a, .int .u8 1] 5)).heap.size (w.alloc (.cells #[Q a, .int .u8 1] 5)) w' := by
  have := mul2 a 1 ha (by omega) w
  rwa [gm_one ha] at this
theorem add2_self (a : Nat) (ha : a < 256) (w : World) :
    Calls Try.prog 24 #[.slice (some ⟨w.heap.size, 0, none⟩) 2 2] (w.alloc (.cells #[Q a, Q a] 5)) fun e w' => e = .returned (.int .u8 0) ∧ Below (w.alloc (.cells #[Q a, Q a] 5)).heap.size (w.alloc (.cells #[Q a, Q a] 5)) w' := by
  have := add2b a a ha ha w
  rwa [Nat.xor_self] at this

theorem inv_z (a : Nat) (h : a = 0) (w : World) :
    Calls Try.prog 21 #[Q a] w fun e w' => e = .returned (.tuple #[Q 0, .int .i64 16]) ∧ Below w.heap.size w w' := by subst h; exact inv_zero w
theorem div_z (b a : Nat) (h : a = 0) (w : World) :
    Calls Try.prog 25 #[Q b, Q a] w fun e w' => e = .returned (.tuple #[Q 0, .int .i64 16]) ∧ Below w.heap.size w w' := by subst h; exact div_by_zero _ w

set_option maxRecDepth 100000 in
set_option maxHeartbeats 3200000 in
theorem field_zero (w : World) (a b c : Nat) (ha : a < 256) (hb : b < 256) (hc : c < 256) (h0 : a = 0) :
    Calls Try.prog 7 #[Q a, Q b, Q c] w fun e w' => e = .returned (.bool true) ∧ Below w.heap.size w w' := by
  have x1 := xor_lt ha hb
  have x2 := xor_lt hb hc
  have g1 := gm_lt a b
  have g2 := gm_lt a c
  have d1 := gd_lt 1 a
  have d2 := gd_lt b a
  have r1 := Nat.xor_comm b a
  have r2 := gm_comm b a
  have r3 := gm_xor a ha hb hc
  have y := z_is h0
  have H0 := Lib.hid h0
  clear h0
  go_enter Try.func7, Try.ntmps7
  go_wp2_with (first | (go_at_call 24; (first | (with_reducible refine (add2_0 a ha _).mono ?_) | (with_reducible refine (add2_self a ha _).mono ?_) | (with_reducible refine (add2b a b ha hb _).mono ?_) | (with_reducible refine (add2b b a hb ha _).mono ?_) | (with_reducible refine (add2b b c hb hc _).mono ?_) | (with_reducible refine (add2b _ c x1 hc _).mono ?_) | (with_reducible refine (add2b _ _ g1 g2 _).mono ?_) | (with_reducible refine (add3b a b c ha hb hc _).mono ?_)); rintro e w1 ⟨rfl, hb1⟩) | (go_at_call 13; (first | (with_reducible refine (mul2_0 a ha _).mono ?_) | (with_reducible refine (mul2_1 a ha _).mono ?_) | (with_reducible refine (mul2 a b ha hb _).mono ?_) | (with_reducible refine (mul2 b a hb ha _).mono ?_) | (with_reducible refine (mul2 a c ha hc _).mono ?_) | (with_reducible refine (mul2 _ c g1 hc _).mono ?_) | (with_reducible refine (mul2 a _ ha x2 _).mono ?_) | (with_reducible refine (mul2 a _ ha d1 _).mono ?_) | (with_reducible refine (mul2 _ a d2 ha _).mono ?_) | (with_reducible refine (mul3 a b c ha hb hc _).mono ?_)); rintro e w1 ⟨rfl, hb1⟩) | (go_at_call 21; (refine (inv_z a H0.out _).mono ?_); rintro e w1 ⟨rfl, hb1⟩) | (go_at_call 25; (refine (div_z b a H0.out _).mono ?_); rintro e w1 ⟨rfl, hb1⟩) | (go_at_call 11; refine (awake_any _).mono ?_; rintro e w1 ⟨rfl, hb1⟩))
  go_ret
  refine ⟨rfl, ?_⟩
  repeat (first | exact Below.refl _ _ | assumption | (refine thenB ?_ (by assumption)) | refine allocB ?_ _)

set_option maxRecDepth 100000 in
set_option maxHeartbeats 3200000 in
theorem field_pos (w : World) (a b c : Nat) (ha : a < 256) (hb : b < 256) (hc : c < 256) (ha0 : a ≠ 0) :
    Calls Try.prog 7 #[Q a, Q b, Q c] w fun e w' => e = .returned (.bool true) ∧ Below w.heap.size w w' := by
  have x1 := xor_lt ha hb
  have x2 := xor_lt hb hc
  have g1 := gm_lt a b
  have g2 := gm_lt a c
  have d1 := gd_lt 1 a
  have d2 := gd_lt b a
  have r1 := Nat.xor_comm b a
  have r2 := gm_comm b a
  have r3 := gm_xor a ha hb hc
  have y := nz ha0
  have r4 := gd_one ha ha0
  have r5 := gd_gm hb ha ha0
  have r6 : ((gm a b : Int) == 0) = ((b : Int) == 0) := by
    by_cases h : b = 0
    · subst h; rw [gm_zero]
    · rw [nz h, nz (gm_ne ha0 h)]
  have HA0 := Lib.hid ha0
  clear ha0
  go_enter Try.func7, Try.ntmps7
  go_wp2_with (first | (go_at_call 24; (first | (with_reducible refine (add2_0 a ha _).mono ?_) | (with_reducible refine (add2_self a ha _).mono ?_) | (with_reducible refine (add2b a b ha hb _).mono ?_) | (with_reducible refine (add2b b a hb ha _).mono ?_) | (with_reducible refine (add2b b c hb hc _).mono ?_) | (with_reducible refine (add2b _ c x1 hc _).mono ?_) | (with_reducible refine (add2b _ _ g1 g2 _).mono ?_) | (with_reducible refine (add3b a b c ha hb hc _).mono ?_)); rintro e w1 ⟨rfl, hb1⟩) | (go_at_call 13; (first | (with_reducible refine (mul2_0 a ha _).mono ?_) | (with_reducible refine (mul2_1 a ha _).mono ?_) | (with_reducible refine (mul2 a b ha hb _).mono ?_) | (with_reducible refine (mul2 b a hb ha _).mono ?_) | (with_reducible refine (mul2 a c ha hc _).mono ?_) | (with_reducible refine (mul2 _ c g1 hc _).mono ?_) | (with_reducible refine (mul2 a _ ha x2 _).mono ?_) | (with_reducible refine (mul2 a _ ha d1 _).mono ?_) | (with_reducible refine (mul2 _ a d2 ha _).mono ?_) | (with_reducible refine (mul3 a b c ha hb hc _).mono ?_)); rintro e w1 ⟨rfl, hb1⟩) | (go_at_call 21; (refine (inv_any a ha HA0.out _).mono ?_); rintro e w1 ⟨rfl, hb1⟩) | (go_at_call 25; (refine (div_any b a hb ha HA0.out _).mono ?_); rintro e w1 ⟨rfl, hb1⟩) | (go_at_call 11; refine (awake_any _).mono ?_; rintro e w1 ⟨rfl, hb1⟩))
  go_ret
  refine ⟨rfl, ?_⟩
  repeat (first | exact Below.refl _ _ | assumption | (refine thenB ?_ (by assumption)) | refine allocB ?_ _)

theorem field_all (w : World) (a : Int) (ha : (Lit.int .u8 a).wf = true) (b : Int) (hb : (Lit.int .u8 b).wf = true) (c : Int) (hc : (Lit.int .u8 c).wf = true) :
    Calls Try.prog 7 #[.int .u8 a, .int .u8 b, .int .u8 c] w fun e w' => e = .returned (.bool true) ∧ Below w.heap.size w w' := by
  obtain ⟨a, rfl, ka⟩ := byte_is ha
  obtain ⟨b, rfl, kb⟩ := byte_is hb
  obtain ⟨c, rfl, kc⟩ := byte_is hc
  by_cases h : a = 0
  · exact field_zero w a b c ka kb kc h
  · exact field_pos w a b c ka kb kc h
end Go.Proofs.Ytoipbblgbbocnaa
