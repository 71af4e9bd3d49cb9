/-
  The walk of GfAsks: what a Field answers is what the functions answer, and a nil one answers 0.
-/
import Derived.Test.YtoipbblgbbocnaaPower
import Derived.Test.YtoipbblgbbocnaaRef
namespace Go.Proofs.Ytoipbblgbbocnaa
open Go.RowKit
theorem IsF.alloc {W : World} {g : Nat} (h : IsF W g 255) (o : Obj) : IsF (W.alloc o) g 255 := h.later ((Below.refl _ _).alloc (Nat.le_refl _) o)
theorem fmul_b (g a b : Nat) (ha : a < 256) (hb : b < 256) (w : World) (hF : IsF w g 255) :
    Calls Try.prog 17 #[.pointer (some ⟨g, 0, none⟩), Q a, Q b] w fun e w' => e = .returned (Q (gm a b)) ∧ Below w.heap.size w w' ∧ IsF w' g 255 :=
  (fmul_any g a b ha hb w hF).mono fun _ _ ⟨he, n, hw⟩ => ⟨he, by rw [hw]; exact below_drewN (Below.refl _ _) n, by rw [hw]; exact hF⟩
theorem finv_b (g a : Nat) (ha : a < 256) (ha0 : a ≠ 0) (w : World) (hF : IsF w g 255) :
    Calls Try.prog 18 #[.pointer (some ⟨g, 0, none⟩), Q a] w fun e w' => e = .returned (Q (gd 1 a)) ∧ Below w.heap.size w w' ∧ IsF w' g 255 :=
  (finv_pos g a ha ha0 w hF).mono fun _ _ ⟨he, n, hw⟩ => ⟨he, by rw [hw]; exact below_drewN (Below.refl _ _) n, by rw [hw]; exact hF⟩
theorem fexp_ie (g : Nat) (i : Int) (w : World) (hF : IsF w g 255) :
    Calls Try.prog 19 #[.pointer (some ⟨g, 0, none⟩), .int .i64 i] w fun e w' => e = .returned (Q (ie i)) ∧ w = w' := fexp_any g i w hF

set_option maxRecDepth 100000 in
set_option maxHeartbeats 1600000 in
theorem asks_zero (w : World) (b : Nat) (hb : b < 256) (n : Int) :
    Calls Try.prog 4 #[Q 0, Q b, .int .i64 n] w fun e w' => e = .returned (.bool true) ∧ Below w.heap.size w w' := by
  have e1 := zero_gm b
  go_enter Try.func4, Try.ntmps4
  go_wp2_with (first | (go_at_call 16; (with_reducible refine (new_any _).mono ?_); rintro e w1 ⟨rfl, hF, hb1⟩; have HF := Lib.hid hF; clear hF) | (go_at_call 17; (first | (with_reducible refine (fmul_nil _ _ _).mono ?_; rintro e w1 ⟨rfl, rfl⟩) | (refine (fmul_b _ 0 b (by omega) hb _ HF.out).mono ?_; rintro e w1 ⟨rfl, hb1, hF⟩; have HF := Lib.hid hF; clear hF))) | (go_at_call 18; (first | (with_reducible refine (finv_nil _ _).mono ?_; rintro e w1 ⟨rfl, rfl⟩) | (refine (finv_zero _ _).mono ?_; rintro e w1 ⟨rfl, rfl⟩))) | (go_at_call 19; (first | (with_reducible refine (fexp_nil _ _).mono ?_; rintro e w1 ⟨rfl, rfl⟩) | (refine (fexp_ie _ _ _ HF.out).mono ?_; rintro e w1 ⟨rfl, rfl⟩))) | (go_at_call 20; (first | (with_reducible refine (flog_nil _ _).mono ?_; rintro e w1 ⟨rfl, rfl⟩) | (refine (flog_zero _ _).mono ?_; rintro e w1 ⟨rfl, rfl⟩))) | (go_at_call 13; (refine (mul2 0 b (by omega) hb _).mono ?_); rintro e w1 ⟨rfl, hb1⟩; have HF := Lib.hid ((HF.out.alloc _).later hb1)) | (go_at_call 15; (with_reducible refine (exp_ie _ _).mono ?_); rintro e w1 ⟨rfl, hb1⟩; have HF := Lib.hid (HF.out.later hb1)) | (go_at_call 21; (refine (inv_zero _).mono ?_); rintro e w1 ⟨rfl, hb1⟩; have HF := Lib.hid (HF.out.later hb1)) | (go_at_call 12; (refine (log_zero _).mono ?_); rintro e w1 ⟨rfl, rfl⟩) | (go_at_call 11; refine (awake_any _).mono ?_; rintro e w1 ⟨rfl, hb1⟩))
  go_ret
  refine ⟨rfl, ?_⟩
  repeat (first | exact Below.refl _ _ | assumption | (refine thenB ?_ (by assumption)) | refine allocB ?_ _)

set_option maxRecDepth 100000 in
set_option maxHeartbeats 1600000 in
theorem asks_pos (w : World) (a b : Nat) (ha : a < 256) (hb : b < 256) (ha0 : a ≠ 0) (n : Int) :
    Calls Try.prog 4 #[Q a, Q b, .int .i64 n] w fun e w' => e = .returned (.bool true) ∧ Below w.heap.size w w' := by
  have z := nz ha0
  have HA0 := Lib.hid ha0
  clear ha0
  go_enter Try.func4, Try.ntmps4
  go_wp2_with (first | (go_at_call 16; (with_reducible refine (new_any _).mono ?_); rintro e w1 ⟨rfl, hF, hb1⟩; have HF := Lib.hid hF; clear hF) | (go_at_call 17; (first | (with_reducible refine (fmul_nil _ _ _).mono ?_; rintro e w1 ⟨rfl, rfl⟩) | (refine (fmul_b _ a b ha hb _ HF.out).mono ?_; rintro e w1 ⟨rfl, hb1, hF⟩; have HF := Lib.hid hF; clear hF))) | (go_at_call 18; (first | (with_reducible refine (finv_nil _ _).mono ?_; rintro e w1 ⟨rfl, rfl⟩) | (refine (finv_b _ a ha HA0.out _ HF.out).mono ?_; rintro e w1 ⟨rfl, hb1, hF⟩; have HF := Lib.hid hF; clear hF))) | (go_at_call 19; (first | (with_reducible refine (fexp_nil _ _).mono ?_; rintro e w1 ⟨rfl, rfl⟩) | (refine (fexp_ie _ _ _ HF.out).mono ?_; rintro e w1 ⟨rfl, rfl⟩))) | (go_at_call 20; (first | (with_reducible refine (flog_nil _ _).mono ?_; rintro e w1 ⟨rfl, rfl⟩) | (refine (flog_pos _ a ha HA0.out _ HF.out).mono ?_; rintro e w1 ⟨rfl, rfl⟩))) | (go_at_call 13; (refine (mul2 a b ha hb _).mono ?_); rintro e w1 ⟨rfl, hb1⟩; have HF := Lib.hid ((HF.out.alloc _).later hb1)) | (go_at_call 15; (with_reducible refine (exp_ie _ _).mono ?_); rintro e w1 ⟨rfl, hb1⟩; have HF := Lib.hid (HF.out.later hb1)) | (go_at_call 21; (refine (inv_any a ha HA0.out _).mono ?_); rintro e w1 ⟨rfl, hb1⟩; have HF := Lib.hid (HF.out.later hb1)) | (go_at_call 12; (refine (log_pos a ha HA0.out _).mono ?_); rintro e w1 ⟨rfl, hb1⟩; have HF := Lib.hid (HF.out.later hb1)) | (go_at_call 22; (refine (rmul_any a b ha hb _).mono ?_); rintro e w1 ⟨rfl, rfl⟩) | (go_at_call 11; refine (awake_any _).mono ?_; rintro e w1 ⟨rfl, hb1⟩))
  go_ret
  refine ⟨rfl, ?_⟩
  repeat (first | exact Below.refl _ _ | assumption | (refine thenB ?_ (by assumption)) | refine allocB ?_ _)

theorem asks_all (w : World) (a : Int) (ha : (Lit.int .u8 a).wf = true) (b : Int) (hb : (Lit.int .u8 b).wf = true) (n : Int) (_hn : (Lit.int .i64 n).wf = true) :
    Calls Try.prog 4 #[.int .u8 a, .int .u8 b, .int .i64 n] w fun e w' => e = .returned (.bool true) ∧ Below w.heap.size w w' := by
  obtain ⟨a, rfl, ka⟩ := byte_is ha
  obtain ⟨b, rfl, kb⟩ := byte_is hb
  by_cases h : a = 0
  · subst h; exact asks_zero w b kb n
  · exact asks_pos w a b ka kb h n
end Go.Proofs.Ytoipbblgbbocnaa
