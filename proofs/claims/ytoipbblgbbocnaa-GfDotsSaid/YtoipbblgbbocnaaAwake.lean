/-
  Sums and products of two and of three bytes, and the walk of the examples of the chapter (awake).
-/
import Derived.Test.YtoipbblgbbocnaaMany
namespace Go.Proofs.Ytoipbblgbbocnaa
open Go.RowKit
theorem cells_at (w : World) (l : List Nat) (cs : Array Value) (h : cs = (l.map Q).toArray) : ∀ i (h : i < l.length), (w.alloc (.cells cs 5)).cell? ⟨w.heap.size, 0 + i, none⟩ = some (Q l[i]) := by
  intro i hi
  subst h
  rw [cell_of_row _ _ _ _ _ _ (heap_alloc_new w _)]
  simp [hi]
theorem two_lt {a b : Nat} (ha : a < 256) (hb : b < 256) : ∀ i (h : i < [a, b].length), [a, b][i] < 256 := by
  intro i h
  rcases (by simp at h; omega : i = 0 ∨ i = 1) with rfl | rfl
  · exact ha
  · exact hb
theorem three_lt {a b c : Nat} (ha : a < 256) (hb : b < 256) (hc : c < 256) : ∀ i (h : i < [a, b, c].length), [a, b, c][i] < 256 := by
  intro i h
  rcases (by simp at h; omega : i = 0 ∨ i = 1 ∨ i = 2) with rfl | rfl | rfl
  · exact ha
  · exact hb
  · exact hc
theorem mul2 (a b : Nat) (ha : a < 256) (hb : b < 256) (w : World) :
    Calls Try.prog 13 #[.slice (some ⟨w.heap.size, 0, none⟩) 2 2] (w.alloc (.cells #[Q a, Q b] 5)) fun e w' => e = .returned (Q (gm a b)) ∧ Below (w.alloc (.cells #[Q a, Q b] 5)).heap.size (w.alloc (.cells #[Q a, Q b] 5)) w' := by
  have e : mulL [a, b] = gm a b := by simp [mulL, one_gm ha]
  rw [← e]
  exact mul_any w.heap.size 0 2 [a, b] _ (two_lt ha hb) (by unfold maxLen; simp) (cells_at w [a, b] _ rfl) (by simp)
theorem mul3 (a b c : Nat) (ha : a < 256) (hb : b < 256) (hc : c < 256) (w : World) :
    Calls Try.prog 13 #[.slice (some ⟨w.heap.size, 0, none⟩) 3 3] (w.alloc (.cells #[Q a, Q b, Q c] 5)) fun e w' => e = .returned (Q (gm (gm a b) c)) ∧ Below (w.alloc (.cells #[Q a, Q b, Q c] 5)).heap.size (w.alloc (.cells #[Q a, Q b, Q c] 5)) w' := by
  have e : mulL [a, b, c] = gm (gm a b) c := by simp [mulL, one_gm ha]
  rw [← e]
  exact mul_any w.heap.size 0 3 [a, b, c] _ (three_lt ha hb hc) (by unfold maxLen; simp) (cells_at w [a, b, c] _ rfl) (by simp)
theorem add2 (a b : Nat) (ha : a < 256) (hb : b < 256) (w : World) :
    Calls Try.prog 24 #[.slice (some ⟨w.heap.size, 0, none⟩) 2 2] (w.alloc (.cells #[Q a, Q b] 5)) fun e w' => e = .returned (Q (a ^^^ b)) ∧ w.alloc (.cells #[Q a, Q b] 5) = w' := by
  have e : addL [a, b] = a ^^^ b := by simp [addL]
  rw [← e]
  exact add_any w.heap.size 0 2 [a, b] _ (two_lt ha hb) (by unfold maxLen; simp) (cells_at w [a, b] _ rfl)
theorem add3 (a b c : Nat) (ha : a < 256) (hb : b < 256) (hc : c < 256) (w : World) :
    Calls Try.prog 24 #[.slice (some ⟨w.heap.size, 0, none⟩) 3 3] (w.alloc (.cells #[Q a, Q b, Q c] 5)) fun e w' => e = .returned (Q (a ^^^ b ^^^ c)) ∧ w.alloc (.cells #[Q a, Q b, Q c] 5) = w' := by
  have e : addL [a, b, c] = a ^^^ b ^^^ c := by simp [addL]
  rw [← e]
  exact add_any w.heap.size 0 3 [a, b, c] _ (three_lt ha hb hc) (by unfold maxLen; simp) (cells_at w [a, b, c] _ rfl)

theorem inv_2 (w : World) : Calls Try.prog 21 #[.int .u8 2] w fun e w' => e = .returned (.tuple #[.int .u8 142, .int .i64 0]) ∧ Below w.heap.size w w' := by
  have := inv_any 2 (by omega) (by omega) w
  rwa [show gd 1 2 = 142 by decide +kernel] at this
theorem log_3 (w : World) : Calls Try.prog 12 #[.int .u8 3] w fun e w' => e = .returned (.tuple #[.int .i64 25, .int .i64 0]) ∧ Below w.heap.size w w' := by
  have := log_pos 3 (by omega) (by omega) w
  rwa [show lg 3 = 25 by decide +kernel] at this
theorem exp_255 (w : World) : Calls Try.prog 15 #[.int .i64 255] w fun e w' => e = .returned (.int .u8 1) ∧ Below w.heap.size w w' := exp_any 255 w
theorem mul_2_128 (w : World) : Calls Try.prog 13 #[.slice (some ⟨w.heap.size, 0, none⟩) 2 2] (w.alloc (.cells #[.int .u8 2, .int .u8 128] 5)) fun e w' => e = .returned (.int .u8 29) ∧ Below (w.alloc (.cells #[.int .u8 2, .int .u8 128] 5)).heap.size (w.alloc (.cells #[.int .u8 2, .int .u8 128] 5)) w' := by
  have := mul2 2 128 (by omega) (by omega) w
  rwa [show gm 2 128 = 29 by decide +kernel] at this
theorem mul_3_7 (w : World) : Calls Try.prog 13 #[.slice (some ⟨w.heap.size, 0, none⟩) 2 2] (w.alloc (.cells #[.int .u8 3, .int .u8 7] 5)) fun e w' => e = .returned (.int .u8 9) ∧ Below (w.alloc (.cells #[.int .u8 3, .int .u8 7] 5)).heap.size (w.alloc (.cells #[.int .u8 3, .int .u8 7] 5)) w' := by
  have := mul2 3 7 (by omega) (by omega) w
  rwa [show gm 3 7 = 9 by decide +kernel] at this
theorem add_5_3 (w : World) : Calls Try.prog 24 #[.slice (some ⟨w.heap.size, 0, none⟩) 2 2] (w.alloc (.cells #[.int .u8 5, .int .u8 3] 5)) fun e w' => e = .returned (.int .u8 6) ∧ w.alloc (.cells #[.int .u8 5, .int .u8 3] 5) = w' := add2 5 3 (by omega) (by omega) w

set_option maxRecDepth 100000 in
set_option maxHeartbeats 800000 in
theorem awake_any (w : World) :
    Calls Try.prog 11 #[] w fun e w' => e = .returned (.bool true) ∧ Below w.heap.size w w' := by
  go_enter Try.func11, Try.ntmps11
  go_wp2_with (first | (go_at_call 21; refine (inv_2 _).mono ?_; rintro e w1 ⟨rfl, hb1⟩) | (go_at_call 12; refine (log_3 _).mono ?_; rintro e w1 ⟨rfl, hb1⟩) | (go_at_call 13; (first | (with_reducible refine (mul_2_128 _).mono ?_) | (with_reducible refine (mul_3_7 _).mono ?_)); rintro e w1 ⟨rfl, hb1⟩) | (go_at_call 15; refine (exp_255 _).mono ?_; rintro e w1 ⟨rfl, hb1⟩) | (go_at_call 24; refine (add_5_3 _).mono ?_; rintro e w1 ⟨rfl, rfl⟩))
  go_ret
  refine ⟨rfl, ?_⟩
  repeat (first | exact Below.refl _ _ | assumption | (refine thenB ?_ (by assumption)) | refine allocB ?_ _)
end Go.Proofs.Ytoipbblgbbocnaa
