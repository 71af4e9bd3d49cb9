/-
  The walks of gf.Dot and of the document's Dot, and of GfDots: what the sum of products is, place by place, or that there is none.
-/
import Derived.Test.YtoipbblgbbocnaaMulsWalk
import Derived.Deep.QuietTactic
import Derived.BigQuiet
namespace Go.Proofs.Ytoipbblgbbocnaa
open Go.RowKit
def byteAt (s : ByteArray) (k : Nat) : Nat := if h : k < s.size then s[k].toNat else 0
theorem byteAt_is (s : ByteArray) (k : Nat) (h : k < s.size) : s[k].toNat = byteAt s k := by unfold byteAt; rw [dif_pos h]
theorem byteAt_lt (s : ByteArray) (k : Nat) : byteAt s k < 256 := by
  unfold byteAt; split
  · exact UInt8.toNat_lt _
  · omega
def dotK (s t : ByteArray) : Nat → Nat
  | 0 => 0
  | k + 1 => dotK s t k ^^^ gm (byteAt s k) (byteAt t k)
theorem dotK_succ (s t : ByteArray) (k : Nat) : dotK s t (k + 1) = dotK s t k ^^^ gm (byteAt s k) (byteAt t k) := rfl
theorem dotK_lt (s t : ByteArray) : ∀ k, dotK s t k < 256
  | 0 => by unfold dotK; omega
  | k + 1 => by rw [dotK_succ]; exact xor_lt (dotK_lt s t k) (gm_lt _ _)
theorem byte_eq {s : ByteArray} {k : Nat} (h : k < s.size) : (s[k].toNat : Int) = (byteAt s k : Int) := by rw [byteAt_is s k h]
theorem same_sym {P : Program} {f : FuncId} {args : Array Value} {w : World} {v : Value} (h : Calls P f args w fun e w' => e = .returned v ∧ w = w') : Calls P f args w fun e w' => e = .returned v ∧ w' = w :=
  h.mono fun _ _ ⟨he, hw⟩ => ⟨he, hw.symm⟩

set_option maxHeartbeats 400000 in
theorem dot_arg (s t : ByteArray) (h : s.size ≠ t.size) (w : World) :
    Calls Try.prog 27 #[.string s, .string t] w fun e w' => e = .returned (.tuple #[Q 0, .int .i64 1]) ∧ w = w' := by
  have n1 : ((s.size : Int) == (t.size : Int)) = false := by rw [beq_eq_false_iff_ne]; omega
  go_enter Try.func27, Try.ntmps27
  go_wp2
  go_ret2
  exact ⟨rfl, rfl⟩

set_option maxRecDepth 100000 in
set_option maxHeartbeats 1600000 in
theorem dot_any (s t : ByteArray) (h : s.size = t.size) (hs : s.size ≤ maxLen) (w : World) :
    Calls Try.prog 27 #[.string s, .string t] w fun e w' => e = .returned (.tuple #[Q (dotK s t s.size), .int .i64 0]) ∧ Below w.heap.size w w' := by
  unfold maxLen at hs
  have n1 : ((s.size : Int) == (t.size : Int)) = true := by rw [beq_iff_eq]; omega
  have hle : s.size ≤ t.size := by omega
  clear h
  go_enter Try.func27, Try.ntmps27
  go_wp2_with (go_at_call 16; refine (new_any _).mono ?_; rintro e w1 ⟨rfl, hF, hb1⟩)
  go_loopw [7, 17] (fun r i wr => ∃ k : Nat, k ≤ s.size ∧ i = .int .i64 k ∧ r = Q (dotK s t k) ∧ IsF wr w.heap.size 255 ∧ Below w.heap.size w wr) (fun _ i _ => s.size - (intOf i).toNat)
  case atStart => exact ⟨0, by omega, rfl, rfl, hF, hb1⟩
  case round =>
    clear hF hb1
    obtain ⟨k, hk, rfl, rfl, hF, hB⟩ := hrel
    by_cases hlt : k < s.size
    · have hlt2 : k < t.size := by omega
      have b1 := byte_eq hlt
      have b2 := byte_eq hlt2
      have c1 := byteAt_lt s k
      have c2 := byteAt_lt t k
      have d1 := dotK_lt s t k
      have g1 := gm_lt (byteAt s k) (byteAt t k)
      have HX := Lib.hid (xor_val _ _ d1 g1)
      have i0 : (0 : Int) ≤ (k : Int) := Int.natCast_nonneg _
      have i1 : (k : Int) < (s.size : Int) := by omega
      have i2 : (k : Int) < (t.size : Int) := by omega
      have HF := Lib.hid hF
      clear hF
      have HS := Lib.hid (dotK_succ s t k)
      generalize dotK s t k = d at d1 HX HS
      generalize byteAt s k = x at b1 c1 g1 HX HS
      generalize byteAt t k = y at b2 c2 g1 HX HS
      go_wp2_with fail
      go_quiet ((go_at_call 17; exact Calls.quiet_of (fmul_any _ x y c1 c2 _ (show IsF (World.drewN wr _) _ _ from HF.out))))
      go_wp2_with fail
      go_roundw
      case rel => exact ⟨k + 1, by omega, by go_num, by rw [HS.out]; exact Q_eq HX.out, HF.out, below_drewN hB _⟩
      case measure => simp [intOf]; omega
    · obtain rfl : k = s.size := by omega
      go_wp2
      go_ret2
      exact ⟨rfl, hB⟩

set_option maxRecDepth 100000 in
set_option maxHeartbeats 1600000 in
theorem rdot_any (s t : ByteArray) (hle : s.size ≤ t.size) (hs : s.size ≤ maxLen) (w : World) :
    Calls Try.prog 28 #[.string s, .string t] w fun e w' => e = .returned (Q (dotK s t s.size)) ∧ Below w.heap.size w w' := by
  unfold maxLen at hs
  go_enter Try.func28, Try.ntmps28
  go_wp2
  go_loopw [5, 6] (fun r i wr => ∃ k : Nat, k ≤ s.size ∧ i = .int .i64 k ∧ r = Q (dotK s t k) ∧ Below w.heap.size w wr) (fun _ i _ => s.size - (intOf i).toNat)
  case atStart => exact ⟨0, by omega, rfl, rfl, Below.refl _ _⟩
  case round =>
    obtain ⟨k, hk, rfl, rfl, hB⟩ := hrel
    by_cases hlt : k < s.size
    · have hlt2 : k < t.size := by omega
      have b1 := byte_eq hlt
      have b2 := byte_eq hlt2
      have c1 := byteAt_lt s k
      have c2 := byteAt_lt t k
      have d1 := dotK_lt s t k
      have g1 := gm_lt (byteAt s k) (byteAt t k)
      have i0 : (0 : Int) ≤ (k : Int) := Int.natCast_nonneg _
      have i1 : (k : Int) < (s.size : Int) := by omega
      have i2 : (k : Int) < (t.size : Int) := by omega
      have HS := Lib.hid (dotK_succ s t k)
      generalize dotK s t k = d at d1 HS
      generalize byteAt s k = x at b1 c1 g1 HS
      generalize byteAt t k = y at b2 c2 g1 HS
      go_wp2_with fail
      go_quiet ((first | (go_at_call 22; exact Calls.quiet_of_same (same_sym (rmul_any x y c1 c2 _))) | (go_at_call 23; exact Calls.quiet_of_same (same_sym (radd_any d _ d1 g1 _)))))
      go_wp2_with fail
      go_roundw
      case rel => exact ⟨k + 1, by omega, by go_num, by rw [HS.out], below_drewN hB _⟩
      case measure => simp [intOf]; omega
    · obtain rfl : k = s.size := by omega
      go_wp2
      go_ret
      exact ⟨rfl, hB⟩

set_option maxRecDepth 100000 in
set_option maxHeartbeats 1600000 in
theorem dots_all (w : World) (s : ByteArray) (hs : s.size ≤ maxLen) (t : ByteArray) (ht : t.size ≤ maxLen) :
    Calls Try.prog 9 #[.string s, .string t] w fun e w' => e = .returned (.bool true) ∧ Below w.heap.size w w' := by
  have HS := Lib.hid hs
  unfold maxLen at hs ht
  by_cases h1 : 300 < s.size
  · go_enter Try.func9, Try.ntmps9
    go_wp2_with (first | (go_at_call 11; refine (awake_any _).mono ?_; rintro e w1 ⟨rfl, hb1⟩))
    go_ret
    refine ⟨rfl, ?_⟩
    repeat (first | exact Below.refl _ _ | assumption | (refine thenB ?_ (by assumption)) | refine allocB ?_ _)
  by_cases h2 : 300 < t.size
  · go_enter Try.func9, Try.ntmps9
    go_wp2_with (first | (go_at_call 11; refine (awake_any _).mono ?_; rintro e w1 ⟨rfl, hb1⟩))
    go_ret
    refine ⟨rfl, ?_⟩
    repeat (first | exact Below.refl _ _ | assumption | (refine thenB ?_ (by assumption)) | refine allocB ?_ _)
  by_cases h : s.size = t.size
  · have n1 : ((s.size : Int) == (t.size : Int)) = true := by rw [beq_iff_eq]; omega
    have hle : s.size ≤ t.size := by omega
    have H := Lib.hid h
    clear h
    go_enter Try.func9, Try.ntmps9
    go_wp2_with (first | (go_at_call 27; refine (dot_any s t H.out HS.out _).mono ?_; rintro e w1 ⟨rfl, hb1⟩) | (go_at_call 28; refine (rdot_any s t hle HS.out _).mono ?_; rintro e w1 ⟨rfl, hb1⟩) | (go_at_call 11; refine (awake_any _).mono ?_; rintro e w1 ⟨rfl, hb1⟩))
    go_ret
    refine ⟨rfl, ?_⟩
    repeat (first | exact Below.refl _ _ | assumption | (refine thenB ?_ (by assumption)) | refine allocB ?_ _)
  · have n1 : ((s.size : Int) == (t.size : Int)) = false := by rw [beq_eq_false_iff_ne]; omega
    have H := Lib.hid h
    clear h
    go_enter Try.func9, Try.ntmps9
    go_wp2_with (first | (go_at_call 27; refine (dot_arg s t H.out _).mono ?_; rintro e w1 ⟨rfl, rfl⟩) | (go_at_call 11; refine (awake_any _).mono ?_; rintro e w1 ⟨rfl, hb1⟩))
    go_ret
    refine ⟨rfl, ?_⟩
    repeat (first | exact Below.refl _ _ | assumption | (refine thenB ?_ (by assumption)) | refine allocB ?_ _)
end Go.Proofs.Ytoipbblgbbocnaa
