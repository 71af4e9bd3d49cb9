/-
  The walk of CrcSealed: all that is sealed has the check sum 0, and two texts of one check sum are unlike in no four bytes in a row alone.
-/
import Derived.Test.YthbjgjeehmcdeaaSums
import Derived.Deep.QuietTactic
import Derived.BigQuiet
namespace Go.Proofs.Ythbjgjeehmcdeaa
open Go.RowKit
theorem sealed_twice (s : ByteArray) : moreAll ones [sealB s, sealB ByteArray.empty] = 3338984827#32 := by
  have h : moreAll ones [sealB s, sealB ByteArray.empty] = more (sum (sealB s).data.toList) (sealB ByteArray.empty).data.toList := rfl
  rw [h, sum_sealB]
  decide +kernel
theorem sealed_twiceI (s : ByteArray) : (((moreAll ones [sealB s, sealB ByteArray.empty]).toNat : Int) == (ones.toNat : Int)) = false := by
  rw [sealed_twice]; rfl
theorem sealed_once (s : ByteArray) : (((sum (sealB s).data.toList).toNat : Int) != 0) = false := by rw [sum_sealB]; rfl
theorem sum_ne {x y : BitVec 32} (h : x ≠ y) : ((x.toNat : Int) != (y.toNat : Int)) = true := by
  rw [bne_iff_ne]
  intro e
  exact h (BitVec.eq_of_toNat_eq (by omega))
theorem sum_eq {x y : BitVec 32} (h : x = y) : ((x.toNat : Int) != (y.toNat : Int)) = false := by rw [h]; exact bne_self_eq_false _
theorem str_ne {s t : ByteArray} (h : s.data.toList ≠ t.data.toList) : (s.toList == t.toList) = false := by
  rw [ByteArray.toList_eq, ByteArray.toList_eq, beq_eq_false_iff_ne]; exact h
theorem str_is {s t : ByteArray} (h : s.data.toList = t.data.toList) : (s.toList == t.toList) = true := by
  rw [ByteArray.toList_eq, ByteArray.toList_eq, beq_iff_eq]; exact h

set_option maxRecDepth 100000 in
set_option maxHeartbeats 1600000 in
theorem sealed_len (w : World) (s t : ByteArray) (hs : s.size ≤ 600) (ht : t.size ≤ 600) (h : s.size ≠ t.size) :
    Calls Try.prog 6 #[.string s, .string t] w fun e w' => e = .returned (.bool true) ∧ Below w.heap.size w w' := by
  have hs4 : s.size ≤ 604 := by omega
  have hs5 : s.size ≤ maxLen := by unfold maxLen; omega
  have ht5 : t.size ≤ maxLen := by unfold maxLen; omega
  have hz1 : (sealB s).size ≤ maxLen := by rw [sealB_size]; unfold maxLen; omega
  have hz2 : (sealB ByteArray.empty).size ≤ maxLen := by rw [sealB_size]; unfold maxLen; decide
  have f1 := sealed_once s
  have f2 := sealed_twiceI s
  have n1 : ((s.size : Int) != (t.size : Int)) = true := by rw [bne_iff_ne]; omega
  clear h
  go_enter Try.func6, Try.ntmps6
  go_wp2_with (first | (go_at_call 16; (first | (with_reducible refine (seal_any s hs4 _).mono ?_) | (refine (seal_any ByteArray.empty (by decide) _).mono ?_)); rintro e w1 ⟨rfl, hb1⟩) | (go_at_call 11; (first | (with_reducible refine (sum1 (sealB s) hz1 _).mono ?_) | (with_reducible refine (sum1 s hs5 _).mono ?_) | (with_reducible refine (sum1 t ht5 _).mono ?_) | (with_reducible refine (sum2 (sealB s) (sealB ByteArray.empty) hz1 hz2 _).mono ?_) | (with_reducible refine (sum_none _).mono ?_)); rintro e w1 ⟨rfl, hb1⟩) | (go_at_call 8; refine (awake_any _).mono ?_; rintro e w1 ⟨rfl, hb1⟩))
  go_ret
  refine ⟨rfl, ?_⟩
  repeat (first | exact Below.refl _ _ | assumption | (refine thenB ?_ (by assumption)) | refine allocB ?_ _ | refine below_drewN ?_ _)

set_option maxRecDepth 100000 in
set_option maxHeartbeats 1600000 in
theorem sealed_same (w : World) (s t : ByteArray) (hs : s.size ≤ 600) (ht : t.size ≤ 600) (h : s.size = t.size) (h2 : s.data.toList = t.data.toList) :
    Calls Try.prog 6 #[.string s, .string t] w fun e w' => e = .returned (.bool true) ∧ Below w.heap.size w w' := by
  have hs4 : s.size ≤ 604 := by omega
  have hs5 : s.size ≤ maxLen := by unfold maxLen; omega
  have ht5 : t.size ≤ maxLen := by unfold maxLen; omega
  have hz1 : (sealB s).size ≤ maxLen := by rw [sealB_size]; unfold maxLen; omega
  have hz2 : (sealB ByteArray.empty).size ≤ maxLen := by rw [sealB_size]; unfold maxLen; decide
  have f1 := sealed_once s
  have f2 := sealed_twiceI s
  have n1 : ((s.size : Int) != (t.size : Int)) = false := by rw [bne_eq_false_iff_eq]; omega
  have n2 := str_is h2
  clear h h2
  go_enter Try.func6, Try.ntmps6
  go_wp2_with (first | (go_at_call 16; (first | (with_reducible refine (seal_any s hs4 _).mono ?_) | (refine (seal_any ByteArray.empty (by decide) _).mono ?_)); rintro e w1 ⟨rfl, hb1⟩) | (go_at_call 11; (first | (with_reducible refine (sum1 (sealB s) hz1 _).mono ?_) | (with_reducible refine (sum1 s hs5 _).mono ?_) | (with_reducible refine (sum1 t ht5 _).mono ?_) | (with_reducible refine (sum2 (sealB s) (sealB ByteArray.empty) hz1 hz2 _).mono ?_) | (with_reducible refine (sum_none _).mono ?_)); rintro e w1 ⟨rfl, hb1⟩) | (go_at_call 8; refine (awake_any _).mono ?_; rintro e w1 ⟨rfl, hb1⟩))
  go_ret
  refine ⟨rfl, ?_⟩
  repeat (first | exact Below.refl _ _ | assumption | (refine thenB ?_ (by assumption)) | refine allocB ?_ _ | refine below_drewN ?_ _)

set_option maxRecDepth 100000 in
set_option maxHeartbeats 1600000 in
theorem sealed_sums (w : World) (s t : ByteArray) (hs : s.size ≤ 600) (ht : t.size ≤ 600) (h : s.size = t.size) (h2 : s.data.toList ≠ t.data.toList) (h3 : sum s.data.toList ≠ sum t.data.toList) :
    Calls Try.prog 6 #[.string s, .string t] w fun e w' => e = .returned (.bool true) ∧ Below w.heap.size w w' := by
  have hs4 : s.size ≤ 604 := by omega
  have hs5 : s.size ≤ maxLen := by unfold maxLen; omega
  have ht5 : t.size ≤ maxLen := by unfold maxLen; omega
  have hz1 : (sealB s).size ≤ maxLen := by rw [sealB_size]; unfold maxLen; omega
  have hz2 : (sealB ByteArray.empty).size ≤ maxLen := by rw [sealB_size]; unfold maxLen; decide
  have f1 := sealed_once s
  have f2 := sealed_twiceI s
  have n1 : ((s.size : Int) != (t.size : Int)) = false := by rw [bne_eq_false_iff_eq]; omega
  have n2 := str_ne h2
  have n3 := sum_ne h3
  clear h h2 h3
  go_enter Try.func6, Try.ntmps6
  go_wp2_with (first | (go_at_call 16; (first | (with_reducible refine (seal_any s hs4 _).mono ?_) | (refine (seal_any ByteArray.empty (by decide) _).mono ?_)); rintro e w1 ⟨rfl, hb1⟩) | (go_at_call 11; (first | (with_reducible refine (sum1 (sealB s) hz1 _).mono ?_) | (with_reducible refine (sum1 s hs5 _).mono ?_) | (with_reducible refine (sum1 t ht5 _).mono ?_) | (with_reducible refine (sum2 (sealB s) (sealB ByteArray.empty) hz1 hz2 _).mono ?_) | (with_reducible refine (sum_none _).mono ?_)); rintro e w1 ⟨rfl, hb1⟩) | (go_at_call 8; refine (awake_any _).mono ?_; rintro e w1 ⟨rfl, hb1⟩))
  go_ret
  refine ⟨rfl, ?_⟩
  repeat (first | exact Below.refl _ _ | assumption | (refine thenB ?_ (by assumption)) | refine allocB ?_ _ | refine below_drewN ?_ _)

set_option maxRecDepth 100000 in
set_option maxHeartbeats 1600000 in
theorem sealed_far (w : World) (s t : ByteArray) (hs : s.size ≤ 600) (ht : t.size ≤ 600) (h : s.size = t.size) (h2 : s.data.toList ≠ t.data.toList) (h3 : sum s.data.toList = sum t.data.toList) :
    Calls Try.prog 6 #[.string s, .string t] w fun e w' => e = .returned (.bool true) ∧ Below w.heap.size w w' := by
  have hs4 : s.size ≤ 604 := by omega
  have hs5 : s.size ≤ maxLen := by unfold maxLen; omega
  have ht5 : t.size ≤ maxLen := by unfold maxLen; omega
  have hz1 : (sealB s).size ≤ maxLen := by rw [sealB_size]; unfold maxLen; omega
  have hz2 : (sealB ByteArray.empty).size ≤ maxLen := by rw [sealB_size]; unfold maxLen; decide
  have f1 := sealed_once s
  have f2 := sealed_twiceI s
  have n1 : ((s.size : Int) != (t.size : Int)) = false := by rw [bne_eq_false_iff_eq]; omega
  have n2 := str_ne h2
  have n3 := sum_eq h3
  have hle : s.size ≤ t.size := by omega
  have HL := Lib.hid h
  have HN := Lib.hid h2
  have HS := Lib.hid h3
  clear h h2 h3
  go_enter Try.func6, Try.ntmps6
  go_wp2_with (first | (go_at_call 16; (first | (with_reducible refine (seal_any s hs4 _).mono ?_) | (refine (seal_any ByteArray.empty (by decide) _).mono ?_)); rintro e w1 ⟨rfl, hb1⟩) | (go_at_call 11; (first | (with_reducible refine (sum1 (sealB s) hz1 _).mono ?_) | (with_reducible refine (sum1 s hs5 _).mono ?_) | (with_reducible refine (sum1 t ht5 _).mono ?_) | (with_reducible refine (sum2 (sealB s) (sealB ByteArray.empty) hz1 hz2 _).mono ?_) | (with_reducible refine (sum_none _).mono ?_)); rintro e w1 ⟨rfl, hb1⟩))
  obtain ⟨W, hW⟩ : ∃ W, W = w1 := ⟨_, rfl⟩
  have hB : Below w.heap.size w w1 := by
    repeat (first | exact Below.refl _ _ | assumption | (refine thenB ?_ (by assumption)) | refine allocB ?_ _)
  clear hW f1 f2 n1 n2 n3
  go_loopw [5, 6, 7] (fun f l i wr => ∃ (k : Nat) (fv lv : Int), k ≤ s.size ∧ i = .int .i64 k ∧ f = .int .i64 fv ∧ l = .int .i64 lv ∧ Ends s t k fv lv ∧ Below w.heap.size w wr) (fun _ _ i _ => s.size - (intOf i).toNat)
  case atStart => exact ⟨0, -1, -1, by omega, rfl, rfl, rfl, .inl ⟨rfl, rfl, fun i hi => by omega⟩, hB⟩
  case round =>
    clear hB
    obtain ⟨k, fv, lv, hk, rfl, rfl, rfl, hE, hB⟩ := hrel
    obtain ⟨b1, b2, b3, b4⟩ := hE.bd
    by_cases hlt : k < s.size
    · have hlt2 : k < t.size := by omega
      have c1 := byte_eq hlt
      have c2 := byte_eq hlt2
      have i0 : (0 : Int) ≤ (k : Int) := Int.natCast_nonneg _
      have i1 : (k : Int) < (s.size : Int) := by omega
      have i2 : (k : Int) < (t.size : Int) := by omega
      have HE := Lib.hid hE
      clear hE
      by_cases hd : byteAt s k = byteAt t k
      · have q : ((byteAt s k : Int) == (byteAt t k : Int)) = true := by rw [hd]; exact beq_self_eq_true _
        have HD := Lib.hid (HE.out.same hd)
        clear hd
        generalize byteAt s k = x at c1 q
        generalize byteAt t k = y at c2 q
        go_wp2_with fail
        go_quiet (fail)
        go_wp2_with fail
        go_roundw
        case rel => exact ⟨k + 1, fv, lv, by omega, by go_num, rfl, rfl, HD.out, below_drewN hB _⟩
        case measure => simp [intOf]; omega
      · have q : ((byteAt s k : Int) == (byteAt t k : Int)) = false := by rw [beq_eq_false_iff_ne]; omega
        by_cases hf : fv < 0
        · have HD := Lib.hid (HE.out.first hf)
          clear hd
          generalize byteAt s k = x at c1 q
          generalize byteAt t k = y at c2 q
          go_wp2_with fail
          go_quiet (fail)
          go_wp2_with fail
          go_roundw
          case rel => exact ⟨k + 1, k, k, by omega, by go_num, rfl, rfl, HD.out, below_drewN hB _⟩
          case measure => simp [intOf]; omega
        · have HD := Lib.hid (HE.out.next (by omega))
          clear hd
          generalize byteAt s k = x at c1 q
          generalize byteAt t k = y at c2 q
          go_wp2_with fail
          go_quiet (fail)
          go_wp2_with fail
          go_roundw
          case rel => exact ⟨k + 1, fv, k, by omega, by go_num, rfl, rfl, HD.out, below_drewN hB _⟩
          case measure => simp [intOf]; omega
    · obtain rfl : k = s.size := by omega
      have h4 := hE.far HL.out HN.out HS.out
      clear hE
      go_wp2_with (first | (go_at_call 8; refine (awake_any _).mono ?_; rintro e w1 ⟨rfl, hb1⟩))
      go_ret
      refine ⟨rfl, ?_⟩
      repeat (first | exact Below.refl _ _ | assumption | (refine thenB ?_ (by assumption)) | refine allocB ?_ _ | refine below_drewN ?_ _)

set_option maxRecDepth 100000 in
set_option maxHeartbeats 1600000 in
theorem sealed_all (w : World) (s : ByteArray) (hs : s.size ≤ maxLen) (t : ByteArray) (ht : t.size ≤ maxLen) :
    Calls Try.prog 6 #[.string s, .string t] w fun e w' => e = .returned (.bool true) ∧ Below w.heap.size w w' := by
  unfold maxLen at hs ht
  by_cases h1 : 600 < s.size
  · go_enter Try.func6, Try.ntmps6
    go_wp2_with (first | (go_at_call 8; refine (awake_any _).mono ?_; rintro e w1 ⟨rfl, hb1⟩))
    go_ret
    exact ⟨rfl, hb1⟩
  by_cases h2 : 600 < t.size
  · go_enter Try.func6, Try.ntmps6
    go_wp2_with (first | (go_at_call 8; refine (awake_any _).mono ?_; rintro e w1 ⟨rfl, hb1⟩))
    go_ret
    exact ⟨rfl, hb1⟩
  by_cases c1 : s.size = t.size
  · by_cases c2 : s.data.toList = t.data.toList
    · exact sealed_same w s t (by omega) (by omega) c1 c2
    · by_cases c3 : sum s.data.toList = sum t.data.toList
      · exact sealed_far w s t (by omega) (by omega) c1 c2 c3
      · exact sealed_sums w s t (by omega) (by omega) c1 c2 c3
  · exact sealed_len w s t (by omega) (by omega) c1
end Go.Proofs.Ythbjgjeehmcdeaa
