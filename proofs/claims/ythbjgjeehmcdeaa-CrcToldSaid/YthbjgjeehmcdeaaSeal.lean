/-
  The walks of crc.Seal, crc.Open, the document's Four and Seal.
-/
import Derived.Test.YthbjgjeehmcdeaaMore
import Derived.Laws.BytesArg
namespace Go.Proofs.Ythbjgjeehmcdeaa
open Go.RowKit
def bytesOf (l : List UInt8) : ByteArray := ⟨l.toArray⟩
theorem bytesOf_list (l : List UInt8) : (bytesOf l).data.toList = l := rfl
theorem bytesOf_size (l : List UInt8) : (bytesOf l).size = l.length := by simp [bytesOf, ByteArray.size]
theorem bytesOf_self (s : ByteArray) : bytesOf s.data.toList = s := rfl
theorem append_bytes (s : ByteArray) (l : List UInt8) : s ++ bytesOf l = bytesOf (s.data.toList ++ l) := ByteArray.mk_append_mk s.data.toList l
def fourB (x : BitVec 32) : ByteArray := bytesOf (four x)
def sealB (s : ByteArray) : ByteArray := bytesOf (sealed s.data.toList)
theorem fourB_size (x : BitVec 32) : (fourB x).size = 4 := by rw [fourB, bytesOf_size, four_len]
theorem sealB_size (s : ByteArray) : (sealB s).size = s.size + 4 := by rw [sealB, bytesOf_size, seal_len]; simp
theorem seal_is (s : ByteArray) : s ++ fourB (sum s.data.toList) = sealB s := append_bytes s _

theorem conv4 (w : World) (a b c d : Int) : (convert 32 9 (.slice (some ⟨w.heap.size, 0, none⟩) 4 4)).run Try.prog (w.alloc (.cells #[.int .u8 a, .int .u8 b, .int .u8 c, .int .u8 d] 5)) = .ok (.string (strOfNums [a, b, c, d])) (w.alloc (.cells #[.int .u8 a, .int .u8 b, .int .u8 c, .int .u8 d] 5)) := by
  refine run_convert_bytes_arg _ 32 5 Try.underlying32 Try.underlying5 w.heap.size 0 4 4 [a, b, c, d] rfl ?_ 9 Try.underlying9
  intro i hi
  rw [cell_of_row _ _ _ _ _ _ (heap_alloc_new w _)]
  rcases (by omega : i = 0 ∨ i = 1 ∨ i = 2 ∨ i = 3) with rfl | rfl | rfl | rfl <;> rfl

theorem byte_of (n : Nat) (a : Int) (h : a = (n : Int)) : UInt8.ofNat a.toNat = UInt8.ofNat n := by rw [h]; rfl

theorem nums_crc (x : BitVec 32) : strOfNums [(x.toNat : Int) / (16777216 : Int), (x.toNat : Int) / (65536 : Int) % (256 : Int), (x.toNat : Int) / (256 : Int) % (256 : Int), (x.toNat : Int) % (256 : Int)] = fourB x := by
  have h := x.isLt
  unfold strOfNums fourB bytesOf four by3 by2 by1 by0
  have e3 : UInt8.ofNat ((x.toNat : Int) / (16777216 : Int)).toNat = UInt8.ofNat (x.toNat / 16777216) := byte_of _ _ (by omega)
  have e2 : UInt8.ofNat ((x.toNat : Int) / (65536 : Int) % (256 : Int)).toNat = UInt8.ofNat (x.toNat / 65536) := by
    apply UInt8.toNat_inj.1; rw [UInt8.toNat_ofNat', UInt8.toNat_ofNat']; omega
  have e1 : UInt8.ofNat ((x.toNat : Int) / (256 : Int) % (256 : Int)).toNat = UInt8.ofNat (x.toNat / 256) := by
    apply UInt8.toNat_inj.1; rw [UInt8.toNat_ofNat', UInt8.toNat_ofNat']; omega
  have e0 : UInt8.ofNat ((x.toNat : Int) % (256 : Int)).toNat = UInt8.ofNat x.toNat := by
    apply UInt8.toNat_inj.1; rw [UInt8.toNat_ofNat', UInt8.toNat_ofNat']; omega
  simp only [List.map_cons, List.map_nil, e3, e2, e1, e0]

theorem nums_size (a b c d : Int) : (strOfNums [a, b, c, d]).size = 4 := strOfNums_size _
theorem str_eq {a b : ByteArray} (h : a = b) : Ending.returned (.string a) = .returned (.string b) := by rw [h]

set_option maxHeartbeats 400000 in
theorem four_any (x : BitVec 32) (w : World) :
    Calls Try.prog 19 #[U x] w fun e w' => e = .returned (.string (fourB x)) ∧ Below w.heap.size w w' := by
  have hx := x.isLt
  have kc := conv4
  go_enter Try.func19, Try.ntmps19
  go_wp2
  go_ret
  exact ⟨str_eq (nums_crc x), (Below.refl _ _).alloc (Nat.le_refl _) _⟩

theorem seal_of (s : ByteArray) : s ++ strOfNums [((moreAll ones [s]).toNat : Int) / (16777216 : Int), ((moreAll ones [s]).toNat : Int) / (65536 : Int) % (256 : Int), ((moreAll ones [s]).toNat : Int) / (256 : Int) % (256 : Int), ((moreAll ones [s]).toNat : Int) % (256 : Int)] = sealB s := by
  rw [nums_crc]; exact seal_is s

set_option maxHeartbeats 400000 in
theorem seal_any (s : ByteArray) (hs : s.size ≤ 604) (w : World) :
    Calls Try.prog 16 #[.string s] w fun e w' => e = .returned (.string (sealB s)) ∧ Below w.heap.size w w' := by
  have hx := (moreAll ones [s]).isLt
  have hs' : s.size ≤ maxLen := by unfold maxLen; omega
  have kc := conv4
  have kn := nums_size
  go_enter Try.func16, Try.ntmps16
  go_wp2_with (go_at_call 11; refine (sum_any w.heap.size 0 1 [s] _ (one_size s hs') (one_len s) (one_at w s) (by simp)).mono ?_; rintro e w1 ⟨rfl, hb1⟩)
  go_ret
  exact ⟨str_eq (seal_of s), (((Below.refl _ _).alloc (Nat.le_refl _) _).trans (hb1.mono (by simp))).alloc (Nat.le_trans (by simp) hb1.size) _⟩

set_option maxHeartbeats 400000 in
theorem refSeal (s : ByteArray) (hs : s.size ≤ 604) (w : World) :
    Calls Try.prog 17 #[.string s] w fun e w' => e = .returned (.string (sealB s)) ∧ Below w.heap.size w w' := by
  have hs' : s.size ≤ maxLen := by unfold maxLen; omega
  have kn := fourB_size
  go_enter Try.func17, Try.ntmps17
  go_wp2_with (first | (go_at_call 12; refine (refSum s hs' _).mono ?_; rintro e w1 ⟨rfl, rfl⟩) | (go_at_call 19; refine (four_any _ _).mono ?_; rintro e w1 ⟨rfl, hb1⟩))
  go_ret
  exact ⟨str_eq (seal_is s), hb1⟩

theorem toNat_zero (x : BitVec 32) : (((x.toNat : Int) == 0) = true ↔ x = 0#32) := by
  rw [beq_iff_eq]
  constructor
  · intro h; apply BitVec.eq_of_toNat_eq; have : (0#32).toNat = 0 := rfl; omega
  · rintro rfl; rfl

set_option maxHeartbeats 400000 in
theorem open_short (s : ByteArray) (hs : s.size < 4) (w : World) :
    Calls Try.prog 14 #[.string s] w fun e w' => e = .returned (.tuple #[.string ByteArray.empty, .int .i64 10]) ∧ w = w' := by
  go_enter Try.func14, Try.ntmps14
  go_wp2
  go_ret2
  exact ⟨rfl, rfl⟩

set_option maxHeartbeats 400000 in
theorem open_sum (s : ByteArray) (hs : 4 ≤ s.size) (hs2 : s.size ≤ 604) (h0 : sum s.data.toList ≠ 0#32) (w : World) :
    Calls Try.prog 14 #[.string s] w fun e w' => e = .returned (.tuple #[.string ByteArray.empty, .int .i64 13]) ∧ Below w.heap.size w w' := by
  have hs' : s.size ≤ maxLen := by unfold maxLen; omega
  have ht : (((moreAll ones [s]).toNat : Int) == 0) = false := by
    rw [Bool.eq_false_iff, ne_eq, toNat_zero]; exact h0
  clear h0
  go_enter Try.func14, Try.ntmps14
  go_wp2_with (go_at_call 11; refine (sum_any w.heap.size 0 1 [s] _ (one_size s hs') (one_len s) (one_at w s) (by simp)).mono ?_; rintro e w1 ⟨rfl, hb1⟩)
  go_ret2
  exact ⟨rfl, ((Below.refl _ _).alloc (Nat.le_refl _) _).trans (hb1.mono (by simp))⟩

set_option maxHeartbeats 400000 in
theorem open_ok (s : ByteArray) (hs : 4 ≤ s.size) (hs2 : s.size ≤ 604) (h0 : sum s.data.toList = 0#32) (w : World) :
    Calls Try.prog 14 #[.string s] w fun e w' => e = .returned (.tuple #[.string (s.extract 0 (s.size - 4)), .int .i64 0]) ∧ Below w.heap.size w w' := by
  have hs' : s.size ≤ maxLen := by unfold maxLen; omega
  have ht : (((moreAll ones [s]).toNat : Int) == 0) = true := by
    rw [toNat_zero]; exact h0
  clear h0
  go_enter Try.func14, Try.ntmps14
  go_wp2_with (go_at_call 11; refine (sum_any w.heap.size 0 1 [s] _ (one_size s hs') (one_len s) (one_at w s) (by simp)).mono ?_; rintro e w1 ⟨rfl, hb1⟩)
  go_ret2
  exact ⟨rfl, ((Below.refl _ _).alloc (Nat.le_refl _) _).trans (hb1.mono (by simp))⟩

end Go.Proofs.Ythbjgjeehmcdeaa
