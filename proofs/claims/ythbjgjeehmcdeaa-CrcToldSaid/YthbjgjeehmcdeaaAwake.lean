/-
  The walks of the document's Open and of the examples of the chapter (awake).
-/
import Derived.Test.YthbjgjeehmcdeaaSeal
import Derived.Deep.RegionWith
namespace Go.Proofs.Ythbjgjeehmcdeaa
open Go.RowKit

theorem extract_list (s : ByteArray) (n : Nat) : (s.extract 0 n).data.toList = s.data.toList.take n := by
  simp [ByteArray.data_extract]
theorem sealB_toList (s : ByteArray) : (sealB s).toList = sealed s.data.toList := by rw [ByteArray.toList_eq]; rfl

theorem reseal (s : ByteArray) (h : 4 ≤ s.size) : ((sealB (s.extract 0 (s.size - 4))).toList == s.toList) = decide (sum s.data.toList = 0#32) := by
  rw [sealB_toList, extract_list, ByteArray.toList_eq, Bool.eq_iff_iff, beq_iff_eq, decide_eq_true_iff]
  exact (sum_zero_iff s.data.toList h).symm

theorem cut_size (s : ByteArray) (h : 4 ≤ s.size) : (s.extract 0 (s.size - 4)).size = s.size - 4 := by
  rw [ByteArray.size_extract]; omega

set_option maxHeartbeats 400000 in
theorem refOpen_short (s : ByteArray) (hs : s.size < 4) (w : World) :
    Calls Try.prog 15 #[.string s] w fun e w' => e = .returned (.tuple #[.string ByteArray.empty, .int .i64 10]) ∧ w = w' := by
  go_enter Try.func15, Try.ntmps15
  go_wp2
  go_ret2
  exact ⟨rfl, rfl⟩

set_option maxHeartbeats 400000 in
theorem refOpen_sum (s : ByteArray) (hs : 4 ≤ s.size) (hs2 : s.size ≤ 604) (h0 : sum s.data.toList ≠ 0#32) (w : World) :
    Calls Try.prog 15 #[.string s] w fun e w' => e = .returned (.tuple #[.string ByteArray.empty, .int .i64 13]) ∧ Below w.heap.size w w' := by
  have ht := reseal s hs
  rw [decide_eq_false h0] at ht
  have hc := cut_size s hs
  clear h0
  go_enter Try.func15, Try.ntmps15
  go_wp2_with (go_at_call 17; refine (refSeal _ (by rw [hc]; omega) _).mono ?_; rintro e w1 ⟨rfl, hb1⟩)
  go_ret2
  exact ⟨rfl, hb1⟩

set_option maxHeartbeats 400000 in
theorem refOpen_ok (s : ByteArray) (hs : 4 ≤ s.size) (hs2 : s.size ≤ 604) (h0 : sum s.data.toList = 0#32) (w : World) :
    Calls Try.prog 15 #[.string s] w fun e w' => e = .returned (.tuple #[.string (s.extract 0 (s.size - 4)), .int .i64 0]) ∧ Below w.heap.size w w' := by
  have ht := reseal s hs
  rw [decide_eq_true h0] at ht
  have hc := cut_size s hs
  clear h0
  go_enter Try.func15, Try.ntmps15
  go_wp2_with (go_at_call 17; refine (refSeal _ (by rw [hc]; omega) _).mono ?_; rintro e w1 ⟨rfl, hb1⟩)
  go_ret2
  exact ⟨rfl, hb1⟩

theorem two_at (w : World) (s t : ByteArray) : ∀ i (h : i < [s, t].length), (w.alloc (.cells #[.string s, .string t] 9)).cell? ⟨w.heap.size, 0 + i, none⟩ = some (.string [s, t][i]) := by
  intro i h
  rw [cell_of_row _ _ _ _ _ _ (heap_alloc_new w _)]
  rcases (by simp at h; omega : i = 0 ∨ i = 1) with rfl | rfl <;> rfl
theorem two_len (s t : ByteArray) : [s, t].length ≤ maxLen := by unfold maxLen; simp
theorem two_size (s t : ByteArray) (hs : s.size ≤ maxLen) (ht : t.size ≤ maxLen) : ∀ i (h : i < [s, t].length), [s, t][i].size ≤ maxLen := by
  intro i h
  rcases (by simp at h; omega : i = 0 ∨ i = 1) with rfl | rfl
  · exact hs
  · exact ht

theorem sum_nine : moreAll ones [⟨#[49, 50, 51, 52]⟩, ⟨#[53, 54, 55, 56, 57]⟩] = 58124007#32 := by decide +kernel
theorem sum_nineI : (((moreAll ones [⟨#[49, 50, 51, 52]⟩, ⟨#[53, 54, 55, 56, 57]⟩]).toNat : Int) == 58124007) = true := by rw [sum_nine]; rfl

theorem onesI : ((ones.toNat : Int) == 4294967295) = true := rfl
theorem thenB {w w1 w2 : World} (h : Below w.heap.size w w1) (k : Below w1.heap.size w1 w2) : Below w.heap.size w w2 := h.trans (k.mono h.size)
theorem allocB {w w1 : World} (h : Below w.heap.size w w1) (o : Obj) : Below w.heap.size w (w1.alloc o) := h.alloc h.size o

set_option maxRecDepth 100000 in
set_option maxHeartbeats 400000 in
theorem awake_any (w : World) :
    Calls Try.prog 8 #[] w fun e w' => e = .returned (.bool true) ∧ Below w.heap.size w w' := by
  have hn := sum_nineI
  have ho := onesI
  go_enter Try.func8, Try.ntmps8
  go_wp2_with (first | (go_at_call 14; refine (open_short _ (by decide) _).mono ?_; rintro e w1 ⟨rfl, rfl⟩) | (go_at_call_of 11 (Value.slice none 0 0); refine (sum_none _).mono ?_; rintro e w1 ⟨rfl, hb2⟩) | (go_at_call 11; refine (sum_any w.heap.size 0 2 [_, _] _ (two_size _ _ (by decide) (by decide)) (two_len _ _) (two_at w _ _) (by simp)).mono ?_; rintro e w1 ⟨rfl, hb1⟩))
  go_ret
  refine ⟨rfl, ?_⟩
  repeat (first | exact Below.refl _ _ | (refine thenB ?_ (by assumption)) | refine allocB ?_ _)
end Go.Proofs.Ythbjgjeehmcdeaa
