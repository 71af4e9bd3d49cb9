/-
  The walk of CrcXors: the register behind two texts of one length, xor-ed, is both registers, xor-ed.
-/
import Derived.Test.YthbjgjeehmcdeaaBytes
import Derived.Test.YthbjgjeehmcdeaaShape
import Derived.Deep.RegionHeld3
namespace Go.Proofs.Ythbjgjeehmcdeaa
open Go.RowKit

def xl (s t : ByteArray) (n : Nat) : List UInt8 := List.zipWith (· ^^^ ·) (s.data.toList.take n) (t.data.toList.take n)
theorem xl_len (s t : ByteArray) (n : Nat) (hs : n ≤ s.size) (ht : n ≤ t.size) : (xl s t n).length = n := by
  have h1 : s.data.toList.length = s.size := by simp
  have h2 : t.data.toList.length = t.size := by simp
  rw [xl, List.length_zipWith, List.length_take, List.length_take]; omega
theorem xl_get (s t : ByteArray) (n k : Nat) (hk : k < n) (h1 : k < s.size) (h2 : k < t.size) (h : k < (xl s t n).length) : (xl s t n)[k] = s[k] ^^^ t[k] := by
  have e : (xl s t n)[k]? = some (s[k] ^^^ t[k]) := by
    unfold xl
    rw [List.getElem?_zipWith, List.getElem?_take, List.getElem?_take, if_pos hk, if_pos hk, List.getElem?_eq_getElem (by simpa using h1), List.getElem?_eq_getElem (by simpa using h2)]
    rfl
  rw [List.getElem?_eq_getElem h] at e
  exact Option.some.inj e
theorem xl_val (s t : ByteArray) (n k : Nat) (hk : k < n) (h1 : k < s.size) (h2 : k < t.size) (h : k < (xl s t n).length) :
    bits BinOp.xor IntKind.u8 (s[k].toNat : Int) (t[k].toNat : Int) = ((xl s t n)[k].toNat : Int) := by
  rw [xl_get s t n k hk h1 h2 h, u8_xor_nat _ _ s[k].toNat_lt t[k].toNat_lt, UInt8.toNat_xor]
theorem cut_list (s : ByteArray) (n : Nat) : (s.extract 0 n).data.toList = s.data.toList.take n := extract_list s n
theorem xors_eq_s (s t : ByteArray) (ht : s.size ≤ t.size) (x y : BitVec 32) :
    bits BinOp.xor IntKind.u32 ((more x s.data.toList).toNat : Int) ((more y (List.take s.size t.data.toList)).toNat : Int) = ((more (x ^^^ y) (bytesOf (xl s t s.size)).data.toList).toNat : Int) := by
  have h1 : s.data.toList.length = s.size := by simp
  have h2 : t.data.toList.length = t.size := by simp
  rw [u32_xor_bv, bytesOf_list]
  unfold xl
  rw [more_xor _ _ _ _ (by rw [List.length_take, List.length_take]; omega), List.take_of_length_le (by omega : s.data.toList.length ≤ s.size)]
theorem xors_eq_t (s t : ByteArray) (ht : t.size ≤ s.size) (x y : BitVec 32) :
    bits BinOp.xor IntKind.u32 ((more x (List.take t.size s.data.toList)).toNat : Int) ((more y t.data.toList).toNat : Int) = ((more (x ^^^ y) (bytesOf (xl s t t.size)).data.toList).toNat : Int) := by
  have h1 : s.data.toList.length = s.size := by simp
  have h2 : t.data.toList.length = t.size := by simp
  rw [u32_xor_bv, bytesOf_list]
  unfold xl
  rw [more_xor _ _ _ _ (by rw [List.length_take, List.length_take]; omega), List.take_of_length_le (by omega : t.data.toList.length ≤ t.size)]
/-- Block g holds just these cells. -/
def RowAt (W : World) (g : Nat) (cs : Array Value) (e : TypeId) : Prop := W.heap[g]? = some (.cells cs e (0, 0))
theorem xs_start {W : World} {g e : Nat} {cs : Array Value} {p q : Addr} {u v : Value} (h0 : W.cell? p = some u) (h1 : W.cell? q = some v) (h2 : RowAt W g cs e) : W.drew.cell? p = some u ∧ W.drew.cell? q = some v ∧ RowAt W.drew g cs e := ⟨h0, h1, h2⟩
theorem RowAt.lt {W : World} {g e : Nat} {cs : Array Value} (h : RowAt W g cs e) : g < W.heap.size := by
  by_cases hlt : g < W.heap.size
  · exact hlt
  · unfold RowAt at h
    rw [Array.getElem?_eq_none (by omega)] at h
    exact absurd h (by simp)
theorem RowAt.later {W W2 : World} {g e : Nat} {cs : Array Value} (h : RowAt W g cs e) (hb : Below W.heap.size W W2) : RowAt W2 g cs e := (hb.block g h.lt).trans h
theorem xs_later {W W2 : World} {g e : Nat} {cs : Array Value} {p q : Addr} {u v : Value} (hb : Below W.heap.size W W2) (h : W.cell? p = some u ∧ W.cell? q = some v ∧ RowAt W g cs e) : W2.cell? p = some u ∧ W2.cell? q = some v ∧ RowAt W2 g cs e :=
  ⟨(hb.cell (block_lt_of_cell h.1)).trans h.1, (hb.cell (block_lt_of_cell h.2.1)).trans h.2.1, h.2.2.later hb⟩
theorem Q8_eq {a b : Int} (h : a = b) : Value.int .u8 a = .int .u8 b := by rw [h]

set_option maxRecDepth 100000 in
set_option maxHeartbeats 1600000 in
theorem xors_s (w : World) (s t : ByteArray) (hs : s.size ≤ maxLen) (ht : t.size ≤ maxLen) (x y : BitVec 32) (hst : s.size ≤ t.size) :
    Calls Try.prog 4 #[.string s, .string t, .agg #[U x, U y]] w fun e w' => e = .returned (.bool true) ∧ Below w.heap.size w w' := by
  unfold maxLen at hs ht
  by_cases h6 : 600 < s.size
  · go_enter Try.func4, Try.ntmps4
    go_wp2_with (go_at_call 8; refine (awake_any _).mono ?_; rintro e w1 ⟨rfl, hb1⟩)
    go_ret
    refine ⟨rfl, ?_⟩
    repeat (first | exact Below.refl _ _ | assumption | (refine thenB ?_ (by assumption)) | refine allocB ?_ _)
  · have hmk := run_make_row' (P := Try.prog) 32 5 (.int .u8 0) 1 Try.underlying32 Try.info5 rfl .i64 .i64 s.size (by omega) (by omega)
    go_enter Try.func4, Try.ntmps4
    go_wp2_with fail
    clear hmk
    go_loopw [9] (fun i wr => ∃ k : Nat, k ≤ s.size ∧ i = .int .i64 k ∧ wr.heap[w.heap.size]? = some (.cells #[U x, U y] 31 (0, 0)) ∧ wr.heap[w.heap.size + 1]? = some (.cells (part (xl s t s.size) k) 5 (0, 0)) ∧ Below w.heap.size w wr) (fun i _ => s.size - (intOf i).toNat)
    case atStart => exact ⟨0, by omega, rfl, heap_alloc2_old w _ _, by rw [part_zero, xl_len s t s.size (by omega) (by omega)]; exact heap_alloc2_new w _ _, allocB (allocB (Below.refl _ _) _) _⟩
    case round =>
      obtain ⟨k, hk, rfl, hX, hP, hB⟩ := hrel
      by_cases hlt : k < s.size
      · have hkl : k < (xl s t s.size).length := by rw [xl_len s t s.size (by omega) (by omega)]; exact hlt
        have hcell := part_cell hP hkl
        rw [if_neg (by omega)] at hcell
        have hfr : wr.frozen? ⟨w.heap.size + 1, k, none⟩ = false := frozen_of_row wr _ _ _ _ hP
        have HV := Lib.hid (xl_val s t s.size k hlt (by omega) (by omega) hkl)
        have HX := Lib.hid hX
        have HP := Lib.hid hP
        have i0 : (0 : Int) ≤ (k : Int) := Int.natCast_nonneg _
        have i1 : (k : Int) < (s.size : Int) := by omega
        have i2 : (k : Int) < (t.size : Int) := by omega
        clear hX hP
        go_wp2_with fail
        go_region
        go_wp2_with fail
        go_roundw
        case rel => exact ⟨k + 1, by omega, by go_num, (heap_setCell_other _ _ _ _ (by simp)).trans HX.out, (heap_setCell_same _ _ _ _ _ _ HP.out).trans (by rw [HV.out]; exact congrArg _ (congrArg (Obj.cells · 5 (0, 0)) (part_succ _ _ hkl))), (hB.setCell (by simp) _).drew⟩
        case measure => simp [intOf]; omega
      · obtain rfl : k = s.size := by omega
        have hlen := xl_len s t s.size (by omega) (by omega)
        have hc0 : wr.cell? ⟨w.heap.size, 0, none⟩ = some (U x) := by rw [cell_of_row wr _ _ _ _ _ hX]; rfl
        have hc1 : wr.cell? ⟨w.heap.size, 1, none⟩ = some (U y) := by rw [cell_of_row wr _ _ _ _ _ hX]; rfl
        have hP' : RowAt wr (w.heap.size + 1) (part (xl s t s.size) s.size) 5 := hP
        have hz0 : (bytesOf (xl s t s.size)).size ≤ maxLen := by rw [bytesOf_size, hlen]; unfold maxLen; omega
        have hz1 : (s.extract 0 s.size).size ≤ maxLen := by rw [ByteArray.size_extract]; unfold maxLen; omega
        have hz2 : (t.extract 0 s.size).size ≤ maxLen := by rw [ByteArray.size_extract]; unfold maxLen; omega
        have hkc : ∀ W : World, RowAt W (w.heap.size + 1) (part (xl s t s.size) s.size) 5 → (convert 32 9 (.slice (some ⟨w.heap.size + 1, 0, none⟩) s.size s.size)).run Try.prog W = .ok (.string (bytesOf (xl s t s.size))) W := fun W h => part_conv' hlen h
        clear hlen
        have hxy := u32_xor_bv x y
        have hes := xors_eq_s s t (by omega) x y
        obtain ⟨z, hz⟩ : ∃ z, z = x ^^^ y := ⟨_, rfl⟩
        rw [← hz] at hxy hes
        have hle1 : s.size ≤ s.size := by omega
        have hle2 : s.size ≤ t.size := by omega
        clear hX hP hz
        go_wp2_with fail
        go_region_held3 (fun W => W.cell? ⟨w.heap.size, 0, none⟩ = some (U x) ∧ W.cell? ⟨w.heap.size, 1, none⟩ = some (U y) ∧ RowAt W (w.heap.size + 1) (part (xl s t s.size) s.size) 5) (first | (with_reducible exact xs_start hc0 hc1 hP') | (with_reducible assumption) | (with_reducible exact xs_later (by assumption) (by assumption)) | (trace_state; fail))
          (first | (go_at_call 13; refine (crcMore _ _ (by assumption) _).mono ?_; rintro e w2 ⟨rfl, hb2⟩) | (go_at_call 8; refine (awake_any _).mono ?_; rintro e w2 ⟨rfl, hb2⟩))
        go_wp2_with fail
        go_ret
        refine ⟨rfl, ?_⟩
        repeat (first | exact Below.refl _ _ | assumption | (refine thenB ?_ (by assumption)) | refine allocB ?_ _ | refine Below.drew ?_)

set_option maxRecDepth 100000 in
set_option maxHeartbeats 1600000 in
theorem xors_t (w : World) (s t : ByteArray) (hs : s.size ≤ maxLen) (ht : t.size ≤ maxLen) (x y : BitVec 32) (hst : t.size < s.size) :
    Calls Try.prog 4 #[.string s, .string t, .agg #[U x, U y]] w fun e w' => e = .returned (.bool true) ∧ Below w.heap.size w w' := by
  unfold maxLen at hs ht
  by_cases h6 : 600 < t.size
  · go_enter Try.func4, Try.ntmps4
    go_wp2_with (go_at_call 8; refine (awake_any _).mono ?_; rintro e w1 ⟨rfl, hb1⟩)
    go_ret
    refine ⟨rfl, ?_⟩
    repeat (first | exact Below.refl _ _ | assumption | (refine thenB ?_ (by assumption)) | refine allocB ?_ _)
  · have hmk := run_make_row' (P := Try.prog) 32 5 (.int .u8 0) 1 Try.underlying32 Try.info5 rfl .i64 .i64 t.size (by omega) (by omega)
    go_enter Try.func4, Try.ntmps4
    go_wp2_with fail
    clear hmk
    go_loopw [9] (fun i wr => ∃ k : Nat, k ≤ t.size ∧ i = .int .i64 k ∧ wr.heap[w.heap.size]? = some (.cells #[U x, U y] 31 (0, 0)) ∧ wr.heap[w.heap.size + 1]? = some (.cells (part (xl s t t.size) k) 5 (0, 0)) ∧ Below w.heap.size w wr) (fun i _ => t.size - (intOf i).toNat)
    case atStart => exact ⟨0, by omega, rfl, heap_alloc2_old w _ _, by rw [part_zero, xl_len s t t.size (by omega) (by omega)]; exact heap_alloc2_new w _ _, allocB (allocB (Below.refl _ _) _) _⟩
    case round =>
      obtain ⟨k, hk, rfl, hX, hP, hB⟩ := hrel
      by_cases hlt : k < t.size
      · have hkl : k < (xl s t t.size).length := by rw [xl_len s t t.size (by omega) (by omega)]; exact hlt
        have hcell := part_cell hP hkl
        rw [if_neg (by omega)] at hcell
        have hfr : wr.frozen? ⟨w.heap.size + 1, k, none⟩ = false := frozen_of_row wr _ _ _ _ hP
        have HV := Lib.hid (xl_val s t t.size k hlt (by omega) (by omega) hkl)
        have HX := Lib.hid hX
        have HP := Lib.hid hP
        have i0 : (0 : Int) ≤ (k : Int) := Int.natCast_nonneg _
        have i1 : (k : Int) < (s.size : Int) := by omega
        have i2 : (k : Int) < (t.size : Int) := by omega
        clear hX hP
        go_wp2_with fail
        go_region
        go_wp2_with fail
        go_roundw
        case rel => exact ⟨k + 1, by omega, by go_num, (heap_setCell_other _ _ _ _ (by simp)).trans HX.out, (heap_setCell_same _ _ _ _ _ _ HP.out).trans (by rw [HV.out]; exact congrArg _ (congrArg (Obj.cells · 5 (0, 0)) (part_succ _ _ hkl))), (hB.setCell (by simp) _).drew⟩
        case measure => simp [intOf]; omega
      · obtain rfl : k = t.size := by omega
        have hlen := xl_len s t t.size (by omega) (by omega)
        have hc0 : wr.cell? ⟨w.heap.size, 0, none⟩ = some (U x) := by rw [cell_of_row wr _ _ _ _ _ hX]; rfl
        have hc1 : wr.cell? ⟨w.heap.size, 1, none⟩ = some (U y) := by rw [cell_of_row wr _ _ _ _ _ hX]; rfl
        have hP' : RowAt wr (w.heap.size + 1) (part (xl s t t.size) t.size) 5 := hP
        have hz0 : (bytesOf (xl s t t.size)).size ≤ maxLen := by rw [bytesOf_size, hlen]; unfold maxLen; omega
        have hz1 : (s.extract 0 t.size).size ≤ maxLen := by rw [ByteArray.size_extract]; unfold maxLen; omega
        have hz2 : (t.extract 0 t.size).size ≤ maxLen := by rw [ByteArray.size_extract]; unfold maxLen; omega
        have hkc : ∀ W : World, RowAt W (w.heap.size + 1) (part (xl s t t.size) t.size) 5 → (convert 32 9 (.slice (some ⟨w.heap.size + 1, 0, none⟩) t.size t.size)).run Try.prog W = .ok (.string (bytesOf (xl s t t.size))) W := fun W h => part_conv' hlen h
        clear hlen
        have hxy := u32_xor_bv x y
        have hes := xors_eq_t s t (by omega) x y
        obtain ⟨z, hz⟩ : ∃ z, z = x ^^^ y := ⟨_, rfl⟩
        rw [← hz] at hxy hes
        have hle1 : t.size ≤ s.size := by omega
        have hle2 : t.size ≤ t.size := by omega
        clear hX hP hz
        go_wp2_with fail
        go_region_held3 (fun W => W.cell? ⟨w.heap.size, 0, none⟩ = some (U x) ∧ W.cell? ⟨w.heap.size, 1, none⟩ = some (U y) ∧ RowAt W (w.heap.size + 1) (part (xl s t t.size) t.size) 5) (first | (with_reducible exact xs_start hc0 hc1 hP') | (with_reducible assumption) | (with_reducible exact xs_later (by assumption) (by assumption)) | (trace_state; fail))
          (first | (go_at_call 13; refine (crcMore _ _ (by assumption) _).mono ?_; rintro e w2 ⟨rfl, hb2⟩) | (go_at_call 8; refine (awake_any _).mono ?_; rintro e w2 ⟨rfl, hb2⟩))
        go_wp2_with fail
        go_ret
        refine ⟨rfl, ?_⟩
        repeat (first | exact Below.refl _ _ | assumption | (refine thenB ?_ (by assumption)) | refine allocB ?_ _ | refine Below.drew ?_)

theorem Try.cells31 : Try.prog.cellsOf 31 = 2 := by kernel_rfl
theorem Try.cells23 : Try.prog.cellsOf 23 = 1 := by kernel_rfl
theorem xors_all (w : World) (s : ByteArray) (hs : s.size ≤ maxLen) (t : ByteArray) (ht : t.size ≤ maxLen) (v : Value) (hv : ∃ x y : Int, v = .agg #[.int .u32 x, .int .u32 y] ∧ (Lit.int .u32 x).wf = true ∧ (Lit.int .u32 y).wf = true) :
    Calls Try.prog 4 #[.string s, .string t, v] w fun e w' => e = .returned (.bool true) ∧ Below w.heap.size w w' := by
  obtain ⟨x, y, rfl, hx, hy⟩ := hv
  obtain ⟨x, rfl⟩ := reg_is hx
  obtain ⟨y, rfl⟩ := reg_is hy
  by_cases h : s.size ≤ t.size
  · exact xors_s w s t hs ht x y h
  · exact xors_t w s t hs ht x y (by omega)
end Go.Proofs.Ythbjgjeehmcdeaa
