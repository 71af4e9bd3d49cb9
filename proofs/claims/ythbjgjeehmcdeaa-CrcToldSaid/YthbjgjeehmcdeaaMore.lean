/-
  The walks of crc.more, crc.Sum, crc.More and of the document's Sum: each is the register behind the bytes of its parts, in new memory alone.
-/
import Derived.Test.YthbjgjeehmcdeaaLeaf
namespace Go.Proofs.Ythbjgjeehmcdeaa
open Go.RowKit

def moreAll (x : BitVec 32) (ss : List ByteArray) : BitVec 32 := ss.foldl (fun x s => more x s.data.toList) x

theorem bcell {w W1 : World} {B : Nat} (hb : Below B w W1) : ∀ b o, b < B → W1.cell? ⟨b, o, none⟩ = w.cell? ⟨b, o, none⟩ :=
  fun b o h => hb.cell (p := ⟨b, o, none⟩) h

theorem laid_tab (w w1 : World) (hb : Below w.heap.size w w1) :
    ∃ W, W = (w1.alloc (.cells zrow 25)).setRow w1.heap.size (tab 256) ∧ W.heap[w1.heap.size]? = some (.cells (tab 256) 25 (0, 0)) ∧ Below w.heap.size w W :=
  ⟨_, rfl, setRow_heap _ _ _ _ _ _ (heap_alloc_new _ _), below_setRow (hb.alloc hb.size _) hb.size _⟩

theorem u8_top (x : BitVec 32) (b : UInt8) : bits BinOp.xor IntKind.u8 ((x.toNat : Int) / (16777216 : Int)) (b.toNat : Int) = (((by3 x).toNat ^^^ b.toNat : Nat) : Int) := by
  have h := x.isLt
  have e : (x.toNat : Int) / (16777216 : Int) = (((by3 x).toNat : Nat) : Int) := by
    unfold by3
    rw [UInt8.toNat_ofNat']
    omega
  rw [e, u8_xor_nat _ _ (by3 x).toNat_lt b.toNat_lt]

theorem step_val (x : BitVec 32) (b : UInt8) (n : Nat) (hn : n = (by3 x).toNat ^^^ b.toNat) : bits BinOp.xor IntKind.u32 ((x.toNat : Int) * (256 : Int) % (4294967296 : Int)) ((row n).toNat : Int) = ((step x b).toNat : Int) := by
  have e : (x.toNat : Int) * (256 : Int) % (4294967296 : Int) = ((x <<< 8).toNat : Int) := by
    rw [BitVec.toNat_shiftLeft, Nat.shiftLeft_eq]; omega
  rw [e, u32_xor_bv, step_row, hn]

set_option maxRecDepth 100000 in
set_option maxHeartbeats 800000 in
theorem more_any (x : BitVec 32) (b off c : Nat) (ss : List ByteArray) (w : World) (hz : ∀ i (h : i < ss.length), ss[i].size ≤ maxLen) (hl : ss.length ≤ maxLen)
    (hc : ∀ i (h : i < ss.length), w.cell? ⟨b, off + i, none⟩ = some (.string ss[i])) (hb0 : b < w.heap.size) :
    Calls Try.prog 18 #[U x, .slice (some ⟨b, off, none⟩) ss.length c] w fun e w' => e = .returned (U (moreAll x ss)) ∧ Below w.heap.size w w' := by
  unfold maxLen at hl
  have z := zero25
  go_enter Try.func18, Try.ntmps18
  go_wp2_with (first | (go_at_call 9; refine (rows_any _).mono ?_; rintro e w1 ⟨rfl, hb1⟩) | (refine wpList_store_row rfl 25 _ _ rfl _ (tab 256) rfl rfl 25 zrow (heap_alloc_new _ _) (by rw [tab_size]; exact Try.info25) (by rw [tab_size]; exact zrow_size) (tab_one 256) ?_))
  clear z
  obtain ⟨W, hW, hT, hB⟩ := laid_tab w w1 hb1
  rw [← hW]
  have hcW : ∀ i (h : i < ss.length), W.cell? ⟨b, off + i, none⟩ = some (.string ss[i]) := fun i h => by rw [bcell hB _ _ hb0]; exact hc i h
  clear hW hc hb1
  go_loop [0, 12] (fun r i => ∃ k : Nat, k ≤ ss.length ∧ i = .int .i64 k ∧ r = U (moreAll x (ss.take k))) (fun _ i => ss.length - (intOf i).toNat)
  case atStart => exact ⟨0, by omega, rfl, rfl⟩
  case round =>
    obtain ⟨k, hk, rfl, rfl⟩ := hrel
    by_cases hlt : k < ss.length
    · have hck := hcW k hlt
      have hzk := hz k hlt
      have hsn : moreAll x (ss.take (k + 1)) = more (moreAll x (ss.take k)) ss[k].data.toList := by
        unfold moreAll
        rw [List.take_succ_eq_append_getElem hlt, List.foldl_append]; rfl
      have HS := Lib.hid hsn
      clear hcW hz hsn
      generalize ss[k] = s at hck hzk HS
      generalize moreAll x (ss.take k) = y at HS
      unfold maxLen at hzk
      go_wp2
      go_loop [0, 18] (fun r i => ∃ j : Nat, j ≤ s.size ∧ i = .int .i64 j ∧ r = U (more y (s.data.toList.take j))) (fun _ i => s.size - (intOf i).toNat)
      case atStart => exact ⟨0, by omega, rfl, rfl⟩
      case round =>
        obtain ⟨j, hj, rfl, rfl⟩ := hrel
        by_cases hlt2 : j < s.size
        · have hsn : more y (s.data.toList.take (j + 1)) = step (more y (s.data.toList.take j)) s[j] := by
            rw [List.take_succ_eq_append_getElem (by simpa using hlt2), more_append]; rfl
          have HS2 := Lib.hid hsn
          clear hsn
          generalize more y (s.data.toList.take j) = u at HS2
          have hu := u.isLt
          have hb := s[j].toNat_lt
          have hx := u8_top u s[j]
          obtain ⟨n, hn⟩ : ∃ n, n = (by3 u).toNat ^^^ s[j].toNat := ⟨_, rfl⟩
          have hn2 : n < 256 := by rw [hn]; exact Nat.xor_lt_two_pow (n := 8) (by3 u).toNat_lt s[j].toNat_lt
          have HV := Lib.hid (step_val u s[j] n hn)
          rw [← hn] at hx
          clear hn
          have hcell : W.cell? ⟨w1.heap.size, n, none⟩ = some (U (row n)) := by rw [cell_of_row W _ _ _ _ _ hT, tab_get n hn2]
          go_wp2
          go_round
          case rel => exact ⟨j + 1, by omega, by go_num, by rw [HS2.out]; exact U_eq HV.out⟩
          case measure => simp [intOf]; omega
        · obtain rfl : j = s.size := by omega
          go_wp2
          go_round
          case rel => exact ⟨k + 1, by omega, by go_num, by rw [HS.out, List.take_of_length_le (by simp)]⟩
          case measure => simp [intOf]; omega
    · obtain rfl : k = ss.length := by omega
      go_wp2
      go_ret
      exact ⟨rfl, hB⟩

set_option maxRecDepth 100000 in
set_option maxHeartbeats 800000 in
theorem more_zero (x : BitVec 32) (a : Option Addr) (c : Nat) (w : World) :
    Calls Try.prog 18 #[U x, .slice a 0 c] w fun e w' => e = .returned (U x) ∧ Below w.heap.size w w' := by
  have z := zero25
  go_enter Try.func18, Try.ntmps18
  go_wp2_with (first | (go_at_call 9; refine (rows_any _).mono ?_; rintro e w1 ⟨rfl, hb1⟩) | (refine wpList_store_row rfl 25 _ _ rfl _ (tab 256) rfl rfl 25 zrow (heap_alloc_new _ _) (by rw [tab_size]; exact Try.info25) (by rw [tab_size]; exact zrow_size) (tab_one 256) ?_))
  clear z
  obtain ⟨W, hW, hT, hB⟩ := laid_tab w w1 hb1
  rw [← hW]
  clear hW hb1 hT
  go_loop [0, 12] (fun r i => r = U x ∧ i = .int .i64 0) (fun _ _ => 0)
  case atStart => exact ⟨rfl, rfl⟩
  case round =>
    obtain ⟨rfl, rfl⟩ := hrel
    go_wp2
    go_ret
    exact ⟨rfl, hB⟩

set_option maxRecDepth 100000 in
set_option maxHeartbeats 800000 in
theorem sum_any (b off c : Nat) (ss : List ByteArray) (w : World) (hz : ∀ i (h : i < ss.length), ss[i].size ≤ maxLen) (hl : ss.length ≤ maxLen)
    (hc : ∀ i (h : i < ss.length), w.cell? ⟨b, off + i, none⟩ = some (.string ss[i])) (hb0 : b < w.heap.size) :
    Calls Try.prog 11 #[.slice (some ⟨b, off, none⟩) ss.length c] w fun e w' => e = .returned (U (moreAll ones ss)) ∧ Below w.heap.size w w' := by
  go_enter Try.func11, Try.ntmps11
  go_wp2_with (go_at_call 18; refine (more_any ones b off c ss _ hz hl hc hb0).mono ?_; rintro e w1 ⟨rfl, hb1⟩)
  go_ret
  exact ⟨rfl, hb1⟩

theorem sum_zero (a : Option Addr) (c : Nat) (w : World) :
    Calls Try.prog 11 #[.slice a 0 c] w fun e w' => e = .returned (U ones) ∧ Below w.heap.size w w' := by
  go_enter Try.func11, Try.ntmps11
  go_wp2_with (go_at_call 18; refine (more_zero ones _ _ _).mono ?_; rintro e w1 ⟨rfl, hb1⟩)
  go_ret
  exact ⟨rfl, hb1⟩

theorem sum_none (w : World) :
    Calls Try.prog 11 #[.slice none 0 0] w fun e w' => e = .returned (U ones) ∧ Below w.heap.size w w' := sum_zero none 0 w

theorem one_at (w : World) (s : ByteArray) : ∀ i (h : i < [s].length), (w.alloc (.cells #[.string s] 9)).cell? ⟨w.heap.size, 0 + i, none⟩ = some (.string [s][i]) := by
  intro i h
  obtain rfl : i = 0 := by simp at h; omega
  exact (cell_of_row _ _ _ _ _ _ (heap_alloc_new w _))

theorem one_len (s : ByteArray) : [s].length ≤ maxLen := by unfold maxLen; simp
theorem one_size (s : ByteArray) (hs : s.size ≤ maxLen) : ∀ i (h : i < [s].length), [s][i].size ≤ maxLen := by
  intro i h
  obtain rfl : i = 0 := by simp at h; omega
  exact hs

set_option maxHeartbeats 400000 in
theorem crcMore (x : BitVec 32) (s : ByteArray) (hs : s.size ≤ maxLen) (w : World) :
    Calls Try.prog 13 #[U x, .string s] w fun e w' => e = .returned (U (more x s.data.toList)) ∧ Below w.heap.size w w' := by
  go_enter Try.func13, Try.ntmps13
  go_wp2_with (go_at_call 18; refine (more_any x w.heap.size 0 1 [s] _ (one_size s hs) (one_len s) (one_at w s) (by simp)).mono ?_; rintro e w1 ⟨rfl, hb1⟩)
  go_ret
  exact ⟨rfl, ((Below.refl _ _).alloc (Nat.le_refl _) _).trans (hb1.mono (by simp))⟩

theorem refSum (s : ByteArray) (hs : s.size ≤ maxLen) (w : World) :
    Calls Try.prog 12 #[.string s] w fun e w' => e = .returned (U (sum s.data.toList)) ∧ w = w' := by
  go_enter Try.func12, Try.ntmps12
  go_wp2_with (go_at_call 10; refine (refMore ones s hs _).mono ?_; rintro e w1 ⟨rfl, rfl⟩)
  go_ret
  exact ⟨rfl, rfl⟩
end Go.Proofs.Ythbjgjeehmcdeaa
