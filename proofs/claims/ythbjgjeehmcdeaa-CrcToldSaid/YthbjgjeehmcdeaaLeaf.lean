/-
  The walks of the leaves: crc.Rows lays the table whose row n is the register behind a byte 0; the document's More is the register bit by bit.
-/
import Derived.Test.YthbjgjeehmcdeaaRows
import Derived.Test.YthbjgjeehmcdeaaPlain
import Derived.WalkKit
import Derived.WalkSpells
import Derived.WalkLawsBesides
import Derived.Lib.Hide
namespace Go.Proofs.Ythbjgjeehmcdeaa
open Go.RowKit

/-- A 32-bit register as a value. -/
abbrev U (x : BitVec 32) : Value := .int .u32 (x.toNat : Int)

def zrow : Array Value := Array.replicate 256 (.int .u32 0)
theorem zero25 (w : World) : (zeroValue 25).run Try.prog w = .ok (.agg zrow) w := by kernel_rfl
/-- The table, its first k rows laid. -/
def tab (k : Nat) : Array Value := Array.ofFn fun i : Fin 256 => if i.val < k then U (row i.val) else .int .u32 0
theorem tab_zero : tab 0 = zrow := by
  apply Array.ext
  · simp [tab, zrow]
  · intro i h1 h2
    simp [tab, zrow]
theorem tab_size (k : Nat) : (tab k).size = 256 := by simp [tab]
theorem tab_get? (k i : Nat) : (tab k)[i]? = if i < 256 then some (if i < k then U (row i) else .int .u32 0) else none := by
  by_cases h : i < 256
  · rw [Array.getElem?_eq_getElem (by simpa [tab] using h)]
    simp [tab, h]
  · rw [Array.getElem?_eq_none (by rw [tab_size]; omega), if_neg h]
theorem tab_succ (k : Nat) (h : k < 256) : (tab k).setIfInBounds k (U (row k)) = tab (k + 1) := by
  apply Array.ext_getElem?
  intro i
  rw [Array.getElem?_setIfInBounds, tab_get?, tab_get?, tab_size]
  by_cases e : k = i
  · subst e; simp [h]
  · by_cases l : i < k
    · simp [e, l, show i < k + 1 by omega]
    · simp [e, l, show ¬ i < k + 1 by omega]
theorem tab_get (n : Nat) (h : n < 256) : (tab 256)[n]? = some (U (row n)) := by
  rw [tab_get?, if_pos h, if_pos h]

def inC (w : World) (B k : Nat) : Prop := w.heap[B]? = some (.cells zrow 25 (0, 0)) ∧ w.heap[B + 1]? = some (.cells (tab k) 25 (0, 0))

theorem u32_msb (x : BitVec 32) : (bits BinOp.and IntKind.u32 (x.toNat : Int) 2147483648 != 0) = x.msb := by
  have := u32_and_nat x.toNat 2147483648 x.isLt (by decide)
  rw [show (2147483648 : Int) = ((2147483648 : Nat) : Int) from rfl, this]
  rw [show (2147483648 : Nat) = 2 ^ 31 from rfl, nat_bit]
  have hx := x.isLt
  rw [BitVec.msb_eq_decide]
  by_cases h : 2 ^ 31 ≤ x.toNat
  · have : x.toNat / 2 ^ 31 = 1 := by omega
    simp [this]; omega
  · have : x.toNat / 2 ^ 31 = 0 := by omega
    simp [this]; omega

theorem u32_shl1 (x : BitVec 32) : (x.toNat : Int) * (2 : Int) % (4294967296 : Int) = ((x <<< 1).toNat : Int) := by
  rw [BitVec.toNat_shiftLeft, Nat.shiftLeft_eq]; omega
theorem u32_xor_bv (x y : BitVec 32) : bits BinOp.xor IntKind.u32 (x.toNat : Int) (y.toNat : Int) = ((x ^^^ y).toNat : Int) := by
  rw [u32_xor_nat _ _ x.isLt y.isLt, BitVec.toNat_xor]
theorem zs_pos (x : BitVec 32) (h : x.msb = true) : bits BinOp.xor IntKind.u32 ((x.toNat : Int) * (2 : Int) % (4294967296 : Int)) 79764919 = ((zs x).toNat : Int) := by
  rw [u32_shl1, show (79764919 : Int) = ((0x04c11db7#32).toNat : Int) from rfl, u32_xor_bv]
  unfold zs; rw [if_pos h]
theorem zs_neg (x : BitVec 32) (h : x.msb = false) : (x.toNat : Int) * (2 : Int) % (4294967296 : Int) = ((zs x).toNat : Int) := by
  rw [u32_shl1]
  unfold zs; rw [h]; simp
theorem shl24 (k : Nat) (h : k < 256) : (k : Int) * 16777216 = ((zn 0 (BitVec.ofNat 32 k <<< 24)).toNat : Int) := by
  rw [zn_zero, BitVec.toNat_shiftLeft, Nat.shiftLeft_eq, BitVec.toNat_ofNat]; omega

theorem inC_start (w : World) : inC ((w.alloc (.cells zrow 25)).alloc (.cells zrow 25)) w.heap.size 0 :=
  ⟨heap_alloc2_old w _ _, by rw [tab_zero]; exact heap_alloc2_new w _ _⟩
theorem inC_step {w : World} {B k : Nat} (h : inC w B k) (hk : k < 256) : inC (w.setCell ⟨B + 1, k, none⟩ (U (row k))) B (k + 1) :=
  ⟨by rw [heap_setCell_other _ _ _ _ (by simp)]; exact h.1, by rw [heap_setCell_same _ _ _ _ _ _ h.2, tab_succ k hk]⟩
theorem inC_cell {w : World} {B k : Nat} (h : inC w B k) (hk : k < 256) : w.cell? ⟨B + 1, k, none⟩ = some (.int .u32 0) := by
  rw [cell_of_row w _ _ _ _ _ h.2, tab_get?]; simp [hk]
theorem inC_free {w : World} {B k : Nat} (h : inC w B k) : w.frozen? ⟨B + 1, k, none⟩ = false := frozen_of_row w _ _ _ _ h.2
theorem tab_one (k : Nat) : (tab k).all (·.oneCell') = true := by
  rw [Array.all_eq_true]
  intro i hi
  have hi' : i < 256 := by rwa [tab_size] at hi
  have := tab_get? k i
  rw [Array.getElem?_eq_getElem hi, if_pos hi'] at this
  rw [Option.some.inj this]
  split <;> rfl
theorem zrow_size : zrow.size = 256 := by simp [zrow]
theorem Try.info25 : (Try.prog.info? 25).map (·.size) = some 256 := by kernel_rfl
theorem rowsRes (tmps : Array Value) (w : World) (g : Nat) (hp : tmps.getD 0 undef = .pointer (some ⟨g, 0, none⟩)) (hg : w.heap[g]? = some (.cells (tab 256) 25 (0, 0))) :
    (results Try.f9 tmps).run Try.prog w = .ok (.agg (tab 256)) w :=
  results_cell_row Try.results9 tmps w g 25 (tab 256) (0, 0) _ hp hg Try.underlying25 rfl (by rw [tab_size]; exact Try.info25)

theorem below_setRow {B : Nat} {a w : World} (h : Below B a w) {g : Nat} (hg : B ≤ g) (cs : Array Value) : Below B a (w.setRow g cs) :=
  h.trans ⟨rfl, rfl, rfl, by simp, fun k hk => setRow_other w g k cs (by omega)⟩

theorem U_eq {a b : Int} (h : a = b) : Value.int .u32 a = .int .u32 b := by rw [h]

set_option maxRecDepth 100000 in
set_option maxHeartbeats 400000 in
theorem rows_any (w : World) :
    Calls Try.prog 9 #[] w fun e w' => e = .returned (.agg (tab 256)) ∧ Below w.heap.size w w' := by
  have z := zero25
  go_enter Try.func9, Try.ntmps9
  go_wp2
  clear z
  go_loopw [5] (fun i wr => ∃ k : Nat, k ≤ 256 ∧ i = .int .i64 k ∧ inC wr w.heap.size k ∧ Below w.heap.size w wr) (fun i _ => 256 - (intOf i).toNat)
  case atStart => exact ⟨0, by omega, rfl, inC_start w, ((Below.refl _ _).alloc (Nat.le_refl _) _).alloc (by simp) _⟩
  case round =>
    obtain ⟨k, hk, rfl, hC, hB⟩ := hrel
    by_cases hlt : k < 256
    · go_wp2
      go_loop [3, 11] (fun x n => ∃ j : Nat, j ≤ 8 ∧ n = .int .i64 j ∧ x = U (zn j (BitVec.ofNat 32 k <<< 24))) (fun _ n => 8 - (intOf n).toNat)
      case atStart => exact ⟨0, by omega, rfl, U_eq (shl24 k hlt)⟩
      case round =>
        obtain ⟨j, hj, rfl, rfl⟩ := hrel
        by_cases hlt2 : j < 8
        · have hz := BitVec.isLt (zn j (BitVec.ofNat 32 k <<< 24))
          cases hm : (zn j (BitVec.ofNat 32 k <<< 24)).msb
          · have hb := u32_msb (zn j (BitVec.ofNat 32 k <<< 24))
            rw [hm] at hb
            go_wp2
            go_round
            case rel => exact ⟨j + 1, by omega, by go_num, U_eq (zs_neg _ hm)⟩
            case measure => simp [intOf]; omega
          · have hb := u32_msb (zn j (BitVec.ofNat 32 k <<< 24))
            rw [hm] at hb
            go_wp2
            go_round
            case rel => exact ⟨j + 1, by omega, by go_num, U_eq (zs_pos _ hm)⟩
            case measure => simp [intOf]; omega
        · have hcell := inC_cell hC hlt
          have hfr := inC_free hC
          obtain rfl : j = 8 := by omega
          go_wp2
          go_roundw
          case rel => exact ⟨k + 1, by omega, by go_num, inC_step hC hlt, hB.setCell (by simp) _⟩
          case measure => simp [intOf]; omega
    · obtain rfl : k = 256 := by omega
      go_wp2_with (first | (refine wpList_load_row rfl 25 _ rfl (w.heap.size + 1) rfl 25 (tab 256) (0, 0) _ hC.2 Try.underlying25 rfl (by rw [tab_size]; exact Try.info25) ?_) | (refine wpList_store_row rfl 25 _ _ rfl w.heap.size (tab 256) rfl rfl 25 zrow hC.1 (by rw [tab_size]; exact Try.info25) (by rw [tab_size]; exact zrow_size) (tab_one 256) ?_))
      exact bodyPost_ret (v := .agg (tab 256)) (rowsRes _ _ _ rfl (setRow_heap _ _ _ _ _ _ hC.1)) rfl ⟨rfl, below_setRow hB (Nat.le_refl _) _⟩
theorem u32_high (x : BitVec 32) : decide ((2147483648 : Int) ≤ (x.toNat : Int)) = x.msb := by
  rw [BitVec.msb_eq_decide]
  congr 1
  apply propext
  omega
theorem half (j : Nat) (hj : j < 8) : 1 ≤ 128 / 2 ^ j ∧ 128 / 2 ^ j ≤ 128 ∧ 128 / 2 ^ j / 2 = 128 / 2 ^ (j + 1) := by
  refine ⟨?_, ?_, ?_⟩
  · have : 2 ^ j ≤ 128 := Nat.pow_le_pow_right (by omega) (by omega : j ≤ 7)
    exact (Nat.one_le_div_iff (Nat.pow_pos (by omega))).2 this
  · exact Nat.div_le_self ..
  · rw [Nat.div_div_eq_div_mul, Nat.pow_succ]
theorem bit_of (b : UInt8) (j : Nat) (hj : j < 8) : ((b.toNat : Int) / ((128 / 2 ^ j : Nat) : Int) % 2 == 1) = bitAt b j := by
  unfold bitAt
  have e : 128 / 2 ^ j = 2 ^ (7 - j) := by
    have : ∀ j, j < 8 → 128 / 2 ^ j = 2 ^ (7 - j) := by decide
    exact this j hj
  rw [e, Nat.testBit_eq_decide_div_mod_eq]
  have : ((b.toNat : Int) / ((2 ^ (7 - j) : Nat) : Int) % 2) = ((b.toNat / 2 ^ (7 - j) % 2 : Nat) : Int) := by simp
  rw [this]
  generalize b.toNat / 2 ^ (7 - j) % 2 = q
  rw [Bool.eq_iff_iff, beq_iff_eq, decide_eq_true_iff]
  omega
theorem quo_bd (b : UInt8) (v : Nat) : (0 : Int) ≤ (b.toNat : Int) / (v : Int) ∧ (b.toNat : Int) / (v : Int) ≤ 255 := by
  have h := b.toNat_lt
  have e : (b.toNat : Int) / (v : Int) = ((b.toNat / v : Nat) : Int) := rfl
  have h2 : b.toNat / v ≤ b.toNat := Nat.div_le_self ..
  rw [e]
  have h3 : b.toNat / v ≤ 255 := Nat.le_trans h2 (by omega)
  exact ⟨Int.natCast_nonneg _, (Int.ofNat_le.2 h3 : ((b.toNat / v : Nat) : Int) ≤ ((255 : Nat) : Int))⟩
theorem stB_pos {b : UInt8} {j : Nat} {x : BitVec 32} (h : ((stB b j x).msb != bitAt b j) = true) : bits BinOp.xor IntKind.u32 (((stB b j x).toNat : Int) * (2 : Int) % (4294967296 : Int)) 79764919 = ((stB b (j + 1) x).toNat : Int) := by
  rw [u32_shl1, show (79764919 : Int) = ((0x04c11db7#32).toNat : Int) from rfl, u32_xor_bv, stB_succ, if_pos h]
theorem stB_neg {b : UInt8} {j : Nat} {x : BitVec 32} (h : ((stB b j x).msb != bitAt b j) = false) : ((stB b j x).toNat : Int) * (2 : Int) % (4294967296 : Int) = ((stB b (j + 1) x).toNat : Int) := by
  rw [u32_shl1, stB_succ, h]; simp
theorem more_snoc (x : BitVec 32) (s : ByteArray) (k : Nat) (h : k < s.size) : stB s[k] 8 (more x (s.data.toList.take k)) = more x (s.data.toList.take (k + 1)) := by
  rw [step_bits, List.take_succ_eq_append_getElem (by simpa using h), more_append]; rfl
theorem I_eq {a b : Int} (h : a = b) : Value.int .i64 a = .int .i64 b := by rw [h]
set_option maxRecDepth 100000 in
set_option maxHeartbeats 800000 in
theorem refMore (x : BitVec 32) (s : ByteArray) (hs : s.size ≤ maxLen) (w : World) :
    Calls Try.prog 10 #[U x, .string s] w fun e w' => e = .returned (U (more x s.data.toList)) ∧ w = w' := by
  unfold maxLen at hs
  go_enter Try.func10, Try.ntmps10
  go_wp2
  go_loop [0, 5] (fun r i => ∃ k : Nat, k ≤ s.size ∧ i = .int .i64 k ∧ r = U (more x (s.data.toList.take k))) (fun _ i => s.size - (intOf i).toNat)
  case atStart => exact ⟨0, by omega, rfl, rfl⟩
  case round =>
    obtain ⟨k, hk, rfl, rfl⟩ := hrel
    by_cases hlt : k < s.size
    · have hy := BitVec.isLt (more x (s.data.toList.take k))
      go_wp2
      go_loop [0, 6, 7] (fun r u n => ∃ j v : Nat, j ≤ 8 ∧ v = 128 / 2 ^ j ∧ n = .int .i64 j ∧ u = .int .i64 v ∧ r = U (stB s[k] j (more x (s.data.toList.take k)))) (fun _ _ n => 8 - (intOf n).toNat)
      case atStart => exact ⟨0, 128, by omega, rfl, rfl, rfl, rfl⟩
      case round =>
        obtain ⟨j, v, hj, hv, rfl, rfl, rfl⟩ := hrel
        by_cases hlt2 : j < 8
        · have hz := BitVec.isLt (stB s[k] j (more x (s.data.toList.take k)))
          have hb := s[k].toNat_lt
          have hm := u32_high (stB s[k] j (more x (s.data.toList.take k)))
          have hq := bit_of s[k] j hlt2
          rw [← hv] at hq
          obtain ⟨hv1, hv2, hv3⟩ := half j hlt2
          rw [← hv] at hv1 hv2 hv3
          obtain ⟨hd1, hd2⟩ := quo_bd s[k] v
          have H3 := Lib.hid hv3
          clear hv hv3
          cases hA : (stB s[k] j (more x (s.data.toList.take k))).msb <;> cases hB : bitAt s[k] j <;> rw [hA] at hm <;> rw [hB] at hq
          · have HX := Lib.hid (stB_neg (b := s[k]) (j := j) (x := more x (s.data.toList.take k)) (by rw [hA, hB]; rfl))
            clear hA hB
            go_wp2
            go_round
            case rel => exact ⟨j + 1, _, by omega, rfl, by go_num, I_eq (by rw [← H3.out]; omega), U_eq HX.out⟩
            case measure => simp [intOf]; omega
          · have HX := Lib.hid (stB_pos (b := s[k]) (j := j) (x := more x (s.data.toList.take k)) (by rw [hA, hB]; rfl))
            clear hA hB
            go_wp2
            go_round
            case rel => exact ⟨j + 1, _, by omega, rfl, by go_num, I_eq (by rw [← H3.out]; omega), U_eq HX.out⟩
            case measure => simp [intOf]; omega
          · have HX := Lib.hid (stB_pos (b := s[k]) (j := j) (x := more x (s.data.toList.take k)) (by rw [hA, hB]; rfl))
            clear hA hB
            go_wp2
            go_round
            case rel => exact ⟨j + 1, _, by omega, rfl, by go_num, I_eq (by rw [← H3.out]; omega), U_eq HX.out⟩
            case measure => simp [intOf]; omega
          · have HX := Lib.hid (stB_neg (b := s[k]) (j := j) (x := more x (s.data.toList.take k)) (by rw [hA, hB]; rfl))
            clear hA hB
            go_wp2
            go_round
            case rel => exact ⟨j + 1, _, by omega, rfl, by go_num, I_eq (by rw [← H3.out]; omega), U_eq HX.out⟩
            case measure => simp [intOf]; omega
        · obtain rfl : j = 8 := by omega
          clear hv
          go_wp2
          go_round
          case rel => exact ⟨k + 1, by omega, by go_num, by rw [more_snoc x s k hlt]⟩
          case measure => simp [intOf]; omega
    · go_wp2
      go_ret
      refine ⟨?_, rfl⟩
      rw [List.take_of_length_le (by simp; omega)]
      rfl
end Go.Proofs.Ythbjgjeehmcdeaa
