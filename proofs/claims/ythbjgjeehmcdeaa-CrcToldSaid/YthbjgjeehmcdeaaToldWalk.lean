/-
  The walk of CrcTold: what was sealed is opened, nothing is of which up to four bytes in a row are other ones, and it does not count how bytes are parted.
-/
import Derived.Test.YthbjgjeehmcdeaaBuf
import Derived.Test.YthbjgjeehmcdeaaShape
import Derived.Deep.QuietTactic
import Derived.BigQuiet
import Derived.Deep.RegionHeld3
import Derived.BigRegion
namespace Go.Proofs.Ythbjgjeehmcdeaa
open Go.RowKit
theorem parted (s : ByteArray) (k : Nat) : (s.extract 0 k).data.toList ++ (s.extract k s.size).data.toList = s.data.toList := by
  have h1 : s.data.size = s.size := rfl
  have h2 : s.data.toList.length = s.size := by simp
  have h3 : (s.extract k s.size).data.toList = s.data.toList.drop k := by
    simp only [ByteArray.data_extract, Array.toList_extract, List.extract_eq_take_drop]
    exact List.take_of_length_le (by rw [List.length_drop]; omega)
  rw [h3, extract_list, List.take_append_drop]
theorem sum_two (p q : ByteArray) (hp : p.size ≤ maxLen) (hq : q.size ≤ maxLen) (h : moreAll ones [p, q] = 0#32) (w : World) :
    Calls Try.prog 11 #[.slice (some ⟨w.heap.size, 0, none⟩) 2 2] (w.alloc (.cells #[.string p, .string q] 9)) fun e w' => e = .returned (.int .u32 0) ∧ Below (w.alloc (.cells #[.string p, .string q] 9)).heap.size (w.alloc (.cells #[.string p, .string q] 9)) w' := by
  have := sum2 p q hp hq w
  rwa [h] at this
theorem sum_one (p : ByteArray) (hp : p.size ≤ maxLen) (X : BitVec 32) (h : sum p.data.toList = X) (w : World) :
    Calls Try.prog 11 #[.slice (some ⟨w.heap.size, 0, none⟩) 1 1] (w.alloc (.cells #[.string p] 9)) fun e w' => e = .returned (U X) ∧ Below (w.alloc (.cells #[.string p] 9)).heap.size (w.alloc (.cells #[.string p] 9)) w' := by
  have := sum1 p hp w
  rwa [h] at this
theorem more_zero_is (X : BitVec 32) (q : ByteArray) (hq : q.size ≤ maxLen) (h : more X q.data.toList = 0#32) (w : World) :
    Calls Try.prog 13 #[U X, .string q] w fun e w' => e = .returned (.int .u32 0) ∧ Below w.heap.size w w' := by
  have := crcMore X q hq w
  rwa [h] at this
theorem sum_two_drew (p q : ByteArray) (hp : p.size ≤ maxLen) (hq : q.size ≤ maxLen) (h : moreAll ones [p, q] = 0#32) (w : World) :
    Calls Try.prog 11 #[.slice (some ⟨w.heap.size, 0, none⟩) 2 2] (w.alloc (.cells #[.string p, .string q] 9)).drew fun e w' => e = .returned (.int .u32 0) ∧ Below (w.alloc (.cells #[.string p, .string q] 9)).drew.heap.size (w.alloc (.cells #[.string p, .string q] 9)).drew w' :=
  sum_two p q hp hq h w.drew
theorem open_as (s : ByteArray) (hs : s.size ≤ 600) (x : ByteArray) (h : x = sealB s) (w : World) :
    Calls Try.prog 14 #[.string x] w fun e w' => e = .returned (.tuple #[.string s, .int .i64 0]) ∧ Below w.heap.size w w' := by
  rw [h]; exact open_sealed s hs w
/-- The four turns, by their place. -/
def tb4 (t0 t1 t2 t3 : UInt8) (i : Nat) : UInt8 := if i = 0 then t0 else if i = 1 then t1 else if i = 2 then t2 else t3
theorem tb4_cell {W : World} {g : Nat} {t0 t1 t2 t3 : UInt8} (h : W.heap[g]? = some (.cells #[B t0, B t1, B t2, B t3] 40 (0, 0))) (j : Nat) (hj : j < 4) : W.cell? ⟨g, j, none⟩ = some (B (tb4 t0 t1 t2 t3 j)) := by
  rw [cell_of_row W _ _ _ _ _ h]
  rcases (by omega : j = 0 ∨ j = 1 ∨ j = 2 ∨ j = 3) with rfl | rfl | rfl | rfl <;> rfl
theorem byte_xor (a b : UInt8) : bits BinOp.xor IntKind.u8 (a.toNat : Int) (b.toNat : Int) = ((a ^^^ b).toNat : Int) := by
  rw [u8_xor_nat _ _ a.toNat_lt b.toNat_lt, UInt8.toNat_xor]
theorem byte_bne (a : UInt8) : ((a.toNat : Int) != 0) = (a != 0) := by
  rw [Bool.eq_iff_iff, bne_iff_ne, bne_iff_ne]
  constructor
  · rintro h rfl; exact h rfl
  · intro h e; apply h; apply UInt8.toNat_inj.1; show a.toNat = 0; omega

set_option maxRecDepth 100000 in
set_option maxHeartbeats 3200000 in
theorem told_main (w : World) (s : ByteArray) (hs : s.size ≤ 600) (k : Nat) (hk : k < s.size + 4) (t0 t1 t2 t3 : UInt8) :
    Calls Try.prog 7 #[.string s, .int .i64 (k : Int), .agg #[B t0, B t1, B t2, B t3]] w fun e w' => e = .returned (.bool true) ∧ Below w.heap.size w w' := by
  have hs4 : s.size ≤ 604 := by omega
  have hz := sealB_size s
  have H0 := Lib.hid (sum_sealB s)
  go_enter Try.func7, Try.ntmps7
  go_wp2_with (first | (go_at_call 16; refine (seal_any s hs4 _).mono ?_; rintro e wa ⟨rfl, hba⟩) | (go_at_call 14; refine (open_sealed s hs _).mono ?_; rintro e w1 ⟨rfl, hb1⟩))
  have hB0 : Below w.heap.size w w1 := by
    repeat (first | exact Below.refl _ _ | assumption | (refine thenB ?_ (by assumption)) | refine allocB ?_ _)
  have hT : w1.heap[w.heap.size]? = some (.cells #[B t0, B t1, B t2, B t3] 40 (0, 0)) := by
    have hx := heap_alloc_new w (.cells #[B t0, B t1, B t2, B t3] 40 (0, 0))
    have h1 := (hba.block w.heap.size (by simp)).trans hx
    exact (hb1.block w.heap.size (Nat.lt_of_lt_of_le (by simp) hba.size)).trans h1
  obtain ⟨S, hS⟩ : ∃ S, S = sealB s := ⟨_, rfl⟩
  rw [← hS] at hz H0 ⊢
  have hz1 : S.size ≤ s.size + 4 := by omega
  have hz2 : s.size + 4 ≤ S.size := by omega
  have HZ := Lib.hid hz
  have HSB := Lib.hid hS
  have q1 : (S.extract 0 k).size ≤ maxLen := by rw [ByteArray.size_extract]; unfold maxLen; omega
  have q2 : (S.extract k S.size).size ≤ maxLen := by rw [ByteArray.size_extract]; unfold maxLen; omega
  have H1 : Hid (moreAll ones [S.extract 0 k, S.extract k S.size] = 0#32) := by
    refine Lib.hid ?_
    rw [← H0.out, ← parted S k]
    unfold sum
    rw [more_append]; rfl
  obtain ⟨X, hX⟩ : ∃ X, sum (S.extract 0 k).data.toList = X := ⟨_, rfl⟩
  have H3 : Hid (more X (S.extract k S.size).data.toList = 0#32) := by
    refine Lib.hid ?_
    rw [← hX, ← H0.out, ← parted S k]
    unfold sum
    rw [more_append]
  have H2 := Lib.hid hX
  clear hX hS hz
  have i0 : (0 : Int) ≤ (k : Int) := Int.natCast_nonneg _
  have i1 : (k : Int) ≤ (S.size : Int) := by omega
  go_region_held3 (fun _ => True) (trivial) (first | (go_at_call 11; (first | (with_reducible refine (sum_two_drew _ _ q1 q2 H1.out _).mono ?_) | (with_reducible refine (sum_one _ q1 X H2.out _).mono ?_)); rintro e wb ⟨rfl, hb2⟩) | (go_at_call 13; (with_reducible refine (more_zero_is X _ q2 H3.out _).mono ?_); rintro e wb ⟨rfl, hb2⟩))
  have hB2 : Below w1.heap.size w1 wb := by
    repeat (first | exact Below.refl _ _ | assumption | (refine thenB ?_ (by assumption)) | refine allocB ?_ _ | refine Below.drew ?_)
  have hT2 : wb.heap[w.heap.size]? = some (.cells #[B t0, B t1, B t2, B t3] 40 (0, 0)) := (hB2.block _ (block_lt_of_cell (tb4_cell hT 0 (by omega)))).trans hT
  have hB3 := thenB hB0 hB2
  have hlt := block_lt_of_cell (tb4_cell hT2 0 (by omega))
  have kcv := fun W => Lib.run_convert_string_bytes (P := Try.prog) W 9 32 5 S Try.underlying9 Try.underlying32 Try.underlying5
  have HT2 := Lib.hid hT2
  clear hT hT2 hB0 hB2
  go_wp2_with fail
  clear kcv
  have hBV : Below w.heap.size w (Lib.bytesWorld wb 5 S) := thenB hB3 (bytesWorld_below wb S)
  have hTV : (Lib.bytesWorld wb 5 S).heap[w.heap.size]? = some (.cells #[B t0, B t1, B t2, B t3] 40 (0, 0)) := (Lib.bytesWorld_at_old wb 5 S _ hlt).trans HT2.out
  have hbuf := BufAt.start wb S
  generalize Lib.bytesWorld wb 5 S = V at hBV hTV hbuf ⊢
  generalize wb.heap.size = g at hlt hbuf ⊢
  obtain ⟨tb, htb⟩ : ∃ tb, tb = tb4 t0 t1 t2 t3 := ⟨_, rfl⟩
  have HTC : Hid (∀ (W : World), W.heap[w.heap.size]? = some (.cells #[B t0, B t1, B t2, B t3] 40 (0, 0)) → ∀ j, j < 4 → W.cell? ⟨w.heap.size, j, none⟩ = some (B (tb j))) := by
    rw [htb]; exact Lib.hid (fun W h j hj => tb4_cell h j hj)
  clear htb
  have hlen : S.data.toList.length = S.size := by simp
  have HLEN := Lib.hid hlen
  clear hlen
  clear hk hB3 hs4 hba hb1 q1 q2
  go_loopw [11, 12] (fun tv i wr => ∃ j : Nat, j ≤ 4 ∧ k + j ≤ S.size ∧ i = .int .i64 j ∧ tv = .bool (anyTurn tb j) ∧ BufAt wr g (turned S.data.toList k tb j) ∧ wr.heap[w.heap.size]? = some (.cells #[B t0, B t1, B t2, B t3] 40 (0, 0)) ∧ Below w.heap.size w wr) (fun _ i _ => 4 - (intOf i).toNat)
  case atStart => exact ⟨0, by omega, by omega, rfl, rfl, hbuf, hTV, hBV⟩
  case round =>
    clear hBV hTV hbuf
    obtain ⟨j, hj, hkj, rfl, rfl, hbuf, hTW, hB⟩ := hrel
    by_cases hin : j < 4 ∧ k + j < S.size
    · obtain ⟨hj4, hkn⟩ := hin
      have hlen : (turned S.data.toList k tb j).length = S.size := by rw [turned_len, HLEN.out]
      have hkl : k + j < (turned S.data.toList k tb j).length := by omega
      obtain ⟨cb, fb⟩ := hbuf (k + j) hkl
      have ct := HTC.out wr hTW j hj4
      have ct2 := fun W h => HTC.out W h j hj4
      have HS := Lib.hid (turned_succ S.data.toList k tb j)
      have hgd : (turned S.data.toList k tb j).getD (k + j) 0 = (turned S.data.toList k tb j)[k + j] := by rw [List.getD_eq_getElem?_getD, List.getElem?_eq_getElem hkl]; rfl
      rw [hgd] at HS
      have HA := Lib.hid (anyTurn_succ tb j)
      have hx := byte_xor (turned S.data.toList k tb j)[k + j] (tb j)
      have hne := byte_bne (tb j)
      have HBUF := Lib.hid (hbuf.set hkl ((turned S.data.toList k tb j)[k + j] ^^^ tb j))
      rw [← HS.out] at HBUF
      have HTW := Lib.hid hTW
      have j0 : (0 : Int) ≤ (j : Int) := Int.natCast_nonneg _
      have j1 : (j : Int) < 4 := by omega
      clear hbuf hTW hgd hlen HS
      obtain ⟨D1, hD1⟩ : ∃ D1, D1 = turned S.data.toList k tb (j + 1) := ⟨_, rfl⟩
      rw [← hD1] at HBUF
      have HD1 := Lib.hid hD1
      clear hD1
      generalize (turned S.data.toList k tb j)[k + j] = x at cb hx HBUF
      generalize tb j = y at ct ct2 hx hne HA HBUF
      have CT2 := Lib.hid ct2
      clear ct2
      obtain ⟨z, hz⟩ : ∃ z, z = x ^^^ y := ⟨_, rfl⟩
      rw [← hz] at hx HBUF
      clear hz hkl
      cases hA : anyTurn tb j
      · rw [hA] at HA
        cases hY : (y != 0)
        · rw [hY] at hne HA
          go_wp2_with fail
          go_region
          have W1 : BufAt (wr.setCell ⟨g, k + j, none⟩ (B z)).drew g D1 := HBUF.out
          have W2 : (wr.setCell ⟨g, k + j, none⟩ (B z)).drew.heap[w.heap.size]? = some (.cells #[B t0, B t1, B t2, B t3] 40 (0, 0)) := (heap_setCell_other _ _ _ _ (Nat.ne_of_lt hlt)).trans HTW.out
          have W3 : Below w.heap.size w (wr.setCell ⟨g, k + j, none⟩ (B z)).drew := (hB.setCell (Nat.le_of_lt hlt) _).drew
          have W4 := CT2.out _ W2
          generalize (wr.setCell ⟨g, k + j, none⟩ (B z)).drew = wn at W1 W2 W3 W4 ⊢
          have W2 := Lib.hid W2
          go_wp2_with fail
          go_roundw
          case rel => exact ⟨j + 1, by omega, by omega, by go_num, by rw [HA.out]; rfl, by rw [← HD1.out]; exact W1, W2.out, W3⟩
          case measure => simp [intOf]; omega
        · rw [hY] at hne HA
          go_wp2_with fail
          go_region
          have W1 : BufAt (wr.setCell ⟨g, k + j, none⟩ (B z)).drew g D1 := HBUF.out
          have W2 : (wr.setCell ⟨g, k + j, none⟩ (B z)).drew.heap[w.heap.size]? = some (.cells #[B t0, B t1, B t2, B t3] 40 (0, 0)) := (heap_setCell_other _ _ _ _ (Nat.ne_of_lt hlt)).trans HTW.out
          have W3 : Below w.heap.size w (wr.setCell ⟨g, k + j, none⟩ (B z)).drew := (hB.setCell (Nat.le_of_lt hlt) _).drew
          have W4 := CT2.out _ W2
          generalize (wr.setCell ⟨g, k + j, none⟩ (B z)).drew = wn at W1 W2 W3 W4 ⊢
          have W2 := Lib.hid W2
          go_wp2_with fail
          go_roundw
          case rel => exact ⟨j + 1, by omega, by omega, by go_num, by rw [HA.out]; rfl, by rw [← HD1.out]; exact W1, W2.out, W3⟩
          case measure => simp [intOf]; omega
      · rw [hA] at HA
        clear hne
        go_wp2_with fail
        go_region
        have W1 : BufAt (wr.setCell ⟨g, k + j, none⟩ (B z)).drew g D1 := HBUF.out
        have W2 : (wr.setCell ⟨g, k + j, none⟩ (B z)).drew.heap[w.heap.size]? = some (.cells #[B t0, B t1, B t2, B t3] 40 (0, 0)) := (heap_setCell_other _ _ _ _ (Nat.ne_of_lt hlt)).trans HTW.out
        have W3 : Below w.heap.size w (wr.setCell ⟨g, k + j, none⟩ (B z)).drew := (hB.setCell (Nat.le_of_lt hlt) _).drew
        have W4 := CT2.out _ W2
        generalize (wr.setCell ⟨g, k + j, none⟩ (B z)).drew = wn at W1 W2 W3 W4 ⊢
        have W2 := Lib.hid W2
        go_wp2_with fail
        go_roundw
        case rel => exact ⟨j + 1, by omega, by omega, by go_num, by rw [HA.out]; rfl, by rw [← HD1.out]; exact W1, W2.out, W3⟩
        case measure => simp [intOf]; omega
    · have hlen : (turned S.data.toList k tb j).length = S.size := by rw [turned_len, HLEN.out]
      obtain ⟨D, hD⟩ : ∃ D, D = turned S.data.toList k tb j := ⟨_, rfl⟩
      rw [← hD] at hbuf hlen
      have HD := Lib.hid hD
      have hcv := hbuf.conv (c := grownCap wb S.size 0 5) hlen
      have z1 : 4 ≤ (bytesOf D).size := by rw [bytesOf_size, hlen]; omega
      have z2 : (bytesOf D).size ≤ 604 := by rw [bytesOf_size, hlen]; omega
      have e0 : (ByteArray.empty.toList == (ByteArray.mk #[]).toList) = true := by rw [ByteArray.toList_eq, ByteArray.toList_eq]; rfl
      clear hD hlen hbuf hTW HT2
      cases hA : anyTurn tb j
      · have HO : Hid (bytesOf D = sealB s) := by
          refine Lib.hid ?_
          rw [HD.out, turned_same _ _ _ _ hA, bytesOf_self]
          exact HSB.out
        by_cases hj4 : j < 4
        · have hkn : S.size ≤ k + j := by omega
          clear hin
          go_wp2_with (first | (go_at_call 14; (with_reducible refine (open_as s hs _ HO.out _).mono ?_); rintro e wp ⟨rfl, hp1⟩) | (go_at_call 8; refine (awake_any _).mono ?_; rintro e wq ⟨rfl, hq1⟩))
          go_ret
          refine ⟨rfl, ?_⟩
          repeat (first | exact Below.refl _ _ | assumption | (refine thenB ?_ (by assumption)) | refine allocB ?_ _ | refine Below.drew ?_)
        · have hj4' : 4 ≤ j := by omega
          clear hin hj4
          go_wp2_with (first | (go_at_call 14; (with_reducible refine (open_as s hs _ HO.out _).mono ?_); rintro e wp ⟨rfl, hp1⟩) | (go_at_call 8; refine (awake_any _).mono ?_; rintro e wq ⟨rfl, hq1⟩))
          go_ret
          refine ⟨rfl, ?_⟩
          repeat (first | exact Below.refl _ _ | assumption | (refine thenB ?_ (by assumption)) | refine allocB ?_ _ | refine Below.drew ?_)
      · have HO : Hid (sum (bytesOf D).data.toList ≠ 0#32) := by
          refine Lib.hid ?_
          rw [bytesOf_list, HD.out]
          exact turned_sum _ _ _ _ hj (by rw [HLEN.out]; exact hkj) hA H0.out
        by_cases hj4 : j < 4
        · have hkn : S.size ≤ k + j := by omega
          clear hin
          go_wp2_with (first | (go_at_call 14; (with_reducible refine (open_sum _ z1 z2 HO.out _).mono ?_); rintro e wp ⟨rfl, hp1⟩) | (go_at_call 8; refine (awake_any _).mono ?_; rintro e wq ⟨rfl, hq1⟩))
          go_ret
          refine ⟨rfl, ?_⟩
          repeat (first | exact Below.refl _ _ | assumption | (refine thenB ?_ (by assumption)) | refine allocB ?_ _ | refine Below.drew ?_)
        · have hj4' : 4 ≤ j := by omega
          clear hin hj4
          go_wp2_with (first | (go_at_call 14; (with_reducible refine (open_sum _ z1 z2 HO.out _).mono ?_); rintro e wp ⟨rfl, hp1⟩) | (go_at_call 8; refine (awake_any _).mono ?_; rintro e wq ⟨rfl, hq1⟩))
          go_ret
          refine ⟨rfl, ?_⟩
          repeat (first | exact Below.refl _ _ | assumption | (refine thenB ?_ (by assumption)) | refine allocB ?_ _ | refine Below.drew ?_)
set_option maxRecDepth 100000 in
set_option maxHeartbeats 1600000 in
theorem told_long (w : World) (s : ByteArray) (hm : s.size ≤ 9223372036854775807) (hs : 600 < s.size) (k : Int) (t0 t1 t2 t3 : UInt8) :
    Calls Try.prog 7 #[.string s, .int .i64 k, .agg #[B t0, B t1, B t2, B t3]] w fun e w' => e = .returned (.bool true) ∧ Below w.heap.size w w' := by
  go_enter Try.func7, Try.ntmps7
  go_wp2_with (first | (go_at_call 8; refine (awake_any _).mono ?_; rintro e wq ⟨rfl, hq1⟩))
  go_ret
  refine ⟨rfl, ?_⟩
  repeat (first | exact Below.refl _ _ | assumption | (refine thenB ?_ (by assumption)) | refine allocB ?_ _ | refine Below.drew ?_)

set_option maxRecDepth 100000 in
set_option maxHeartbeats 1600000 in
theorem told_neg (w : World) (s : ByteArray) (hs : s.size ≤ 600) (k : Int) (hk : k < 0) (t0 t1 t2 t3 : UInt8) :
    Calls Try.prog 7 #[.string s, .int .i64 k, .agg #[B t0, B t1, B t2, B t3]] w fun e w' => e = .returned (.bool true) ∧ Below w.heap.size w w' := by
  have hs4 : s.size ≤ 604 := by omega
  have hz := sealB_size s
  go_enter Try.func7, Try.ntmps7
  go_wp2_with (first | (go_at_call 16; refine (seal_any s hs4 _).mono ?_; rintro e wa ⟨rfl, hba⟩) | (go_at_call 14; refine (open_sealed s hs _).mono ?_; rintro e w1 ⟨rfl, hb1⟩) | (go_at_call 8; refine (awake_any _).mono ?_; rintro e wq ⟨rfl, hq1⟩))
  go_ret
  refine ⟨rfl, ?_⟩
  repeat (first | exact Below.refl _ _ | assumption | (refine thenB ?_ (by assumption)) | refine allocB ?_ _ | refine Below.drew ?_)

set_option maxRecDepth 100000 in
set_option maxHeartbeats 1600000 in
theorem told_off (w : World) (s : ByteArray) (hs : s.size ≤ 600) (k : Int) (hk : (s.size : Int) + 4 ≤ k) (t0 t1 t2 t3 : UInt8) :
    Calls Try.prog 7 #[.string s, .int .i64 k, .agg #[B t0, B t1, B t2, B t3]] w fun e w' => e = .returned (.bool true) ∧ Below w.heap.size w w' := by
  have hs4 : s.size ≤ 604 := by omega
  have hz := sealB_size s
  go_enter Try.func7, Try.ntmps7
  go_wp2_with (first | (go_at_call 16; refine (seal_any s hs4 _).mono ?_; rintro e wa ⟨rfl, hba⟩) | (go_at_call 14; refine (open_sealed s hs _).mono ?_; rintro e w1 ⟨rfl, hb1⟩) | (go_at_call 8; refine (awake_any _).mono ?_; rintro e wq ⟨rfl, hq1⟩))
  go_ret
  refine ⟨rfl, ?_⟩
  repeat (first | exact Below.refl _ _ | assumption | (refine thenB ?_ (by assumption)) | refine allocB ?_ _ | refine Below.drew ?_)

theorem told_all (w : World) (s : ByteArray) (hs : s.size ≤ maxLen) (k : Int) (_hk : (Lit.int .i64 k).wf = true) (v : Value)
    (hv : ∃ x y z u : Int, v = .agg #[.int .u8 x, .int .u8 y, .int .u8 z, .int .u8 u] ∧ (Lit.int .u8 x).wf = true ∧ (Lit.int .u8 y).wf = true ∧ (Lit.int .u8 z).wf = true ∧ (Lit.int .u8 u).wf = true) :
    Calls Try.prog 7 #[.string s, .int .i64 k, v] w fun e w' => e = .returned (.bool true) ∧ Below w.heap.size w w' := by
  obtain ⟨x, y, z, u, rfl, hx, hy, hz, hu⟩ := hv
  obtain ⟨x, rfl⟩ := byte_is hx
  obtain ⟨y, rfl⟩ := byte_is hy
  obtain ⟨z, rfl⟩ := byte_is hz
  obtain ⟨u, rfl⟩ := byte_is hu
  unfold maxLen at hs
  by_cases h1 : 600 < s.size
  · exact told_long w s (by omega) h1 k x y z u
  · by_cases h2 : k < 0
    · exact told_neg w s (by omega) k h2 x y z u
    · by_cases h3 : (s.size : Int) + 4 ≤ k
      · exact told_off w s (by omega) k h3 x y z u
      · obtain ⟨n, rfl⟩ : ∃ n : Nat, k = (n : Int) := ⟨k.toNat, by omega⟩
        exact told_main w s (by omega) n (by omega) x y z u
end Go.Proofs.Ythbjgjeehmcdeaa
