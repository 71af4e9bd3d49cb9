/-
  The walks of the methods of a Field: the product, the inverse, the power of 2 and the logarithm of bytes, by the tables.
-/
import Derived.Test.YtoipbblgbbocnaaNew
import Derived.Deep.QuietTactic
import Derived.BigQuiet
namespace Go.Proofs.Ytoipbblgbbocnaa
open Go.RowKit
/-- A byte as a value. -/
abbrev Q (n : Nat) : Value := .int .u8 (n : Int)
theorem IsF.exp {W : World} {g : Nat} (h : IsF W g 255) (j : Nat) (hj : j < 510) : W.cell? ⟨g, j, none⟩ = some (Q (pw j)) := by
  rw [h.cell j (by omega)]
  unfold fcell
  by_cases h1 : j < 255
  · simp [h1]
  · have e : pw (j - 255) = pw j := by rw [← pw_per (j - 255)]; congr 1; omega
    simp [h1, hj, show j - 255 < 255 by omega, e]
theorem IsF.log {W : World} {g : Nat} (h : IsF W g 255) (x : Nat) (hx : x < 256) : W.cell? ⟨g, 510 + x, none⟩ = some (.int .i64 (lg x : Int)) := by
  rw [h.cell (510 + x) (by omega)]
  unfold fcell
  have hl := lg_lt hx
  by_cases h0 : x = 0
  · subst h0; rfl
  · simp [show ¬ 510 + x < 255 by omega, show ¬ 510 + x < 510 by omega, h0, hl]
theorem IsF.lt {W : World} {g : Nat} (h : IsF W g 255) : g < W.heap.size := block_lt_of_cell (h.exp 0 (by omega))
theorem IsF.later {W W2 : World} {g : Nat} (h : IsF W g 255) (hb : Below W.heap.size W W2) : IsF W2 g 255 := (hb.block g h.lt).trans h
theorem nz {a : Nat} (h : a ≠ 0) : ((a : Int) == 0) = false := by rw [beq_eq_false_iff_ne]; omega
theorem z_is {a : Nat} (h : a = 0) : ((a : Int) == 0) = true := by rw [h]; rfl

set_option maxRecDepth 100000 in
set_option maxHeartbeats 800000 in
theorem fmul_pos (g a b : Nat) (ha : a < 256) (hb : b < 256) (ha0 : a ≠ 0) (hb0 : b ≠ 0) (w : World) (hF : IsF w g 255) :
    Calls Try.prog 17 #[.pointer (some ⟨g, 0, none⟩), Q a, Q b] w fun e w' => e = .returned (Q (pw (lg a + lg b))) ∧ ∃ n, w' = w.drewN n := by
  have h1 := hF.log a ha
  have h2 := hF.log b hb
  have l1 := lg_lt ha
  have l2 := lg_lt hb
  have h3 := hF.exp (lg a + lg b) (by omega)
  have n1 := nz ha0
  have n2 := nz hb0
  have i1 : (0 : Int) ≤ (a : Int) := Int.natCast_nonneg _
  have i2 : (a : Int) < 256 := by omega
  have i3 : (0 : Int) ≤ (b : Int) := Int.natCast_nonneg _
  have i4 : (b : Int) < 256 := by omega
  have i5 : (0 : Int) ≤ (lg a : Int) := Int.natCast_nonneg _
  have i6 : (0 : Int) ≤ (lg b : Int) := Int.natCast_nonneg _
  clear hF ha0 hb0
  go_enter Try.func17, Try.ntmps17
  go_wp2
  go_quiet (fail)
  go_wp2
  go_ret
  exact ⟨rfl, _, rfl⟩

set_option maxRecDepth 100000 in
set_option maxHeartbeats 800000 in
theorem fmul_zero (g a b : Nat) (h : a = 0 ∨ b = 0) (w : World) :
    Calls Try.prog 17 #[.pointer (some ⟨g, 0, none⟩), Q a, Q b] w fun e w' => e = .returned (Q 0) ∧ ∃ n, w' = w.drewN n := by
  by_cases ha : a = 0
  · have n1 := z_is ha
    clear h ha
    go_enter Try.func17, Try.ntmps17
    go_wp2
    go_ret
    exact ⟨rfl, 0, rfl⟩
  · have n1 := nz ha
    have n2 := z_is (h.resolve_left ha)
    clear h ha
    go_enter Try.func17, Try.ntmps17
    go_wp2
    go_ret
    exact ⟨rfl, 0, rfl⟩
theorem fmul_any (g a b : Nat) (ha : a < 256) (hb : b < 256) (w : World) (hF : IsF w g 255) :
    Calls Try.prog 17 #[.pointer (some ⟨g, 0, none⟩), Q a, Q b] w fun e w' => e = .returned (Q (gm a b)) ∧ ∃ n, w' = w.drewN n := by
  unfold gm
  split
  · exact fmul_zero g a b ‹_› w
  · rename_i h
    exact fmul_pos g a b ha hb (fun e => h (Or.inl e)) (fun e => h (Or.inr e)) w hF

set_option maxRecDepth 100000 in
set_option maxHeartbeats 800000 in
theorem fmul_nil (a b : Int) (w : World) :
    Calls Try.prog 17 #[.pointer none, .int .u8 a, .int .u8 b] w fun e w' => e = .returned (Q 0) ∧ w = w' := by
  go_enter Try.func17, Try.ntmps17
  go_wp2
  go_ret
  exact ⟨rfl, rfl⟩
theorem finv_nil (a : Int) (w : World) :
    Calls Try.prog 18 #[.pointer none, .int .u8 a] w fun e w' => e = .returned (Q 0) ∧ w = w' := by
  go_enter Try.func18, Try.ntmps18
  go_wp2
  go_ret
  exact ⟨rfl, rfl⟩
theorem fexp_nil (a : Int) (w : World) :
    Calls Try.prog 19 #[.pointer none, .int .i64 a] w fun e w' => e = .returned (Q 0) ∧ w = w' := by
  go_enter Try.func19, Try.ntmps19
  go_wp2
  go_ret
  exact ⟨rfl, rfl⟩
theorem flog_nil (a : Int) (w : World) :
    Calls Try.prog 20 #[.pointer none, .int .u8 a] w fun e w' => e = .returned (.int .i64 0) ∧ w = w' := by
  go_enter Try.func20, Try.ntmps20
  go_wp2
  go_ret
  exact ⟨rfl, rfl⟩

set_option maxRecDepth 100000 in
set_option maxHeartbeats 800000 in
theorem finv_zero (g : Nat) (w : World) :
    Calls Try.prog 18 #[.pointer (some ⟨g, 0, none⟩), Q 0] w fun e w' => e = .returned (Q 0) ∧ w = w' := by
  go_enter Try.func18, Try.ntmps18
  go_wp2
  go_ret
  exact ⟨rfl, rfl⟩
set_option maxRecDepth 100000 in
set_option maxHeartbeats 800000 in
theorem finv_pos (g a : Nat) (ha : a < 256) (ha0 : a ≠ 0) (w : World) (hF : IsF w g 255) :
    Calls Try.prog 18 #[.pointer (some ⟨g, 0, none⟩), Q a] w fun e w' => e = .returned (Q (gd 1 a)) ∧ ∃ n, w' = w.drewN n := by
  have h1 := hF.log a ha
  have l1 := lg_lt ha
  have h3 := hF.exp (255 - lg a) (by omega)
  have n1 := nz ha0
  have i1 : (0 : Int) ≤ (a : Int) := Int.natCast_nonneg _
  have i2 : (a : Int) < 256 := by omega
  have i5 : (0 : Int) ≤ (lg a : Int) := Int.natCast_nonneg _
  rw [← inv_pw]
  clear hF ha0
  go_enter Try.func18, Try.ntmps18
  go_wp2
  go_quiet (fail)
  go_wp2
  go_ret
  exact ⟨rfl, _, rfl⟩
theorem flog_zero (g : Nat) (w : World) :
    Calls Try.prog 20 #[.pointer (some ⟨g, 0, none⟩), Q 0] w fun e w' => e = .returned (.int .i64 (-1)) ∧ w = w' := by
  go_enter Try.func20, Try.ntmps20
  go_wp2
  go_ret
  exact ⟨rfl, rfl⟩
set_option maxRecDepth 100000 in
set_option maxHeartbeats 800000 in
theorem flog_pos (g a : Nat) (ha : a < 256) (ha0 : a ≠ 0) (w : World) (hF : IsF w g 255) :
    Calls Try.prog 20 #[.pointer (some ⟨g, 0, none⟩), Q a] w fun e w' => e = .returned (.int .i64 (lg a : Int)) ∧ w = w' := by
  have h1 := hF.log a ha
  have n1 := nz ha0
  have i1 : (0 : Int) ≤ (a : Int) := Int.natCast_nonneg _
  have i2 : (a : Int) < 256 := by omega
  clear hF ha0
  go_enter Try.func20, Try.ntmps20
  go_wp2
  go_ret
  exact ⟨rfl, rfl⟩
theorem tmod_bd (i : Int) : -255 < i.tmod 255 ∧ i.tmod 255 < 255 ∧ i.tmod 255 % 255 = i % 255 := by
  have h := Int.mul_tdiv_add_tmod i 255
  have h1 := Int.tmod_lt_of_pos i (by omega : (0 : Int) < 255)
  have h2 : -255 < i.tmod 255 := by
    have := Int.tmod_lt_of_pos (-i) (by omega : (0 : Int) < 255)
    rw [Int.neg_tmod] at this
    omega
  refine ⟨h2, h1, ?_⟩
  omega
set_option maxRecDepth 100000 in
set_option maxHeartbeats 800000 in
theorem fexp_any (g : Nat) (i : Int) (w : World) (hF : IsF w g 255) :
    Calls Try.prog 19 #[.pointer (some ⟨g, 0, none⟩), .int .i64 i] w fun e w' => e = .returned (Q (pw (i % 255).toNat)) ∧ w = w' := by
  obtain ⟨h1, h2, h3⟩ := tmod_bd i
  obtain ⟨r, hr⟩ : ∃ r, i.tmod 255 = r := ⟨_, rfl⟩
  rw [hr] at h1 h2 h3
  rw [← h3]
  have h4 : (0 : Int) ≤ r % 255 := by omega
  have h5 : r % 255 < 255 := by omega
  have hc := hF.exp (r % 255).toNat (by omega)
  clear hF h3
  go_enter Try.func19, Try.ntmps19
  go_wp2
  go_ret
  exact ⟨rfl, rfl⟩
end Go.Proofs.Ytoipbblgbbocnaa
