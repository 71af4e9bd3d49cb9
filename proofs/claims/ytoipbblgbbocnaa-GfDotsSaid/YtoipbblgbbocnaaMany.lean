/-
  The walks of gf.Mul and gf.Add over any number of bytes.
-/
import Derived.Test.YtoipbblgbbocnaaOnce
namespace Go.Proofs.Ytoipbblgbbocnaa
open Go.RowKit
def addL (l : List Nat) : Nat := l.foldl (· ^^^ ·) 0
def mulL (l : List Nat) : Nat := l.foldl gm 1
theorem addL_snoc (l : List Nat) (k : Nat) (h : k < l.length) : addL (l.take (k + 1)) = addL (l.take k) ^^^ l[k] := by
  unfold addL; rw [List.take_succ_eq_append_getElem h, List.foldl_append]; rfl
theorem mulL_snoc (l : List Nat) (k : Nat) (h : k < l.length) : mulL (l.take (k + 1)) = gm (mulL (l.take k)) l[k] := by
  unfold mulL; rw [List.take_succ_eq_append_getElem h, List.foldl_append]; rfl
theorem addL_lt (l : List Nat) (hl : ∀ i (h : i < l.length), l[i] < 256) (k : Nat) : k ≤ l.length → addL (l.take k) < 256 := by
  induction k with
  | zero => intro _; simp [addL]
  | succ k ih => intro h; rw [addL_snoc l k h]; exact xor_lt (ih (by omega)) (hl k h)
theorem mulL_lt (l : List Nat) (k : Nat) : k ≤ l.length → mulL (l.take k) < 256 := by
  cases k with
  | zero => intro _; simp [mulL]
  | succ k => intro h; rw [mulL_snoc l k h]; exact gm_lt _ _
theorem bcell {w W1 : World} {B : Nat} (hb : Below B w W1) : ∀ b o, b < B → W1.cell? ⟨b, o, none⟩ = w.cell? ⟨b, o, none⟩ :=
  fun b o h => hb.cell (p := ⟨b, o, none⟩) h
theorem xor_val (a b : Nat) (ha : a < 256) (hb : b < 256) : bits BinOp.xor IntKind.u8 (a : Int) (b : Int) = ((a ^^^ b : Nat) : Int) := u8_xor_nat a b ha hb

set_option maxRecDepth 100000 in
set_option maxHeartbeats 800000 in
theorem mul_any (b off c : Nat) (l : List Nat) (w : World) (hl : ∀ i (h : i < l.length), l[i] < 256) (hn : l.length ≤ maxLen)
    (hc : ∀ i (h : i < l.length), w.cell? ⟨b, off + i, none⟩ = some (Q l[i])) (hb0 : b < w.heap.size) :
    Calls Try.prog 13 #[.slice (some ⟨b, off, none⟩) l.length c] w fun e w' => e = .returned (Q (mulL l)) ∧ Below w.heap.size w w' := by
  unfold maxLen at hn
  go_enter Try.func13, Try.ntmps13
  go_wp2_with (go_at_call 16; refine (new_any _).mono ?_; rintro e w1 ⟨rfl, hF, hb1⟩)
  go_loopw [4, 10] (fun r i wr => ∃ k : Nat, k ≤ l.length ∧ i = .int .i64 k ∧ r = Q (mulL (l.take k)) ∧ IsF wr w.heap.size 255 ∧ Below w.heap.size w wr) (fun _ i _ => l.length - (intOf i).toNat)
  case atStart => exact ⟨0, by omega, rfl, rfl, hF, hb1⟩
  case round =>
    clear hF hb1
    obtain ⟨k, hk, rfl, rfl, hF, hB⟩ := hrel
    by_cases hlt : k < l.length
    · have hck : wr.cell? ⟨b, off + k, none⟩ = some (Q l[k]) := (bcell hB _ _ hb0).trans (hc k hlt)
      have hx := hl k hlt
      have hm := mulL_lt l k hk
      have HS := Lib.hid (mulL_snoc l k hlt)
      have HC := Lib.hid hc
      have HL := Lib.hid hl
      clear hc hl
      generalize l[k] = x at hck hx HS
      generalize mulL (l.take k) = m at hm HS
      go_wp2_with (go_at_call 17; refine (fmul_any _ _ _ hm hx _ hF).mono ?_; rintro e w2 ⟨rfl, n, rfl⟩)
      go_roundw
      case rel => exact ⟨k + 1, by omega, by go_num, by rw [HS.out], hF, below_drewN hB _⟩
      case measure => simp [intOf]; omega
    · obtain rfl : k = l.length := by omega
      clear hc hl
      go_wp2
      go_ret
      refine ⟨?_, hB⟩
      rw [List.take_length]
      rfl

set_option maxRecDepth 100000 in
set_option maxHeartbeats 800000 in
theorem mul_zero (a : Option Addr) (c : Nat) (w : World) :
    Calls Try.prog 13 #[.slice a 0 c] w fun e w' => e = .returned (Q 1) ∧ Below w.heap.size w w' := by
  go_enter Try.func13, Try.ntmps13
  go_wp2_with (go_at_call 16; refine (new_any _).mono ?_; rintro e w1 ⟨rfl, hF, hb1⟩)
  go_loop [4, 10] (fun r i => r = Q 1 ∧ i = .int .i64 0) (fun _ _ => 0)
  case atStart => exact ⟨rfl, rfl⟩
  case round =>
    obtain ⟨rfl, rfl⟩ := hrel
    go_wp2
    go_ret
    exact ⟨rfl, hb1⟩

set_option maxRecDepth 100000 in
set_option maxHeartbeats 800000 in
theorem add_any (b off c : Nat) (l : List Nat) (w : World) (hl : ∀ i (h : i < l.length), l[i] < 256) (hn : l.length ≤ maxLen)
    (hc : ∀ i (h : i < l.length), w.cell? ⟨b, off + i, none⟩ = some (Q l[i])) :
    Calls Try.prog 24 #[.slice (some ⟨b, off, none⟩) l.length c] w fun e w' => e = .returned (Q (addL l)) ∧ w = w' := by
  unfold maxLen at hn
  go_enter Try.func24, Try.ntmps24
  have HC := Lib.hid hc
  have HL := Lib.hid hl
  clear hc hl
  go_wp2
  go_loop [3, 8] (fun r i => ∃ k : Nat, k ≤ l.length ∧ i = .int .i64 k ∧ r = Q (addL (l.take k))) (fun _ i => l.length - (intOf i).toNat)
  case atStart => exact ⟨0, by omega, rfl, rfl⟩
  case round =>
    obtain ⟨k, hk, rfl, rfl⟩ := hrel
    by_cases hlt : k < l.length
    · have hck := HC.out k hlt
      have HX := Lib.hid (xor_val _ _ (addL_lt l HL.out k hk) (HL.out k hlt))
      have HS := Lib.hid (addL_snoc l k hlt)
      generalize l[k] = x at hck HS HX
      go_wp2
      go_round
      case rel => exact ⟨k + 1, by omega, by go_num, by rw [HS.out]; exact Q_eq HX.out⟩
      case measure => simp [intOf]; omega
    · obtain rfl : k = l.length := by omega
      go_wp2
      go_ret
      exact ⟨rfl, rfl⟩
set_option maxRecDepth 100000 in
set_option maxHeartbeats 800000 in
theorem add_zero (a : Option Addr) (c : Nat) (w : World) :
    Calls Try.prog 24 #[.slice a 0 c] w fun e w' => e = .returned (Q 0) ∧ w = w' := by
  go_enter Try.func24, Try.ntmps24
  go_wp2
  go_loop [3, 8] (fun r i => r = Q 0 ∧ i = .int .i64 0) (fun _ _ => 0)
  case atStart => exact ⟨rfl, rfl⟩
  case round =>
    obtain ⟨rfl, rfl⟩ := hrel
    go_wp2
    go_ret
    exact ⟨rfl, rfl⟩
end Go.Proofs.Ytoipbblgbbocnaa
