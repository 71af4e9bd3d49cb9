/-
  The walk of GfMuls: sums and products of any bytes are the document's.
-/
import Derived.Test.YtoipbblgbbocnaaAwake
import Derived.Test.YtoipbblgbbocnaaRef
import Derived.OpenShut
namespace Go.Proofs.Ytoipbblgbbocnaa
open Go.RowKit
set_option maxHeartbeats 400000 in
theorem radd_any (a b : Nat) (ha : a < 256) (hb : b < 256) (w : World) :
    Calls Try.prog 23 #[Q a, Q b] w fun e w' => e = .returned (Q (a ^^^ b)) ∧ w = w' := by
  have hx := xor_lt ha hb
  go_enter Try.func23, Try.ntmps23
  go_wp2_with (go_at_call 32; refine (xor_any a b (by omega) (by omega) _).mono ?_; rintro e w1 ⟨rfl, rfl⟩)
  go_ret
  exact ⟨rfl, rfl⟩

set_option maxRecDepth 100000 in
set_option maxHeartbeats 1600000 in
theorem muls_walk (b off c : Nat) (l : List Nat) (w : World) (hl : ∀ i (h : i < l.length), l[i] < 256) (hn : l.length ≤ maxLen)
    (hc : ∀ i (h : i < l.length), w.cell? ⟨b, off + i, none⟩ = some (Q l[i])) (hb0 : b < w.heap.size) :
    Calls Try.prog 5 #[.slice (some ⟨b, off, none⟩) l.length c] w fun e w' => e = .returned (.bool true) ∧ Below w.heap.size w w' := by
  have HC := Lib.hid hc
  have HL := Lib.hid hl
  have HN := Lib.hid hn
  clear hc hl
  unfold maxLen at hn
  by_cases h40 : 40 < l.length
  · go_enter Try.func5, Try.ntmps5
    go_wp2_with (go_at_call 11; refine (awake_any _).mono ?_; rintro e w1 ⟨rfl, hb1⟩)
    go_ret
    exact ⟨rfl, hb1⟩
  · go_enter Try.func5, Try.ntmps5
    go_wp2
    go_loop [3, 4, 5] (fun s p i => ∃ k : Nat, k ≤ l.length ∧ i = .int .i64 k ∧ s = Q (addL (l.take k)) ∧ p = Q (mulL (l.take k))) (fun _ _ i => l.length - (intOf i).toNat)
    case atStart => exact ⟨0, by omega, rfl, rfl, rfl⟩
    case round =>
      obtain ⟨k, hk, rfl, rfl, rfl⟩ := hrel
      by_cases hlt : k < l.length
      · have hck := HC.out k hlt
        have hx := HL.out k hlt
        have hs := addL_lt l HL.out k hk
        have hp := mulL_lt l k hk
        have HA := Lib.hid (addL_snoc l k hlt)
        have HM := Lib.hid (mulL_snoc l k hlt)
        generalize l[k] = x at hck hx HA HM
        generalize addL (l.take k) = s at hs HA
        generalize mulL (l.take k) = p at hp HM
        go_wp2_with (first | (go_at_call 23; refine (radd_any s x hs hx _).mono ?_; rintro e w1 ⟨rfl, rfl⟩) | (go_at_call 22; refine (rmul_any p x hp hx _).mono ?_; rintro e w1 ⟨rfl, rfl⟩))
        go_round
        case rel => exact ⟨k + 1, by omega, by go_num, by rw [HA.out], by rw [HM.out]⟩
        case measure => simp [intOf]; omega
      · obtain rfl : k = l.length := by omega
        rw [List.take_length]
        go_wp2_with (first | (go_at_call 24; refine (add_any b off c l _ HL.out HN.out HC.out).mono ?_; rintro e w1 ⟨rfl, rfl⟩) | (go_at_call 13; refine (mul_any b off c l _ HL.out HN.out HC.out hb0).mono ?_; rintro e w1 ⟨rfl, hb1⟩) | (go_at_call 11; refine (awake_any _).mono ?_; rintro e w1 ⟨rfl, hb1⟩))
        go_ret
        refine ⟨rfl, ?_⟩
        repeat (first | exact Below.refl _ _ | assumption | (refine thenB ?_ (by assumption)) | refine allocB ?_ _)

set_option maxRecDepth 100000 in
set_option maxHeartbeats 1600000 in
theorem muls_zero (a : Option Addr) (c : Nat) (w : World) :
    Calls Try.prog 5 #[.slice a 0 c] w fun e w' => e = .returned (.bool true) ∧ Below w.heap.size w w' := by
  go_enter Try.func5, Try.ntmps5
  go_wp2
  go_loop [3, 4, 5] (fun s p i => i = .int .i64 0 ∧ s = Q 0 ∧ p = Q 1) (fun _ _ _ => 0)
  case atStart => exact ⟨rfl, rfl, rfl⟩
  case round =>
    obtain ⟨rfl, rfl, rfl⟩ := hrel
    go_wp2_with (first | (go_at_call 24; refine (add_zero a c _).mono ?_; rintro e w1 ⟨rfl, rfl⟩) | (go_at_call 13; refine (mul_zero a c _).mono ?_; rintro e w1 ⟨rfl, hb1⟩) | (go_at_call 11; refine (awake_any _).mono ?_; rintro e w1 ⟨rfl, hb1⟩))
    go_ret
    refine ⟨rfl, ?_⟩
    repeat (first | exact Below.refl _ _ | assumption | (refine thenB ?_ (by assumption)) | refine allocB ?_ _)

/-- What the walk is told of a slice of bytes that came in: it is nil, or it leads to a row of c cells, of which the first n are its elements. -/
def IsBytes (w : World) (a : Option Addr) (n c : Nat) (zs : List Int) : Prop :=
  (a = none ∧ n = 0 ∧ c = 0 ∧ zs = []) ∨
  ∃ x, a = some x ∧ n ≤ c ∧ c ≤ maxLen ∧ zs.length = c ∧ (∀ i, i < zs.length → w.cell? (x.add i) = some (.int .u8 (zs.getD i 0))) ∧ ∀ n ∈ zs, (Lit.int .u8 n).wf = true

theorem muls_all (w : World) (a : Option Addr) (n c : Nat) (zs : List Int) (hs : IsBytes w a n c zs) :
    Calls Try.prog 5 #[.slice a n c] w fun e w' => e = .returned (.bool true) ∧ Below w.heap.size w w' := by
  rcases hs with ⟨rfl, rfl, rfl, rfl⟩ | ⟨p, rfl, hn, hc, hz, hcell, hwf⟩
  · exact muls_zero none 0 w
  · by_cases h0 : n = 0
    · subst h0
      exact muls_zero (some p) c w
    · obtain ⟨b, off, spot⟩ := p
      have hspot : spot = none := by simpa [Addr.add] using World.cell?_spot (hcell 0 (by omega))
      subst hspot
      obtain ⟨l, hl⟩ : ∃ l : List Nat, l = (zs.take n).map Int.toNat := ⟨_, rfl⟩
      have hlen : l.length = n := by rw [hl, List.length_map, List.length_take]; omega
      have hget : ∀ i (h : i < l.length), ∃ h' : i < zs.length, l[i] = zs[i].toNat := by
        intro i h
        subst hl
        have hi : i < zs.length := by rw [hlen] at h; omega
        exact ⟨hi, by rw [List.getElem_map, List.getElem_take]⟩
      have hwf' : ∀ i (h : i < zs.length), 0 ≤ zs[i] ∧ zs[i] ≤ 255 := fun i h => bounds_u8 (hwf _ (List.getElem_mem h))
      have hcell' : ∀ i (h : i < l.length), w.cell? ⟨b, off + i, none⟩ = some (Q l[i]) := by
        intro i h
        obtain ⟨hi, e⟩ := hget i h
        have := hwf' i hi
        rw [← Go.WideShapes.add_plain, hcell i hi, e, List.getD_eq_getElem?_getD, List.getElem?_eq_getElem hi, Option.getD_some]
        exact congrArg some (Q_eq (Int.toNat_of_nonneg this.1).symm)
      have hlt : ∀ i (h : i < l.length), l[i] < 256 := by
        intro i h
        obtain ⟨hi, e⟩ := hget i h
        have := hwf' i hi
        rw [e]; omega
      have hb0 : b < w.heap.size := block_lt_of_cell (hcell' 0 (by omega))
      have := muls_walk b off c l w hlt (by omega) hcell' hb0
      rw [hlen] at this
      exact this
end Go.Proofs.Ytoipbblgbbocnaa
