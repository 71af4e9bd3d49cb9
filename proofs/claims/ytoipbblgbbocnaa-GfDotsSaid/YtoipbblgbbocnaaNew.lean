/-
  The walk of gf.New: a Field in new memory, its powers of 2 twice over and its logarithms.
-/
import Derived.Test.YtoipbblgbbocnaaRows
import Derived.Test.YtoipbblgbbocnaaPlain
import Derived.WalkKit
import Derived.WalkSpells
import Derived.WalkLawsBesides
import Derived.Lib.Hide
import Derived.BigRegion
namespace Go.Proofs.Ytoipbblgbbocnaa
open Go.RowKit
/-- Cell i of a Field whose tables are laid up to k: powers of 2 twice over, then logarithms. -/
def fcell (k i : Nat) : Value :=
  if i < 255 then .int .u8 (if i < k then (pw i : Int) else 0)
  else if i < 510 then .int .u8 (if i - 255 < k then (pw (i - 255) : Int) else 0)
  else .int .i64 (if i - 510 ≠ 0 ∧ lg (i - 510) < k then (lg (i - 510) : Int) else 0)
def fld (k : Nat) : Array Value := Array.ofFn fun i : Fin 766 => fcell k i.val
theorem fld_size (k : Nat) : (fld k).size = 766 := by simp [fld]
theorem fld_get? (k i : Nat) : (fld k)[i]? = if i < 766 then some (fcell k i) else none := by
  by_cases h : i < 766
  · rw [Array.getElem?_eq_getElem (by simpa [fld] using h)]
    simp [fld, h]
  · rw [Array.getElem?_eq_none (by rw [fld_size]; omega), if_neg h]
def zf : Array Value := Array.replicate 510 (.int .u8 0) ++ Array.replicate 256 (.int .i64 0)
theorem zero52 (w : World) : (zeroValue 52).run Try.prog w = .ok (.agg zf) w := by kernel_rfl
theorem fld_zero : fld 0 = zf := by
  apply Array.ext_getElem?
  intro i
  rw [fld_get?]
  unfold zf fcell
  rw [Array.getElem?_append, Array.getElem?_replicate, Array.getElem?_replicate, Array.size_replicate]
  by_cases h1 : i < 255
  · simp [h1, show i < 510 by omega, show i < 766 by omega]
  · by_cases h2 : i < 510
    · simp [h1, h2, show i < 766 by omega]
    · by_cases h3 : i < 766
      · simp [h1, h2, h3, show i - 510 < 256 by omega]
      · simp [h2, h3, show ¬ i - 510 < 256 by omega]
def IsF (W : World) (g k : Nat) : Prop := W.heap[g]? = some (.cells (fld k) 52 (0, 0))
theorem IsF.cell {W : World} {g k : Nat} (h : IsF W g k) (i : Nat) (hi : i < 766) : W.cell? ⟨g, i, none⟩ = some (fcell k i) := by
  rw [cell_of_row W _ _ _ _ _ h, fld_get?, if_pos hi]
theorem IsF.free {W : World} {g k : Nat} (h : IsF W g k) (i : Nat) : W.frozen? ⟨g, i, none⟩ = false := frozen_of_row W _ _ _ _ h
theorem fld_step (k : Nat) (hk : k < 255) : (((fld k).setIfInBounds k (.int .u8 (pw k : Int))).setIfInBounds (k + 255) (.int .u8 (pw k : Int))).setIfInBounds (510 + pw k) (.int .i64 (k : Int)) = fld (k + 1) := by
  have hp := pw_lt k
  have hp0 := pw_ne k
  have hlp : lg (pw k) = k := by rw [lg_pw]; omega
  apply Array.ext_getElem?
  intro i
  rw [Array.getElem?_setIfInBounds, Array.getElem?_setIfInBounds, Array.getElem?_setIfInBounds]
  simp only [Array.size_setIfInBounds, fld_size, fld_get?]
  by_cases h : i < 766
  · simp only [if_pos h]
    unfold fcell
    by_cases e3 : 510 + pw k = i
    · subst e3
      simp [hp0, hlp, show ¬ 510 + pw k < 255 by omega, show ¬ 510 + pw k < 510 by omega, show 510 + pw k < 766 by omega]
    · rw [if_neg e3]
      by_cases e2 : k + 255 = i
      · subst e2
        simp [show ¬ k + 255 < 255 by omega, show k + 255 < 510 by omega, show k + 255 < 766 by omega]
      · rw [if_neg e2]
        by_cases e1 : k = i
        · subst e1
          simp [hk, show k < 766 by omega]
        · rw [if_neg e1]
          by_cases h1 : i < 255
          · by_cases l : i < k
            · simp [h1, l, show i < k + 1 by omega]
            · simp [h1, l, show ¬ i < k + 1 by omega]
          · by_cases h2 : i < 510
            · by_cases l : i - 255 < k
              · simp [h1, h2, l, show i - 255 < k + 1 by omega]
              · simp [h1, h2, l, show ¬ i - 255 < k + 1 by omega]
            · simp only [if_neg h1, if_neg h2]
              by_cases h0 : i - 510 = 0
              · simp [h0]
              · by_cases l : lg (i - 510) < k
                · simp [h0, l, show lg (i - 510) < k + 1 by omega]
                · have : ¬ lg (i - 510) < k + 1 := by
                    intro hl
                    have e : lg (i - 510) = k := by omega
                    have := pw_lg (by omega : i - 510 < 256) h0
                    rw [e] at this
                    omega
                  simp [h0, l, this]
  · simp [h, show ¬ 510 + pw k = i by omega, show ¬ k + 255 = i by omega, show ¬ k = i by omega]
theorem IsF.step {W : World} {g k : Nat} (h : IsF W g k) (hk : k < 255) :
    IsF (((W.setCell ⟨g, k, none⟩ (.int .u8 (pw k : Int))).setCell ⟨g, k + 255, none⟩ (.int .u8 (pw k : Int))).setCell ⟨g, 510 + pw k, none⟩ (.int .i64 (k : Int))) g (k + 1) := by
  have h1 := heap_setCell_same W g k (fld k) 52 (.int .u8 (pw k : Int)) h
  have h2 := heap_setCell_same _ g (k + 255) _ 52 (.int .u8 (pw k : Int)) h1
  have h3 := heap_setCell_same _ g (510 + pw k) _ 52 (.int .i64 (k : Int)) h2
  rw [fld_step k hk] at h3
  exact h3
theorem xt_pos : ∀ x : Nat, x < 256 → 128 ≤ x → bits BinOp.xor IntKind.i64 ((x : Int) * (2 : Int)) 285 = (xt x : Int) := by decide +kernel
theorem xt_neg : ∀ x : Nat, x < 256 → x < 128 → (x : Int) * (2 : Int) = (xt x : Int) := by decide +kernel
theorem I_eq {a b : Int} (h : a = b) : Value.int .i64 a = .int .i64 b := by rw [h]
theorem Q_eq {a b : Int} (h : a = b) : Value.int .u8 a = .int .u8 b := by rw [h]
set_option maxRecDepth 100000 in
set_option maxHeartbeats 800000 in
theorem new_any (w : World) :
    Calls Try.prog 16 #[] w fun e w' => e = .returned (.pointer (some ⟨w.heap.size, 0, none⟩)) ∧ IsF w' w.heap.size 255 ∧ Below w.heap.size w w' := by
  have kb := zero52
  go_enter Try.func16, Try.ntmps16
  go_wp2
  clear kb
  go_loopw [2, 6] (fun x i wr => ∃ k : Nat, k ≤ 255 ∧ i = .int .i64 k ∧ x = .int .i64 (pw k : Nat) ∧ IsF wr w.heap.size k ∧ Below w.heap.size w wr) (fun _ i _ => 255 - (intOf i).toNat)
  case atStart => exact ⟨0, by omega, rfl, rfl, by unfold IsF; rw [fld_zero]; exact heap_alloc_new w _, (Below.refl _ _).alloc (Nat.le_refl _) _⟩
  case round =>
    obtain ⟨k, hk, rfl, rfl, hF, hB⟩ := hrel
    by_cases hlt : k < 255
    · have hx := pw_lt k
      have hc1 := hF.cell k (by omega)
      have hc2 := hF.cell (k + 255) (by omega)
      have hc3 := hF.cell (510 + pw k) (by omega)
      have hf1 := hF.free k
      have hf2 := hF.free (k + 255)
      have hf3 := hF.free (510 + pw k)
      have HF := Lib.hid hF
      clear hF
      have HS := Lib.hid (pw_succ k)
      generalize fcell k k = v1 at hc1
      generalize fcell k (k + 255) = v2 at hc2
      generalize fcell k (510 + pw k) = v3 at hc3
      by_cases h7 : 128 ≤ pw k
      · have HX := Lib.hid (xt_pos (pw k) hx h7)
        go_wp2
        go_region
        go_wp2
        go_roundw
        case rel => exact ⟨k + 1, by omega, by go_num, by rw [HS.out]; exact I_eq HX.out, HF.out.step hlt, (((hB.setCell (Nat.le_refl _) _).setCell (Nat.le_refl _) _).setCell (Nat.le_refl _) _).drew⟩
        case measure => simp [intOf]; omega
      · have HX := Lib.hid (xt_neg (pw k) hx (by omega))
        go_wp2
        go_region
        go_wp2
        go_roundw
        case rel => exact ⟨k + 1, by omega, by go_num, by rw [HS.out]; exact I_eq HX.out, HF.out.step hlt, (((hB.setCell (Nat.le_refl _) _).setCell (Nat.le_refl _) _).setCell (Nat.le_refl _) _).drew⟩
        case measure => simp [intOf]; omega
    · obtain rfl : k = 255 := by omega
      go_wp2
      go_ret
      exact ⟨rfl, hF, hB⟩
end Go.Proofs.Ytoipbblgbbocnaa
