/-
  Bytes that a call itself lays: a row of cells, filled from its head; that row as a string.
-/
import Derived.Test.YthbjgjeehmcdeaaAwake
import Derived.Deep.QuietTactic
import Derived.BigQuiet
import Derived.Deep.RegionHeld3
import Derived.Deep.OwnRows
namespace Go.Proofs.Ythbjgjeehmcdeaa
open Go.RowKit

/-- A byte as a value. -/
abbrev B (b : UInt8) : Value := .int .u8 (b.toNat : Int)
/-- The bytes l as cells, the first k of them laid, 0 behind. -/
def part (l : List UInt8) (k : Nat) : Array Value := Array.ofFn fun i : Fin l.length => if i.val < k then B l[i] else .int .u8 0
theorem part_size (l : List UInt8) (k : Nat) : (part l k).size = l.length := by simp [part]
theorem part_get? (l : List UInt8) (k i : Nat) : (part l k)[i]? = if h : i < l.length then some (if i < k then B l[i] else .int .u8 0) else none := by
  by_cases h : i < l.length
  · rw [Array.getElem?_eq_getElem (by simpa [part] using h)]
    simp [part, h]
  · rw [Array.getElem?_eq_none (by rw [part_size]; omega), dif_neg h]
theorem part_succ (l : List UInt8) (k : Nat) (h : k < l.length) : (part l k).setIfInBounds k (B l[k]) = part l (k + 1) := by
  apply Array.ext_getElem?
  intro i
  rw [Array.getElem?_setIfInBounds, part_get?, part_get?, part_size]
  by_cases e : k = i
  · subst e; simp [h]
  · by_cases hi : i < l.length
    · by_cases hk : i < k
      · simp [e, hi, hk, show i < k + 1 by omega]
      · simp [e, hi, hk, show ¬ i < k + 1 by omega]
    · simp [e, hi]
theorem part_zero (l : List UInt8) : part l 0 = madeCells #[.int .u8 0] l.length := by
  apply Array.ext_getElem?
  intro i
  rw [part_get?]
  by_cases hi : i < l.length
  · simp [hi, madeCells, Nat.mod_one]
  · simp [hi, madeCells]
theorem part_cell {w : World} {g k i : Nat} {l : List UInt8} {e : TypeId} {fr : Nat × Nat} (h : w.heap[g]? = some (.cells (part l k) e fr)) (hi : i < l.length) :
    w.cell? ⟨g, i, none⟩ = some (if i < k then B l[i] else .int .u8 0) := by
  rw [cell_of_row w _ _ _ _ _ h, part_get?, dif_pos hi]
theorem part_conv {w : World} {g : Nat} {l : List UInt8} {e : TypeId} {fr : Nat × Nat} (h : w.heap[g]? = some (.cells (part l l.length) e fr)) :
    (convert 32 9 (.slice (some ⟨g, 0, none⟩) l.length l.length)).run Try.prog w = .ok (.string (bytesOf l)) w := by
  have e1 : bytesOf l = strOfNums (l.map fun b => (b.toNat : Int)) := by
    unfold bytesOf strOfNums
    rw [List.map_map]
    have : l.map ((fun n : Int => UInt8.ofNat n.toNat) ∘ fun b : UInt8 => (b.toNat : Int)) = l := by
      conv => rhs; rw [← List.map_id l]
      apply List.map_congr_left
      intro b _
      apply UInt8.toNat_inj.1
      have := b.toNat_lt
      simp
    rw [this]
  rw [e1]
  refine run_convert_bytes_arg _ 32 5 Try.underlying32 Try.underlying5 g 0 l.length l.length (l.map fun b => (b.toNat : Int)) (by simp) ?_ 9 Try.underlying9
  intro i hi
  rw [Nat.zero_add, part_cell h hi, if_pos hi]
  simp [List.getD_eq_getElem?_getD, List.getElem?_eq_getElem hi]
theorem part_conv' {w : World} {g n : Nat} {l : List UInt8} {e : TypeId} {fr : Nat × Nat} (hn : l.length = n) (h : w.heap[g]? = some (.cells (part l n) e fr)) :
    (convert 32 9 (.slice (some ⟨g, 0, none⟩) n n)).run Try.prog w = .ok (.string (bytesOf l)) w := by
  subst hn; exact part_conv h
theorem Try.info5 : (Try.prog.info? 5).map (fun i => (i.zero, i.size, i.bytes)) = some (some (.int .u8 0), 1, 1) := by kernel_rfl
end Go.Proofs.Ythbjgjeehmcdeaa
