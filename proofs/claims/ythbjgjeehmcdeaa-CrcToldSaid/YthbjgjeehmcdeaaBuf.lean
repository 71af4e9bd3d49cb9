/-
  A string's bytes in a row of the call's own, turned one by one; what becomes of the check sum.
-/
import Derived.Test.YthbjgjeehmcdeaaSums
import Derived.Test.YthbjgjeehmcdeaaBytes
import Derived.Lib.ConvBytes
namespace Go.Proofs.Ythbjgjeehmcdeaa
open Go.RowKit

/-- From block g's head on lie the bytes l, and they may be written. -/
def BufAt (W : World) (g : Nat) (l : List UInt8) : Prop :=
  ∀ i (h : i < l.length), W.cell? ⟨g, i, none⟩ = some (B l[i]) ∧ W.frozen? ⟨g, i, none⟩ = false
theorem BufAt.set {W : World} {g k : Nat} {l : List UInt8} (h : BufAt W g l) (hk : k < l.length) (v : UInt8) : BufAt (W.setCell ⟨g, k, none⟩ (B v)) g (l.set k v) := by
  intro i hi
  have hi' : i < l.length := by simpa using hi
  refine ⟨?_, by rw [World.frozen?_setCell]; exact (h i hi').2⟩
  by_cases e : k = i
  · subst e
    rw [World.cell?_setCell_same _ _ _ (h k hk).1, List.getElem_set_self]
  · rw [World.cell?_setCell_other _ _ _ _ (fun q => e (congrArg Addr.off q)), (h i hi').1, List.getElem_set_ne (by omega)]
theorem BufAt.drewN {W : World} {g : Nat} {l : List UInt8} (h : BufAt W g l) (n : Nat) : BufAt (W.drewN n) g l := h
theorem BufAt.conv {W : World} {g c n : Nat} {l : List UInt8} (h : BufAt W g l) (hn : l.length = n) : (convert 32 9 (.slice (some ⟨g, 0, none⟩) n c)).run Try.prog W = .ok (.string (bytesOf l)) W := by
  subst hn
  refine run_convert_bytes_back W 32 9 5 ⟨g, 0, none⟩ c l Try.underlying32 Try.underlying5 Try.underlying9 (fun j hj => ?_)
  have e : (⟨g, 0, none⟩ : Addr).add j = ⟨g, j, none⟩ := by unfold Addr.add; split <;> simp_all
  rw [e]
  exact (h j hj).1
theorem BufAt.start (w : World) (s : ByteArray) : BufAt (Lib.bytesWorld w 5 s) w.heap.size s.data.toList := by
  intro i h
  have hi : i < s.size := by simpa using h
  refine ⟨?_, ?_⟩
  · rw [Lib.bytesWorld_cell w 5 s i hi]
    simp [List.getD_eq_getElem?_getD, hi]
  · unfold World.frozen?
    rw [Lib.bytesWorld_at_new]
    have : s.size ≤ (Lib.bytesCells w 5 s).size := by
      unfold Lib.bytesCells
      rw [Array.size_append, Array.size_map]
      have : s.data.size = s.size := rfl
      omega
    simp
    omega
theorem bytesWorld_below (w : World) (s : ByteArray) : Below w.heap.size w (Lib.bytesWorld w 5 s) :=
  ⟨by unfold Lib.bytesWorld World.freeze; rfl, by unfold Lib.bytesWorld World.freeze; rfl, by unfold Lib.bytesWorld World.freeze; rfl, by rw [Lib.bytesWorld_size]; omega, fun k hk => Lib.bytesWorld_at_old w 5 s k hk⟩

/-! ## The bytes turned -/
/-- The first j of the places from k on turned by tb. -/
def turned (L : List UInt8) (k : Nat) (tb : Nat → UInt8) : Nat → List UInt8
  | 0 => L
  | j + 1 => (turned L k tb j).set (k + j) (((turned L k tb j).getD (k + j) 0) ^^^ tb j)
theorem turned_succ (L : List UInt8) (k : Nat) (tb : Nat → UInt8) (j : Nat) : turned L k tb (j + 1) = (turned L k tb j).set (k + j) (((turned L k tb j).getD (k + j) 0) ^^^ tb j) := rfl
theorem turned_len (L : List UInt8) (k : Nat) (tb : Nat → UInt8) : ∀ j, (turned L k tb j).length = L.length
  | 0 => rfl
  | j + 1 => by rw [turned_succ, List.length_set, turned_len L k tb j]
theorem turned_get (L : List UInt8) (k : Nat) (tb : Nat → UInt8) : ∀ j i (_ : i < L.length), (turned L k tb j).getD i 0 = L.getD i 0 ^^^ (if k ≤ i ∧ i < k + j then tb (i - k) else 0)
  | 0, i, h => by rw [if_neg (by omega)]; simp [turned]
  | j + 1, i, h => by
    have hl := turned_len L k tb j
    rw [turned_succ, List.getD_eq_getElem?_getD, List.getElem?_set]
    by_cases e : k + j = i
    · rw [if_pos e, if_pos (by omega), if_pos (by omega), Option.getD_some, turned_get L k tb j _ (by omega), if_neg (by omega), e, show i - k = j by omega]
      simp
    · rw [if_neg e, ← List.getD_eq_getElem?_getD, turned_get L k tb j i h]
      congr 1
      by_cases c : k ≤ i ∧ i < k + j
      · rw [if_pos c, if_pos (by omega)]
      · rw [if_neg c, if_neg (by omega)]
/-- Is one of the first j turns none? -/
def anyTurn (tb : Nat → UInt8) : Nat → Bool
  | 0 => false
  | j + 1 => anyTurn tb j || (tb j != 0)
theorem anyTurn_succ (tb : Nat → UInt8) (j : Nat) : anyTurn tb (j + 1) = (anyTurn tb j || (tb j != 0)) := rfl
theorem anyTurn_false (tb : Nat → UInt8) : ∀ j, anyTurn tb j = false → ∀ i, i < j → tb i = 0
  | 0, _, i, hi => by omega
  | j + 1, h, i, hi => by
    rw [anyTurn_succ, Bool.or_eq_false_iff] at h
    by_cases e : i = j
    · subst e; simpa using h.2
    · exact anyTurn_false tb j h.1 i (by omega)
theorem anyTurn_true (tb : Nat → UInt8) : ∀ j, anyTurn tb j = true → ∃ i, i < j ∧ tb i ≠ 0
  | 0, h => by simp [anyTurn] at h
  | j + 1, h => by
    rw [anyTurn_succ, Bool.or_eq_true] at h
    rcases h with h | h
    · obtain ⟨i, hi, ht⟩ := anyTurn_true tb j h
      exact ⟨i, by omega, ht⟩
    · exact ⟨j, by omega, by simpa using h⟩
theorem turned_same (L : List UInt8) (k : Nat) (tb : Nat → UInt8) (j : Nat) (h : anyTurn tb j = false) : turned L k tb j = L := by
  have h0 := anyTurn_false tb j h
  apply List.ext_getElem (turned_len L k tb j)
  intro i h1 h2
  have := turned_get L k tb j i h2
  rw [List.getD_eq_getElem?_getD, List.getElem?_eq_getElem h1, List.getD_eq_getElem?_getD, List.getElem?_eq_getElem h2] at this
  simp only [Option.getD_some] at this
  rw [this]
  split
  · rw [h0 _ (by omega)]; simp
  · simp
theorem turned_sum (L : List UInt8) (k : Nat) (tb : Nat → UInt8) (j : Nat) (hj : j ≤ 4) (hk : k + j ≤ L.length) (h : anyTurn tb j = true) (h0 : sum L = 0#32) : sum (turned L k tb j) ≠ 0#32 := by
  intro hs
  obtain ⟨i, hi, ht⟩ := anyTurn_true tb j h
  have hl := turned_len L k tb j
  have e : turned L k tb j = L := by
    refine burst _ _ hl k j hj (fun i h1 hn => ?_) ones (hs.trans h0.symm)
    refine Classical.byContradiction fun hc => hn ?_
    have := turned_get L k tb j i (by omega)
    rw [if_neg hc, List.getD_eq_getElem?_getD, List.getElem?_eq_getElem h1, List.getD_eq_getElem?_getD, List.getElem?_eq_getElem (by omega)] at this
    simpa using this
  have := turned_get L k tb j (k + i) (by omega)
  rw [e, if_pos (by omega), show k + i - k = i by omega] at this
  apply ht
  have h2 : L.getD (k + i) 0 ^^^ L.getD (k + i) 0 = L.getD (k + i) 0 ^^^ (L.getD (k + i) 0 ^^^ tb i) := by rw [← this]
  rw [UInt8.xor_self, ← UInt8.xor_assoc, UInt8.xor_self, UInt8.zero_xor] at h2
  exact h2.symm

/-! ## What was sealed is opened -/
theorem extract_seal (s : ByteArray) : (sealB s).extract 0 ((sealB s).size - 4) = s := by
  apply ByteArray.ext
  apply Array.ext'
  have h1 : s.data.toList.length = s.size := by simp
  have := extract_list (sealB s) ((sealB s).size - 4)
  rw [this, sealB_size, show s.size + 4 - 4 = s.size by omega]
  show (sealed s.data.toList).take s.size = s.data.toList
  unfold sealed
  rw [List.take_append_of_le_length (by omega), List.take_of_length_le (by omega)]
theorem open_sealed (s : ByteArray) (hs : s.size ≤ 600) (w : World) :
    Calls Try.prog 14 #[.string (sealB s)] w fun e w' => e = .returned (.tuple #[.string s, .int .i64 0]) ∧ Below w.heap.size w w' := by
  have h := open_ok (sealB s) (by rw [sealB_size]; omega) (by rw [sealB_size]; omega) (sum_sealB s) w
  rwa [extract_seal] at h
end Go.Proofs.Ythbjgjeehmcdeaa
