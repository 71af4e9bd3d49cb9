/-
  Sums of one and of two texts, and texts byte by byte.
-/
import Derived.Test.YthbjgjeehmcdeaaAwake
namespace Go.Proofs.Ythbjgjeehmcdeaa
open Go.RowKit
theorem sum1 (s : ByteArray) (hs : s.size ≤ maxLen) (w : World) :
    Calls Try.prog 11 #[.slice (some ⟨w.heap.size, 0, none⟩) 1 1] (w.alloc (.cells #[.string s] 9)) fun e w' => e = .returned (U (sum s.data.toList)) ∧ Below (w.alloc (.cells #[.string s] 9)).heap.size (w.alloc (.cells #[.string s] 9)) w' :=
  sum_any w.heap.size 0 1 [s] _ (one_size s hs) (one_len s) (one_at w s) (by simp)
theorem sum2 (s t : ByteArray) (hs : s.size ≤ maxLen) (ht : t.size ≤ maxLen) (w : World) :
    Calls Try.prog 11 #[.slice (some ⟨w.heap.size, 0, none⟩) 2 2] (w.alloc (.cells #[.string s, .string t] 9)) fun e w' => e = .returned (U (moreAll ones [s, t])) ∧ Below (w.alloc (.cells #[.string s, .string t] 9)).heap.size (w.alloc (.cells #[.string s, .string t] 9)) w' :=
  sum_any w.heap.size 0 2 [s, t] _ (two_size s t hs ht) (two_len s t) (two_at w s t) (by simp)
theorem sum_sealB (s : ByteArray) : sum (sealB s).data.toList = 0#32 := sum_seal s.data.toList

def byteAt (s : ByteArray) (k : Nat) : Nat := if h : k < s.size then s[k].toNat else 0
theorem byteAt_is (s : ByteArray) (k : Nat) (h : k < s.size) : s[k].toNat = byteAt s k := by unfold byteAt; rw [dif_pos h]
theorem byte_eq {s : ByteArray} {k : Nat} (h : k < s.size) : (s[k].toNat : Int) = (byteAt s k : Int) := by rw [byteAt_is s k h]
theorem list_at (s : ByteArray) (i : Nat) (h : i < s.data.toList.length) : s.data.toList[i].toNat = byteAt s i := by
  have hi : i < s.size := by simpa using h
  rw [← byteAt_is s i hi]; rfl

/-- Where two texts differ among the first k places: nowhere, and both are -1; or from f to l, both places of such bytes. -/
def Ends (s t : ByteArray) (k : Nat) (fv lv : Int) : Prop :=
  (fv = -1 ∧ lv = -1 ∧ ∀ i, i < k → byteAt s i = byteAt t i) ∨
  ∃ f l : Nat, fv = f ∧ lv = l ∧ f ≤ l ∧ l < k ∧ ∀ i, i < k → byteAt s i ≠ byteAt t i → f ≤ i ∧ i ≤ l
theorem Ends.bd {s t : ByteArray} {k : Nat} {fv lv : Int} (h : Ends s t k fv lv) : -1 ≤ fv ∧ -1 ≤ lv ∧ fv ≤ k ∧ lv ≤ k := by
  rcases h with ⟨rfl, rfl, _⟩ | ⟨f, l, rfl, rfl, h1, h2, _⟩ <;> omega
theorem Ends.same {s t : ByteArray} {k : Nat} {fv lv : Int} (h : Ends s t k fv lv) (e : byteAt s k = byteAt t k) : Ends s t (k + 1) fv lv := by
  rcases h with ⟨h1, h2, h3⟩ | ⟨f, l, h1, h2, h3, h4, h5⟩
  · refine .inl ⟨h1, h2, fun i hi => ?_⟩
    by_cases c : i = k
    · subst c; exact e
    · exact h3 i (by omega)
  · refine .inr ⟨f, l, h1, h2, h3, by omega, fun i hi hd => ?_⟩
    by_cases c : i = k
    · subst c; exact absurd e hd
    · exact h5 i (by omega) hd
theorem Ends.first {s t : ByteArray} {k : Nat} {fv lv : Int} (h : Ends s t k fv lv) (hf : fv < 0) : Ends s t (k + 1) k k := by
  rcases h with ⟨h1, h2, h3⟩ | ⟨f, l, h1, h2, h3, h4, h5⟩
  · refine .inr ⟨k, k, rfl, rfl, Nat.le_refl _, by omega, fun i hi hd => ?_⟩
    by_cases c : i = k
    · omega
    · exact absurd (h3 i (by omega)) hd
  · omega
theorem Ends.next {s t : ByteArray} {k : Nat} {fv lv : Int} (h : Ends s t k fv lv) (hf : 0 ≤ fv) : Ends s t (k + 1) fv k := by
  rcases h with ⟨h1, h2, h3⟩ | ⟨f, l, h1, h2, h3, h4, h5⟩
  · omega
  · refine .inr ⟨f, k, h1, rfl, by omega, by omega, fun i hi hd => ?_⟩
    by_cases c : i = k
    · omega
    · have := h5 i (by omega) hd
      omega
theorem Ends.far {s t : ByteArray} {fv lv : Int} (h : Ends s t s.size fv lv) (hl : s.size = t.size) (hne : s.data.toList ≠ t.data.toList) (hs : sum s.data.toList = sum t.data.toList) : 4 ≤ lv - fv := by
  have l1 : s.data.toList.length = s.size := by simp
  have l2 : t.data.toList.length = t.size := by simp
  have hd : ∀ i (h1 : i < s.data.toList.length) (h2 : i < t.data.toList.length), s.data.toList[i] ≠ t.data.toList[i] → byteAt s i ≠ byteAt t i := by
    intro i h1 h2 hn he
    apply hn
    apply UInt8.toNat_inj.1
    rw [list_at s i h1, list_at t i h2, he]
  rcases h with ⟨_, _, h3⟩ | ⟨f, l, rfl, rfl, h3, h4, h5⟩
  · exfalso
    apply hne
    apply List.ext_getElem (by omega)
    intro i h1 h2
    refine Classical.byContradiction fun hn => hd i h1 h2 hn (h3 i (by omega))
  · refine Classical.byContradiction fun hlt => hne ?_
    refine burst _ _ (by omega) f (l - f + 1) (by omega) (fun i h1 hn => ?_) ones hs
    have := h5 i (by omega) (hd i h1 (by omega) hn)
    omega
end Go.Proofs.Ythbjgjeehmcdeaa
