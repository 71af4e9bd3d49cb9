/-
  What an array of integers that came in is: its value written out, each cell a number that fits its kind.
-/
import Derived.Test.YthbjgjeehmcdeaaRows
import Derived.ProofKit
import Derived.OpenShut
import Derived.Lib.SmallJoins
namespace Go.Proofs.Ythbjgjeehmcdeaa
open Go.ChangeShapes Go.WideShapes Go.ChangeAt Go.RowKit

theorem arr_cells {P : Program} {w : World} {r : Reach} {b n : Nat} {t e : TypeId} {v : Value} (ht : P.underlying t = some (.array n e)) (h : Value.okWide P w r b t v) : ∃ cs, v = .agg cs ∧ cs.size = P.cellsOf t := by
  simp only [Value.okWide, ht] at h
  obtain ⟨cs, h1, h2, _⟩ := h
  exact ⟨cs, h1, h2⟩

section
variable {H : Type} {enc : TypeId × Value → H} {P : Program} {w : World} {base : Nat} {spare : Nat → Bool} {held : Bool}

theorem is_arr2 {r : Reach} {b : Nat} {t e : TypeId} {k : IntKind} {v : Value} {d : DataW H} {p : List MemPlace} (ht : P.underlying t = some (.array 2 e)) (he : P.underlying e = some (.int k)) (hC : P.cellsOf t = 2) (hce : P.cellsOf e = 1)
    (hv : Value.okWide P w r b t v) (h : DataW.Trod enc P w base spare held t v d p) :
    ∃ x y : Int, v = .agg #[.int k x, .int k y] ∧ (Lit.int k x).wf = true ∧ (Lit.int k y).wf = true := by
  obtain ⟨cs, rfl, hsz⟩ := arr_cells ht hv
  obtain ⟨fuel, hf⟩ := h
  obtain ⟨l⟩ := cs
  have hl : l.length = 2 := by simpa [hC] using hsz
  match l, hl with
  | [c0, c1], _ =>
    obtain ⟨xs, m, _, _, _, hx, hi⟩ := DataW.trod_array ht hf
    have h0 := hi 0 (by omega)
    have h1 := hi 1 (by omega)
    simp [Value.cells, hce] at h0 h1
    rw [List.getElem?_eq_getElem (by omega)] at h0 h1
    obtain ⟨x, e0, _, wx⟩ := DataW.trod_int he h0
    obtain ⟨y, e1, _, wy⟩ := DataW.trod_int he h1
    simp only [List.cons.injEq, and_true] at e0 e1
    subst e0 e1
    exact ⟨x, y, rfl, wx, wy⟩

theorem is_arr4 {r : Reach} {b : Nat} {t e : TypeId} {k : IntKind} {v : Value} {d : DataW H} {p : List MemPlace} (ht : P.underlying t = some (.array 4 e)) (he : P.underlying e = some (.int k)) (hC : P.cellsOf t = 4) (hce : P.cellsOf e = 1)
    (hv : Value.okWide P w r b t v) (h : DataW.Trod enc P w base spare held t v d p) :
    ∃ x y z u : Int, v = .agg #[.int k x, .int k y, .int k z, .int k u] ∧ (Lit.int k x).wf = true ∧ (Lit.int k y).wf = true ∧ (Lit.int k z).wf = true ∧ (Lit.int k u).wf = true := by
  obtain ⟨cs, rfl, hsz⟩ := arr_cells ht hv
  obtain ⟨fuel, hf⟩ := h
  obtain ⟨l⟩ := cs
  have hl : l.length = 4 := by simpa [hC] using hsz
  match l, hl with
  | [c0, c1, c2, c3], _ =>
    obtain ⟨xs, m, _, _, _, hx, hi⟩ := DataW.trod_array ht hf
    have h0 := hi 0 (by omega)
    have h1 := hi 1 (by omega)
    have h2 := hi 2 (by omega)
    have h3 := hi 3 (by omega)
    simp [Value.cells, hce] at h0 h1 h2 h3
    rw [List.getElem?_eq_getElem (by omega)] at h0 h1 h2 h3
    obtain ⟨x, e0, _, wx⟩ := DataW.trod_int he h0
    obtain ⟨y, e1, _, wy⟩ := DataW.trod_int he h1
    obtain ⟨z, e2, _, wz⟩ := DataW.trod_int he h2
    obtain ⟨u, e3, _, wu⟩ := DataW.trod_int he h3
    simp only [List.cons.injEq, and_true] at e0 e1 e2 e3
    subst e0 e1 e2 e3
    exact ⟨x, y, z, u, rfl, wx, wy, wz, wu⟩
end
theorem reg_is {a : Int} (h : (Lit.int .u32 a).wf = true) : ∃ x : BitVec 32, a = (x.toNat : Int) := by
  have hb := bounds_u32 h
  refine ⟨BitVec.ofNat 32 a.toNat, ?_⟩
  rw [BitVec.toNat_ofNat]
  omega
theorem byte_is {a : Int} (h : (Lit.int .u8 a).wf = true) : ∃ x : UInt8, a = (x.toNat : Int) := by
  have hb := bounds_u8 h
  refine ⟨UInt8.ofNat a.toNat, ?_⟩
  rw [UInt8.toNat_ofNat']
  omega
end Go.Proofs.Ythbjgjeehmcdeaa
