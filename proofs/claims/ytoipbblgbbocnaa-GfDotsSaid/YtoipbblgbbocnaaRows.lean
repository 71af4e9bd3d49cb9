/-
  No cell of these rows narrows 'for every input' (looked for: loops, veiled, ifaces, maps, wideKeys, modest, calm, conditions, laid).
  DERIVED. THE GIVEN ROWS OF THIS SEAT. 8 by the template 'for every input the law returns true; each argument reads behind the call as it read before'; 0 by the template 'total and deterministic' (their statements: YtoipbblgbbocnaaTotals.lean).
  GIVEN WITH THE SEED: the statements are not yours to turn. If you find one false, say at which input.
  Laid BY PROGRAM, IN A SANDBOX (cutbox-rows.mjs): the forced cells as the released guide's own fill.sh prints them over the translation a2c18290620e62ae… (all of the seat's roots in one cut). By AI agents, Wed Nov 11 2026. No macro, syntax, notation, axiom, sorry.
-/
import Derived.Test.YtoipbblgbbocnaaChecked
import GoSem.Claim
import GoSem.ClaimJoined
import GoSem.ClaimMapViews
import Derived.JoinedTies
import Derived.KernelRfl
namespace Go.Proofs.Ytoipbblgbbocnaa
/- THE CELL 'sum', in the pinned program and in every row, IS THE sha256 OF THE DUMP (.gsa) THAT YtoipbblgbbocnaaProg.lean LOADS. Nothing in Lean hashes anything: it is a label: what it is worth is what the hold of that sum in a sandbox is worth. -/
noncomputable def Try.pinned : Pinned := { name := "ytoipbblgbbocnaa", sum := "a2c18290620e62ae8621ff7167685eb5f2ab28f9c1c8b4524bccb322910ecff1", checked := Try.checked }
namespace Rows
def none {H : Type} : Left H := { results := [], args := [] }

/-- 'clarionlaw01.GfLogs': WHATEVER THE INPUT: true; the input reads as it did. -/
def gfLogsSpec : ChangeSpec := { name := "gfLogs", fn := fun _ => fun
  | [d1, d2, d3] => { results := [.lit (.bool true)], args := [d1, d2, d3] }
  | _ => none }
def gfLogsRow : OpenClaim := { program := "ytoipbblgbbocnaa", sum := "a2c18290620e62ae8621ff7167685eb5f2ab28f9c1c8b4524bccb322910ecff1", func := "clarion/clarionlaw01.GfLogs", spec := "gfLogs", apart := false }
def GfLogsSaid : Prop := gfLogsRow.holds Try.pinned (OpenSpec.ofChange gfLogsSpec)

/-- ITS FALSE NEIGHBOUR: 'it returns false'. Refute it at one input. -/
def gfLogsWrong : ChangeSpec := { name := "gfLogs", fn := fun _ => fun
  | [d1, d2, d3] => { results := [.lit (.bool false)], args := [d1, d2, d3] }
  | _ => none }
def GfLogsWrongFalsely : Prop := gfLogsRow.holds Try.pinned (OpenSpec.ofChange gfLogsWrong)

/-- 'clarionlaw01.GfAsks': WHATEVER THE INPUT: true; the input reads as it did. -/
def gfAsksSpec : ChangeSpec := { name := "gfAsks", fn := fun _ => fun
  | [d1, d2, d3] => { results := [.lit (.bool true)], args := [d1, d2, d3] }
  | _ => none }
def gfAsksRow : OpenClaim := { program := "ytoipbblgbbocnaa", sum := "a2c18290620e62ae8621ff7167685eb5f2ab28f9c1c8b4524bccb322910ecff1", func := "clarion/clarionlaw01.GfAsks", spec := "gfAsks", apart := false }
def GfAsksSaid : Prop := gfAsksRow.holds Try.pinned (OpenSpec.ofChange gfAsksSpec)

/-- ITS FALSE NEIGHBOUR: 'it returns false'. Refute it at one input. -/
def gfAsksWrong : ChangeSpec := { name := "gfAsks", fn := fun _ => fun
  | [d1, d2, d3] => { results := [.lit (.bool false)], args := [d1, d2, d3] }
  | _ => none }
def GfAsksWrongFalsely : Prop := gfAsksRow.holds Try.pinned (OpenSpec.ofChange gfAsksWrong)

/-- 'clarionlaw01.GfMuls': WHATEVER THE INPUT: true; the input reads as it did. -/
def gfMulsSpec : ChangeSpec := { name := "gfMuls", fn := fun _ => fun
  | [d] => { results := [.lit (.bool true)], args := [d] }
  | _ => none }
def gfMulsRow : OpenClaim := { program := "ytoipbblgbbocnaa", sum := "a2c18290620e62ae8621ff7167685eb5f2ab28f9c1c8b4524bccb322910ecff1", func := "clarion/clarionlaw01.GfMuls", spec := "gfMuls", apart := false }
def GfMulsSaid : Prop := gfMulsRow.holds Try.pinned (OpenSpec.ofChange gfMulsSpec)

/-- ITS FALSE NEIGHBOUR: 'it returns false'. Refute it at one input. -/
def gfMulsWrong : ChangeSpec := { name := "gfMuls", fn := fun _ => fun
  | [d] => { results := [.lit (.bool false)], args := [d] }
  | _ => none }
def GfMulsWrongFalsely : Prop := gfMulsRow.holds Try.pinned (OpenSpec.ofChange gfMulsWrong)

/-- 'clarionlaw01.GfDivs': WHATEVER THE INPUT: true; the input reads as it did. -/
def gfDivsSpec : ChangeSpec := { name := "gfDivs", fn := fun _ => fun
  | [d1, d2] => { results := [.lit (.bool true)], args := [d1, d2] }
  | _ => none }
def gfDivsRow : OpenClaim := { program := "ytoipbblgbbocnaa", sum := "a2c18290620e62ae8621ff7167685eb5f2ab28f9c1c8b4524bccb322910ecff1", func := "clarion/clarionlaw01.GfDivs", spec := "gfDivs", apart := false }
def GfDivsSaid : Prop := gfDivsRow.holds Try.pinned (OpenSpec.ofChange gfDivsSpec)

/-- ITS FALSE NEIGHBOUR: 'it returns false'. Refute it at one input. -/
def gfDivsWrong : ChangeSpec := { name := "gfDivs", fn := fun _ => fun
  | [d1, d2] => { results := [.lit (.bool false)], args := [d1, d2] }
  | _ => none }
def GfDivsWrongFalsely : Prop := gfDivsRow.holds Try.pinned (OpenSpec.ofChange gfDivsWrong)

/-- 'clarionlaw01.GfField': WHATEVER THE INPUT: true; the input reads as it did. -/
def gfFieldSpec : ChangeSpec := { name := "gfField", fn := fun _ => fun
  | [d1, d2, d3] => { results := [.lit (.bool true)], args := [d1, d2, d3] }
  | _ => none }
def gfFieldRow : OpenClaim := { program := "ytoipbblgbbocnaa", sum := "a2c18290620e62ae8621ff7167685eb5f2ab28f9c1c8b4524bccb322910ecff1", func := "clarion/clarionlaw01.GfField", spec := "gfField", apart := false }
def GfFieldSaid : Prop := gfFieldRow.holds Try.pinned (OpenSpec.ofChange gfFieldSpec)

/-- ITS FALSE NEIGHBOUR: 'it returns false'. Refute it at one input. -/
def gfFieldWrong : ChangeSpec := { name := "gfField", fn := fun _ => fun
  | [d1, d2, d3] => { results := [.lit (.bool false)], args := [d1, d2, d3] }
  | _ => none }
def GfFieldWrongFalsely : Prop := gfFieldRow.holds Try.pinned (OpenSpec.ofChange gfFieldWrong)

/-- 'clarionlaw01.GfOrder': WHATEVER THE INPUT: true; the input reads as it did. -/
def gfOrderSpec : ChangeSpec := { name := "gfOrder", fn := fun _ => fun
  | [d1, d2, d3] => { results := [.lit (.bool true)], args := [d1, d2, d3] }
  | _ => none }
def gfOrderRow : OpenClaim := { program := "ytoipbblgbbocnaa", sum := "a2c18290620e62ae8621ff7167685eb5f2ab28f9c1c8b4524bccb322910ecff1", func := "clarion/clarionlaw01.GfOrder", spec := "gfOrder", apart := false }
def GfOrderSaid : Prop := gfOrderRow.holds Try.pinned (OpenSpec.ofChange gfOrderSpec)

/-- ITS FALSE NEIGHBOUR: 'it returns false'. Refute it at one input. -/
def gfOrderWrong : ChangeSpec := { name := "gfOrder", fn := fun _ => fun
  | [d1, d2, d3] => { results := [.lit (.bool false)], args := [d1, d2, d3] }
  | _ => none }
def GfOrderWrongFalsely : Prop := gfOrderRow.holds Try.pinned (OpenSpec.ofChange gfOrderWrong)

/-- 'clarionlaw01.GfDots': WHATEVER THE INPUT: true; the input reads as it did. -/
def gfDotsSpec : ChangeSpec := { name := "gfDots", fn := fun _ => fun
  | [d1, d2] => { results := [.lit (.bool true)], args := [d1, d2] }
  | _ => none }
def gfDotsRow : OpenClaim := { program := "ytoipbblgbbocnaa", sum := "a2c18290620e62ae8621ff7167685eb5f2ab28f9c1c8b4524bccb322910ecff1", func := "clarion/clarionlaw01.GfDots", spec := "gfDots", apart := false }
def GfDotsSaid : Prop := gfDotsRow.holds Try.pinned (OpenSpec.ofChange gfDotsSpec)

/-- ITS FALSE NEIGHBOUR: 'it returns false'. Refute it at one input. -/
def gfDotsWrong : ChangeSpec := { name := "gfDots", fn := fun _ => fun
  | [d1, d2] => { results := [.lit (.bool false)], args := [d1, d2] }
  | _ => none }
def GfDotsWrongFalsely : Prop := gfDotsRow.holds Try.pinned (OpenSpec.ofChange gfDotsWrong)

/-- 'clarionlaw01.GfPowers': WHATEVER THE INPUT: true; the input reads as it did. -/
def gfPowersSpec : ChangeSpec := { name := "gfPowers", fn := fun _ => fun
  | [d1, d2] => { results := [.lit (.bool true)], args := [d1, d2] }
  | _ => none }
def gfPowersRow : OpenClaim := { program := "ytoipbblgbbocnaa", sum := "a2c18290620e62ae8621ff7167685eb5f2ab28f9c1c8b4524bccb322910ecff1", func := "clarion/clarionlaw01.GfPowers", spec := "gfPowers", apart := false }
def GfPowersSaid : Prop := gfPowersRow.holds Try.pinned (OpenSpec.ofChange gfPowersSpec)

/-- ITS FALSE NEIGHBOUR: 'it returns false'. Refute it at one input. -/
def gfPowersWrong : ChangeSpec := { name := "gfPowers", fn := fun _ => fun
  | [d1, d2] => { results := [.lit (.bool false)], args := [d1, d2] }
  | _ => none }
def GfPowersWrongFalsely : Prop := gfPowersRow.holds Try.pinned (OpenSpec.ofChange gfPowersWrong)

/- THE SECOND FORM. 'bulk': how many values and letters a reading holds, each counted each time it is reached (what is shared counts as often as it is met; a slice's spare places count too). A statement '..UptoSaid' is the law's where the arguments, and the package variables that the reading takes, are together of bulk at most 1048576: NARROWER than '..Said'. Prove '..Said' where nothing that the law and all that it calls make is longer than what came in: it says more and counts as full. Else prove '..UptoSaid'. A law counts once. -/
mutual
def uptoBulk {H : Type} : DataW H → Nat
  | .lit (.string bytes) => bytes.length + 1
  | .lit _ => 1
  | .nil => 1
  | .ptr d => uptoBulk d + 1
  | .slice elems spare => uptoBulkAll elems + uptoBulkAll spare + 1
  | .agg parts => uptoBulkAll parts + 1
  | .iface _ d => uptoBulk d + 1
  | .map entries => uptoBulkEntries entries + 1
  | .held _ => 1
def uptoBulkAll {H : Type} : List (DataW H) → Nat
  | [] => 0
  | d :: r => uptoBulk d + uptoBulkAll r
def uptoBulkEntries {H : Type} : List (Lit × DataW H) → Nat
  | [] => 0
  | x :: r => uptoBulkEntry x + uptoBulkEntries r
def uptoBulkEntry {H : Type} : Lit × DataW H → Nat
  | (.string bytes, d) => bytes.length + uptoBulk d + 1
  | (_, d) => uptoBulk d + 1
 end
def uptoSmall : (H : Type) → List (DataW H) → Bool := fun _ ds => decide (uptoBulkAll ds ≤ 1048576)
def OpenSpec.upto (s : _root_.Go.ChangeSpec) : _root_.Go.OpenSpec := { _root_.Go.OpenSpec.ofChange s with cond := some uptoSmall }

/-- 'clarionlaw01.GfLogs', WHERE WHAT IT READS IS OF BULK AT MOST 1048576: true; the input reads as it did. -/
def gfLogsUptoRow : OpenClaim := { program := "ytoipbblgbbocnaa", sum := "a2c18290620e62ae8621ff7167685eb5f2ab28f9c1c8b4524bccb322910ecff1", func := "clarion/clarionlaw01.GfLogs", spec := "gfLogs", apart := false, narrowed := true }
def GfLogsUptoSaid : Prop := gfLogsUptoRow.holds Try.pinned (OpenSpec.upto gfLogsSpec)

/-- 'clarionlaw01.GfAsks', WHERE WHAT IT READS IS OF BULK AT MOST 1048576: true; the input reads as it did. -/
def gfAsksUptoRow : OpenClaim := { program := "ytoipbblgbbocnaa", sum := "a2c18290620e62ae8621ff7167685eb5f2ab28f9c1c8b4524bccb322910ecff1", func := "clarion/clarionlaw01.GfAsks", spec := "gfAsks", apart := false, narrowed := true }
def GfAsksUptoSaid : Prop := gfAsksUptoRow.holds Try.pinned (OpenSpec.upto gfAsksSpec)

/-- 'clarionlaw01.GfMuls', WHERE WHAT IT READS IS OF BULK AT MOST 1048576: true; the input reads as it did. -/
def gfMulsUptoRow : OpenClaim := { program := "ytoipbblgbbocnaa", sum := "a2c18290620e62ae8621ff7167685eb5f2ab28f9c1c8b4524bccb322910ecff1", func := "clarion/clarionlaw01.GfMuls", spec := "gfMuls", apart := false, narrowed := true }
def GfMulsUptoSaid : Prop := gfMulsUptoRow.holds Try.pinned (OpenSpec.upto gfMulsSpec)

/-- 'clarionlaw01.GfDivs', WHERE WHAT IT READS IS OF BULK AT MOST 1048576: true; the input reads as it did. -/
def gfDivsUptoRow : OpenClaim := { program := "ytoipbblgbbocnaa", sum := "a2c18290620e62ae8621ff7167685eb5f2ab28f9c1c8b4524bccb322910ecff1", func := "clarion/clarionlaw01.GfDivs", spec := "gfDivs", apart := false, narrowed := true }
def GfDivsUptoSaid : Prop := gfDivsUptoRow.holds Try.pinned (OpenSpec.upto gfDivsSpec)

/-- 'clarionlaw01.GfField', WHERE WHAT IT READS IS OF BULK AT MOST 1048576: true; the input reads as it did. -/
def gfFieldUptoRow : OpenClaim := { program := "ytoipbblgbbocnaa", sum := "a2c18290620e62ae8621ff7167685eb5f2ab28f9c1c8b4524bccb322910ecff1", func := "clarion/clarionlaw01.GfField", spec := "gfField", apart := false, narrowed := true }
def GfFieldUptoSaid : Prop := gfFieldUptoRow.holds Try.pinned (OpenSpec.upto gfFieldSpec)

/-- 'clarionlaw01.GfOrder', WHERE WHAT IT READS IS OF BULK AT MOST 1048576: true; the input reads as it did. -/
def gfOrderUptoRow : OpenClaim := { program := "ytoipbblgbbocnaa", sum := "a2c18290620e62ae8621ff7167685eb5f2ab28f9c1c8b4524bccb322910ecff1", func := "clarion/clarionlaw01.GfOrder", spec := "gfOrder", apart := false, narrowed := true }
def GfOrderUptoSaid : Prop := gfOrderUptoRow.holds Try.pinned (OpenSpec.upto gfOrderSpec)

/-- 'clarionlaw01.GfDots', WHERE WHAT IT READS IS OF BULK AT MOST 1048576: true; the input reads as it did. -/
def gfDotsUptoRow : OpenClaim := { program := "ytoipbblgbbocnaa", sum := "a2c18290620e62ae8621ff7167685eb5f2ab28f9c1c8b4524bccb322910ecff1", func := "clarion/clarionlaw01.GfDots", spec := "gfDots", apart := false, narrowed := true }
def GfDotsUptoSaid : Prop := gfDotsUptoRow.holds Try.pinned (OpenSpec.upto gfDotsSpec)

/-- 'clarionlaw01.GfPowers', WHERE WHAT IT READS IS OF BULK AT MOST 1048576: true; the input reads as it did. -/
def gfPowersUptoRow : OpenClaim := { program := "ytoipbblgbbocnaa", sum := "a2c18290620e62ae8621ff7167685eb5f2ab28f9c1c8b4524bccb322910ecff1", func := "clarion/clarionlaw01.GfPowers", spec := "gfPowers", apart := false, narrowed := true }
def GfPowersUptoSaid : Prop := gfPowersUptoRow.holds Try.pinned (OpenSpec.upto gfPowersSpec)

end Rows
end Go.Proofs.Ytoipbblgbbocnaa
