/-
  No cell of these rows narrows 'for every input' (looked for: loops, veiled, ifaces, maps, wideKeys, modest, calm, conditions, laid).
  DERIVED. THE GIVEN ROWS OF THIS SEAT. 4 by the template 'for every input the law returns true; each argument reads behind the call as it read before'; 0 by the template 'total and deterministic' (their statements: YtoijganmfabkaaaTotals.lean).
  GIVEN WITH THE SEED: the statements are not yours to turn. If you find one false, say at which input.
  Laid BY PROGRAM, IN A SANDBOX (cutbox-rows.mjs): the forced cells as the released guide's own fill.sh prints them over the translation aa6ad16b26807f08… (all of the seat's roots in one cut). By AI agents, Wed Nov 11 2026. No macro, syntax, notation, axiom, sorry.
-/
import Derived.Test.YtoijganmfabkaaaChecked
import GoSem.Claim
import GoSem.ClaimJoined
import GoSem.ClaimMapViews
import Derived.JoinedTies
import Derived.KernelRfl
namespace Go.Proofs.Ytoijganmfabkaaa
/- THE CELL 'sum', in the pinned program and in every row, IS THE sha256 OF THE DUMP (.gsa) THAT YtoijganmfabkaaaProg.lean LOADS. Nothing in Lean hashes anything: it is a label: what it is worth is what the hold of that sum in a sandbox is worth. -/
noncomputable def Try.pinned : Pinned := { name := "ytoijganmfabkaaa", sum := "aa6ad16b26807f08d4ff71df7c7a3dc2a39764b4b7f5a45d53cb3f420cee536d", checked := Try.checked }
namespace Rows
def none {H : Type} : Left H := { results := [], args := [] }

/-- 'tontinelaw6.StrideTells': WHATEVER THE INPUT: true; the input reads as it did. -/
def strideTellsSpec : ChangeSpec := { name := "strideTells", fn := fun _ => fun
  | [d1, d2, d3, d4, d5, d6] => { results := [.lit (.bool true)], args := [d1, d2, d3, d4, d5, d6] }
  | _ => none }
def strideTellsRow : OpenClaim := { program := "ytoijganmfabkaaa", sum := "aa6ad16b26807f08d4ff71df7c7a3dc2a39764b4b7f5a45d53cb3f420cee536d", func := "tontine/tontinelaw6.StrideTells", spec := "strideTells", inPlace := ["math.Float64bits", "math.Float64frombits"], apart := false }
def StrideTellsSaid : Prop := strideTellsRow.holds Try.pinned (OpenSpec.ofChange strideTellsSpec)

/-- ITS FALSE NEIGHBOUR: 'it returns false'. Refute it at one input. -/
def strideTellsWrong : ChangeSpec := { name := "strideTells", fn := fun _ => fun
  | [d1, d2, d3, d4, d5, d6] => { results := [.lit (.bool false)], args := [d1, d2, d3, d4, d5, d6] }
  | _ => none }
def StrideTellsWrongFalsely : Prop := strideTellsRow.holds Try.pinned (OpenSpec.ofChange strideTellsWrong)

/-- 'tontinelaw6.StrideWhole': WHATEVER THE INPUT: true; the input reads as it did. -/
def strideWholeSpec : ChangeSpec := { name := "strideWhole", fn := fun _ => fun
  | [d] => { results := [.lit (.bool true)], args := [d] }
  | _ => none }
def strideWholeRow : OpenClaim := { program := "ytoijganmfabkaaa", sum := "aa6ad16b26807f08d4ff71df7c7a3dc2a39764b4b7f5a45d53cb3f420cee536d", func := "tontine/tontinelaw6.StrideWhole", spec := "strideWhole", inPlace := ["math.Float64bits", "math.Float64frombits"], apart := false }
def StrideWholeSaid : Prop := strideWholeRow.holds Try.pinned (OpenSpec.ofChange strideWholeSpec)

/-- ITS FALSE NEIGHBOUR: 'it returns false'. Refute it at one input. -/
def strideWholeWrong : ChangeSpec := { name := "strideWhole", fn := fun _ => fun
  | [d] => { results := [.lit (.bool false)], args := [d] }
  | _ => none }
def StrideWholeWrongFalsely : Prop := strideWholeRow.holds Try.pinned (OpenSpec.ofChange strideWholeWrong)

/-- 'tontinelaw6.StrideScales': WHATEVER THE INPUT: true; the input reads as it did. -/
def strideScalesSpec : ChangeSpec := { name := "strideScales", fn := fun _ => fun
  | [d1, d2, d3, d4] => { results := [.lit (.bool true)], args := [d1, d2, d3, d4] }
  | _ => none }
def strideScalesRow : OpenClaim := { program := "ytoijganmfabkaaa", sum := "aa6ad16b26807f08d4ff71df7c7a3dc2a39764b4b7f5a45d53cb3f420cee536d", func := "tontine/tontinelaw6.StrideScales", spec := "strideScales", inPlace := ["math.Float64bits", "math.Float64frombits"], apart := false }
def StrideScalesSaid : Prop := strideScalesRow.holds Try.pinned (OpenSpec.ofChange strideScalesSpec)

/-- ITS FALSE NEIGHBOUR: 'it returns false'. Refute it at one input. -/
def strideScalesWrong : ChangeSpec := { name := "strideScales", fn := fun _ => fun
  | [d1, d2, d3, d4] => { results := [.lit (.bool false)], args := [d1, d2, d3, d4] }
  | _ => none }
def StrideScalesWrongFalsely : Prop := strideScalesRow.holds Try.pinned (OpenSpec.ofChange strideScalesWrong)

/-- 'tontinelaw6.StrideHeavier': WHATEVER THE INPUT: true; the input reads as it did. -/
def strideHeavierSpec : ChangeSpec := { name := "strideHeavier", fn := fun _ => fun
  | [d1, d2, d3, d4] => { results := [.lit (.bool true)], args := [d1, d2, d3, d4] }
  | _ => none }
def strideHeavierRow : OpenClaim := { program := "ytoijganmfabkaaa", sum := "aa6ad16b26807f08d4ff71df7c7a3dc2a39764b4b7f5a45d53cb3f420cee536d", func := "tontine/tontinelaw6.StrideHeavier", spec := "strideHeavier", inPlace := ["math.Float64bits", "math.Float64frombits"], apart := false }
def StrideHeavierSaid : Prop := strideHeavierRow.holds Try.pinned (OpenSpec.ofChange strideHeavierSpec)

/-- ITS FALSE NEIGHBOUR: 'it returns false'. Refute it at one input. -/
def strideHeavierWrong : ChangeSpec := { name := "strideHeavier", fn := fun _ => fun
  | [d1, d2, d3, d4] => { results := [.lit (.bool false)], args := [d1, d2, d3, d4] }
  | _ => none }
def StrideHeavierWrongFalsely : Prop := strideHeavierRow.holds Try.pinned (OpenSpec.ofChange strideHeavierWrong)

/- THE SECOND FORM. 'bulk': how many values and letters a reading holds, each counted each time it is reached (what is shared counts as often as it is met; a slice's spare places count too). A statement '..UptoSaid' is the law's where the arguments, and the package variables that the reading takes, are together of bulk at most 1048576: NARROWER than '..Said'. Prove '..Said' where nothing that the law and all that it calls make is longer than what came in: it says more and counts as full. Else prove '..UptoSaid'. A law counts once. -/
mutual
def uptoBulk {H : Type} : DataW H → Nat
  | .lit (.string bytes) => bytes.length + 1
  | .lit _ => 1
  | .nil => 1
  | .ptr d => uptoBulk d + 1
  | .slice elems spare => uptoBulkAll elems + uptoBulkAll spare + 1
  | .agg parts => uptoBulkAll parts + 1
  | .iface _ d => uptoBulk d + 1
  | .map entries => uptoBulkEntries entries + 1
  | .held _ => 1
def uptoBulkAll {H : Type} : List (DataW H) → Nat
  | [] => 0
  | d :: r => uptoBulk d + uptoBulkAll r
def uptoBulkEntries {H : Type} : List (Lit × DataW H) → Nat
  | [] => 0
  | x :: r => uptoBulkEntry x + uptoBulkEntries r
def uptoBulkEntry {H : Type} : Lit × DataW H → Nat
  | (.string bytes, d) => bytes.length + uptoBulk d + 1
  | (_, d) => uptoBulk d + 1
 end
def uptoSmall : (H : Type) → List (DataW H) → Bool := fun _ ds => decide (uptoBulkAll ds ≤ 1048576)
def OpenSpec.upto (s : _root_.Go.ChangeSpec) : _root_.Go.OpenSpec := { _root_.Go.OpenSpec.ofChange s with cond := some uptoSmall }

/-- 'tontinelaw6.StrideTells', WHERE WHAT IT READS IS OF BULK AT MOST 1048576: true; the input reads as it did. -/
def strideTellsUptoRow : OpenClaim := { program := "ytoijganmfabkaaa", sum := "aa6ad16b26807f08d4ff71df7c7a3dc2a39764b4b7f5a45d53cb3f420cee536d", func := "tontine/tontinelaw6.StrideTells", spec := "strideTells", inPlace := ["math.Float64bits", "math.Float64frombits"], apart := false, narrowed := true }
def StrideTellsUptoSaid : Prop := strideTellsUptoRow.holds Try.pinned (OpenSpec.upto strideTellsSpec)

/-- 'tontinelaw6.StrideWhole', WHERE WHAT IT READS IS OF BULK AT MOST 1048576: true; the input reads as it did. -/
def strideWholeUptoRow : OpenClaim := { program := "ytoijganmfabkaaa", sum := "aa6ad16b26807f08d4ff71df7c7a3dc2a39764b4b7f5a45d53cb3f420cee536d", func := "tontine/tontinelaw6.StrideWhole", spec := "strideWhole", inPlace := ["math.Float64bits", "math.Float64frombits"], apart := false, narrowed := true }
def StrideWholeUptoSaid : Prop := strideWholeUptoRow.holds Try.pinned (OpenSpec.upto strideWholeSpec)

/-- 'tontinelaw6.StrideScales', WHERE WHAT IT READS IS OF BULK AT MOST 1048576: true; the input reads as it did. -/
def strideScalesUptoRow : OpenClaim := { program := "ytoijganmfabkaaa", sum := "aa6ad16b26807f08d4ff71df7c7a3dc2a39764b4b7f5a45d53cb3f420cee536d", func := "tontine/tontinelaw6.StrideScales", spec := "strideScales", inPlace := ["math.Float64bits", "math.Float64frombits"], apart := false, narrowed := true }
def StrideScalesUptoSaid : Prop := strideScalesUptoRow.holds Try.pinned (OpenSpec.upto strideScalesSpec)

/-- 'tontinelaw6.StrideHeavier', WHERE WHAT IT READS IS OF BULK AT MOST 1048576: true; the input reads as it did. -/
def strideHeavierUptoRow : OpenClaim := { program := "ytoijganmfabkaaa", sum := "aa6ad16b26807f08d4ff71df7c7a3dc2a39764b4b7f5a45d53cb3f420cee536d", func := "tontine/tontinelaw6.StrideHeavier", spec := "strideHeavier", inPlace := ["math.Float64bits", "math.Float64frombits"], apart := false, narrowed := true }
def StrideHeavierUptoSaid : Prop := strideHeavierUptoRow.holds Try.pinned (OpenSpec.upto strideHeavierSpec)

end Rows
end Go.Proofs.Ytoijganmfabkaaa
