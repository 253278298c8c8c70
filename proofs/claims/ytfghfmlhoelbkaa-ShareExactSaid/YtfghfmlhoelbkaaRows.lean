/-
  No cell of these rows narrows 'for every input' (looked for: loops, veiled, ifaces, maps, wideKeys, modest, calm, conditions, laid).
  DERIVED. THE GIVEN ROWS OF THIS SEAT. 5 by the template 'for every input the law returns true; each argument reads behind the call as it read before'; 0 by the template 'total and deterministic' (their statements: YtfghfmlhoelbkaaTotals.lean).
  GIVEN WITH THE SEED: the statements are not yours to turn. If you find one false, say at which input.
  Laid BY PROGRAM, IN A SANDBOX (cutbox-rows.mjs): the forced cells as the released guide's own fill.sh prints them over the translation bcd2fd8b3e47562a… (all of the seat's roots in one cut). By AI agents, Wed Nov 11 2026. No macro, syntax, notation, axiom, sorry.
-/
import Derived.Test.YtfghfmlhoelbkaaChecked
import GoSem.Claim
import GoSem.ClaimJoined
import GoSem.ClaimMapViews
import Derived.JoinedTies
import Derived.KernelRfl
namespace Go.Proofs.Ytfghfmlhoelbkaa
/- THE CELL 'sum', in the pinned program and in every row, IS THE sha256 OF THE DUMP (.gsa) THAT YtfghfmlhoelbkaaProg.lean LOADS. Nothing in Lean hashes anything: it is a label: what it is worth is what the hold of that sum in a sandbox is worth. -/
noncomputable def Try.pinned : Pinned := { name := "ytfghfmlhoelbkaa", sum := "bcd2fd8b3e47562ac7055bbf18f8210920da82384a31f6c06cd56ddbf07e43b7", checked := Try.checked }
namespace Rows
def none {H : Type} : Left H := { results := [], args := [] }

/-- 'tontinelaw11.ShareTells': WHATEVER THE INPUT: true; the input reads as it did. -/
def shareTellsSpec : ChangeSpec := { name := "shareTells", fn := fun _ => fun
  | [d1, d2, d3] => { results := [.lit (.bool true)], args := [d1, d2, d3] }
  | _ => none }
def shareTellsRow : OpenClaim := { program := "ytfghfmlhoelbkaa", sum := "bcd2fd8b3e47562ac7055bbf18f8210920da82384a31f6c06cd56ddbf07e43b7", func := "tontine/tontinelaw11.ShareTells", spec := "shareTells", apart := false }
def ShareTellsSaid : Prop := shareTellsRow.holds Try.pinned (OpenSpec.ofChange shareTellsSpec)

/-- ITS FALSE NEIGHBOUR: 'it returns false'. Refute it at one input. -/
def shareTellsWrong : ChangeSpec := { name := "shareTells", fn := fun _ => fun
  | [d1, d2, d3] => { results := [.lit (.bool false)], args := [d1, d2, d3] }
  | _ => none }
def ShareTellsWrongFalsely : Prop := shareTellsRow.holds Try.pinned (OpenSpec.ofChange shareTellsWrong)

/-- 'tontinelaw11.ShareExact': WHATEVER THE INPUT: true; the input reads as it did. -/
def shareExactSpec : ChangeSpec := { name := "shareExact", fn := fun _ => fun
  | [d1, d2] => { results := [.lit (.bool true)], args := [d1, d2] }
  | _ => none }
def shareExactRow : OpenClaim := { program := "ytfghfmlhoelbkaa", sum := "bcd2fd8b3e47562ac7055bbf18f8210920da82384a31f6c06cd56ddbf07e43b7", func := "tontine/tontinelaw11.ShareExact", spec := "shareExact", apart := false }
def ShareExactSaid : Prop := shareExactRow.holds Try.pinned (OpenSpec.ofChange shareExactSpec)

/-- ITS FALSE NEIGHBOUR: 'it returns false'. Refute it at one input. -/
def shareExactWrong : ChangeSpec := { name := "shareExact", fn := fun _ => fun
  | [d1, d2] => { results := [.lit (.bool false)], args := [d1, d2] }
  | _ => none }
def ShareExactWrongFalsely : Prop := shareExactRow.holds Try.pinned (OpenSpec.ofChange shareExactWrong)

/-- 'tontinelaw11.ShareScales': WHATEVER THE INPUT: true; the input reads as it did. -/
def shareScalesSpec : ChangeSpec := { name := "shareScales", fn := fun _ => fun
  | [d1, d2, d3] => { results := [.lit (.bool true)], args := [d1, d2, d3] }
  | _ => none }
def shareScalesRow : OpenClaim := { program := "ytfghfmlhoelbkaa", sum := "bcd2fd8b3e47562ac7055bbf18f8210920da82384a31f6c06cd56ddbf07e43b7", func := "tontine/tontinelaw11.ShareScales", spec := "shareScales", apart := false }
def ShareScalesSaid : Prop := shareScalesRow.holds Try.pinned (OpenSpec.ofChange shareScalesSpec)

/-- ITS FALSE NEIGHBOUR: 'it returns false'. Refute it at one input. -/
def shareScalesWrong : ChangeSpec := { name := "shareScales", fn := fun _ => fun
  | [d1, d2, d3] => { results := [.lit (.bool false)], args := [d1, d2, d3] }
  | _ => none }
def ShareScalesWrongFalsely : Prop := shareScalesRow.holds Try.pinned (OpenSpec.ofChange shareScalesWrong)

/-- 'tontinelaw11.ShareMore': WHATEVER THE INPUT: true; the input reads as it did. -/
def shareMoreSpec : ChangeSpec := { name := "shareMore", fn := fun _ => fun
  | [d1, d2, d3, d4] => { results := [.lit (.bool true)], args := [d1, d2, d3, d4] }
  | _ => none }
def shareMoreRow : OpenClaim := { program := "ytfghfmlhoelbkaa", sum := "bcd2fd8b3e47562ac7055bbf18f8210920da82384a31f6c06cd56ddbf07e43b7", func := "tontine/tontinelaw11.ShareMore", spec := "shareMore", apart := false }
def ShareMoreSaid : Prop := shareMoreRow.holds Try.pinned (OpenSpec.ofChange shareMoreSpec)

/-- ITS FALSE NEIGHBOUR: 'it returns false'. Refute it at one input. -/
def shareMoreWrong : ChangeSpec := { name := "shareMore", fn := fun _ => fun
  | [d1, d2, d3, d4] => { results := [.lit (.bool false)], args := [d1, d2, d3, d4] }
  | _ => none }
def ShareMoreWrongFalsely : Prop := shareMoreRow.holds Try.pinned (OpenSpec.ofChange shareMoreWrong)

/-- 'tontinelaw11.ShareWhole': WHATEVER THE INPUT: true; the input reads as it did. -/
def shareWholeSpec : ChangeSpec := { name := "shareWhole", fn := fun _ => fun
  | [d] => { results := [.lit (.bool true)], args := [d] }
  | _ => none }
def shareWholeRow : OpenClaim := { program := "ytfghfmlhoelbkaa", sum := "bcd2fd8b3e47562ac7055bbf18f8210920da82384a31f6c06cd56ddbf07e43b7", func := "tontine/tontinelaw11.ShareWhole", spec := "shareWhole", apart := false }
def ShareWholeSaid : Prop := shareWholeRow.holds Try.pinned (OpenSpec.ofChange shareWholeSpec)

/-- ITS FALSE NEIGHBOUR: 'it returns false'. Refute it at one input. -/
def shareWholeWrong : ChangeSpec := { name := "shareWhole", fn := fun _ => fun
  | [d] => { results := [.lit (.bool false)], args := [d] }
  | _ => none }
def ShareWholeWrongFalsely : Prop := shareWholeRow.holds Try.pinned (OpenSpec.ofChange shareWholeWrong)

/- THE SECOND FORM. 'bulk': how many values and letters a reading holds, each counted each time it is reached (what is shared counts as often as it is met; a slice's spare places count too). A statement '..UptoSaid' is the law's where the arguments, and the package variables that the reading takes, are together of bulk at most 1048576: NARROWER than '..Said'. Prove '..Said' where nothing that the law and all that it calls make is longer than what came in: it says more and counts as full. Else prove '..UptoSaid'. A law counts once. -/
mutual
def uptoBulk {H : Type} : DataW H → Nat
  | .lit (.string bytes) => bytes.length + 1
  | .lit _ => 1
  | .nil => 1
  | .ptr d => uptoBulk d + 1
  | .slice elems spare => uptoBulkAll elems + uptoBulkAll spare + 1
  | .agg parts => uptoBulkAll parts + 1
  | .iface _ d => uptoBulk d + 1
  | .map entries => uptoBulkEntries entries + 1
  | .held _ => 1
def uptoBulkAll {H : Type} : List (DataW H) → Nat
  | [] => 0
  | d :: r => uptoBulk d + uptoBulkAll r
def uptoBulkEntries {H : Type} : List (Lit × DataW H) → Nat
  | [] => 0
  | x :: r => uptoBulkEntry x + uptoBulkEntries r
def uptoBulkEntry {H : Type} : Lit × DataW H → Nat
  | (.string bytes, d) => bytes.length + uptoBulk d + 1
  | (_, d) => uptoBulk d + 1
 end
def uptoSmall : (H : Type) → List (DataW H) → Bool := fun _ ds => decide (uptoBulkAll ds ≤ 1048576)
def OpenSpec.upto (s : _root_.Go.ChangeSpec) : _root_.Go.OpenSpec := { _root_.Go.OpenSpec.ofChange s with cond := some uptoSmall }

/-- 'tontinelaw11.ShareTells', WHERE WHAT IT READS IS OF BULK AT MOST 1048576: true; the input reads as it did. -/
def shareTellsUptoRow : OpenClaim := { program := "ytfghfmlhoelbkaa", sum := "bcd2fd8b3e47562ac7055bbf18f8210920da82384a31f6c06cd56ddbf07e43b7", func := "tontine/tontinelaw11.ShareTells", spec := "shareTells", apart := false, narrowed := true }
def ShareTellsUptoSaid : Prop := shareTellsUptoRow.holds Try.pinned (OpenSpec.upto shareTellsSpec)

/-- 'tontinelaw11.ShareExact', WHERE WHAT IT READS IS OF BULK AT MOST 1048576: true; the input reads as it did. -/
def shareExactUptoRow : OpenClaim := { program := "ytfghfmlhoelbkaa", sum := "bcd2fd8b3e47562ac7055bbf18f8210920da82384a31f6c06cd56ddbf07e43b7", func := "tontine/tontinelaw11.ShareExact", spec := "shareExact", apart := false, narrowed := true }
def ShareExactUptoSaid : Prop := shareExactUptoRow.holds Try.pinned (OpenSpec.upto shareExactSpec)

/-- 'tontinelaw11.ShareScales', WHERE WHAT IT READS IS OF BULK AT MOST 1048576: true; the input reads as it did. -/
def shareScalesUptoRow : OpenClaim := { program := "ytfghfmlhoelbkaa", sum := "bcd2fd8b3e47562ac7055bbf18f8210920da82384a31f6c06cd56ddbf07e43b7", func := "tontine/tontinelaw11.ShareScales", spec := "shareScales", apart := false, narrowed := true }
def ShareScalesUptoSaid : Prop := shareScalesUptoRow.holds Try.pinned (OpenSpec.upto shareScalesSpec)

/-- 'tontinelaw11.ShareMore', WHERE WHAT IT READS IS OF BULK AT MOST 1048576: true; the input reads as it did. -/
def shareMoreUptoRow : OpenClaim := { program := "ytfghfmlhoelbkaa", sum := "bcd2fd8b3e47562ac7055bbf18f8210920da82384a31f6c06cd56ddbf07e43b7", func := "tontine/tontinelaw11.ShareMore", spec := "shareMore", apart := false, narrowed := true }
def ShareMoreUptoSaid : Prop := shareMoreUptoRow.holds Try.pinned (OpenSpec.upto shareMoreSpec)

/-- 'tontinelaw11.ShareWhole', WHERE WHAT IT READS IS OF BULK AT MOST 1048576: true; the input reads as it did. -/
def shareWholeUptoRow : OpenClaim := { program := "ytfghfmlhoelbkaa", sum := "bcd2fd8b3e47562ac7055bbf18f8210920da82384a31f6c06cd56ddbf07e43b7", func := "tontine/tontinelaw11.ShareWhole", spec := "shareWhole", apart := false, narrowed := true }
def ShareWholeUptoSaid : Prop := shareWholeUptoRow.holds Try.pinned (OpenSpec.upto shareWholeSpec)

end Rows
end Go.Proofs.Ytfghfmlhoelbkaa
