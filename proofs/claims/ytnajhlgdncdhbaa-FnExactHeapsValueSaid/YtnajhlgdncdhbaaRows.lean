/-
  No cell of these rows narrows 'for every input' (looked for: loops, veiled, ifaces, maps, wideKeys, modest, calm, conditions, laid).
  DERIVED. THE GIVEN ROWS OF THIS SEAT. 10 by the template 'for every input the law returns true; each argument reads behind the call as it read before'; 0 by the template 'total and deterministic' (their statements: YtnajhlgdncdhbaaTotals.lean).
  GIVEN WITH THE SEED: the statements are not yours to turn. If you find one false, say at which input.
  Laid BY PROGRAM, IN A SANDBOX (cutbox-rows.mjs): the forced cells as the released guide's own fill.sh prints them over the translation 7215aa21aeb91f74… (all of the seat's roots in one cut). By AI agents, Wed Nov 11 2026. No macro, syntax, notation, axiom, sorry.
-/
import Derived.Test.YtnajhlgdncdhbaaChecked
import GoSem.Claim
import GoSem.ClaimJoined
import GoSem.ClaimMapViews
import Derived.JoinedTies
import Derived.KernelRfl
namespace Go.Proofs.Ytnajhlgdncdhbaa
/- THE CELL 'sum', in the pinned program and in every row, IS THE sha256 OF THE DUMP (.gsa) THAT YtnajhlgdncdhbaaProg.lean LOADS. Nothing in Lean hashes anything: it is a label: what it is worth is what the hold of that sum in a sandbox is worth. -/
noncomputable def Try.pinned : Pinned := { name := "ytnajhlgdncdhbaa", sum := "7215aa21aeb91f746d276b2108da10c1a6a6008c95e3b3b2007cb7186441afcd", checked := Try.checked }
namespace Rows
def none {H : Type} : Left H := { results := [], args := [] }

/-- 'laws.FnExactGoodPeriod': WHATEVER THE INPUT: true; the input reads as it did. -/
def fnExactGoodPeriodSpec : ChangeSpec := { name := "fnExactGoodPeriod", fn := fun _ => fun
  | [d] => { results := [.lit (.bool true)], args := [d] }
  | _ => none }
def fnExactGoodPeriodRow : OpenClaim := { program := "ytnajhlgdncdhbaa", sum := "7215aa21aeb91f746d276b2108da10c1a6a6008c95e3b3b2007cb7186441afcd", func := "loop.example/g00868/laws.FnExactGoodPeriod", spec := "fnExactGoodPeriod", apart := false }
def FnExactGoodPeriodSaid : Prop := fnExactGoodPeriodRow.holds Try.pinned (OpenSpec.ofChange fnExactGoodPeriodSpec)

/-- ITS FALSE NEIGHBOUR: 'it returns false'. Refute it at one input. -/
def fnExactGoodPeriodWrong : ChangeSpec := { name := "fnExactGoodPeriod", fn := fun _ => fun
  | [d] => { results := [.lit (.bool false)], args := [d] }
  | _ => none }
def FnExactGoodPeriodWrongFalsely : Prop := fnExactGoodPeriodRow.holds Try.pinned (OpenSpec.ofChange fnExactGoodPeriodWrong)

/-- 'laws.FnExactGoodCode': WHATEVER THE INPUT: true; the input reads as it did. -/
def fnExactGoodCodeSpec : ChangeSpec := { name := "fnExactGoodCode", fn := fun _ => fun
  | [d] => { results := [.lit (.bool true)], args := [d] }
  | _ => none }
def fnExactGoodCodeRow : OpenClaim := { program := "ytnajhlgdncdhbaa", sum := "7215aa21aeb91f746d276b2108da10c1a6a6008c95e3b3b2007cb7186441afcd", func := "loop.example/g00868/laws.FnExactGoodCode", spec := "fnExactGoodCode", apart := false }
def FnExactGoodCodeSaid : Prop := fnExactGoodCodeRow.holds Try.pinned (OpenSpec.ofChange fnExactGoodCodeSpec)

/-- ITS FALSE NEIGHBOUR: 'it returns false'. Refute it at one input. -/
def fnExactGoodCodeWrong : ChangeSpec := { name := "fnExactGoodCode", fn := fun _ => fun
  | [d] => { results := [.lit (.bool false)], args := [d] }
  | _ => none }
def FnExactGoodCodeWrongFalsely : Prop := fnExactGoodCodeRow.holds Try.pinned (OpenSpec.ofChange fnExactGoodCodeWrong)

/-- 'laws.FnExactRepeats': WHATEVER THE INPUT: true; the input reads as it did. -/
def fnExactRepeatsSpec : ChangeSpec := { name := "fnExactRepeats", fn := fun _ => fun
  | [d1, d2] => { results := [.lit (.bool true)], args := [d1, d2] }
  | _ => none }
def fnExactRepeatsRow : OpenClaim := { program := "ytnajhlgdncdhbaa", sum := "7215aa21aeb91f746d276b2108da10c1a6a6008c95e3b3b2007cb7186441afcd", func := "loop.example/g00868/laws.FnExactRepeats", spec := "fnExactRepeats", apart := false }
def FnExactRepeatsSaid : Prop := fnExactRepeatsRow.holds Try.pinned (OpenSpec.ofChange fnExactRepeatsSpec)

/-- ITS FALSE NEIGHBOUR: 'it returns false'. Refute it at one input. -/
def fnExactRepeatsWrong : ChangeSpec := { name := "fnExactRepeats", fn := fun _ => fun
  | [d1, d2] => { results := [.lit (.bool false)], args := [d1, d2] }
  | _ => none }
def FnExactRepeatsWrongFalsely : Prop := fnExactRepeatsRow.holds Try.pinned (OpenSpec.ofChange fnExactRepeatsWrong)

/-- 'laws.FnExactMex': WHATEVER THE INPUT: true; the input reads as it did. -/
def fnExactMexSpec : ChangeSpec := { name := "fnExactMex", fn := fun _ => fun
  | [d] => { results := [.lit (.bool true)], args := [d] }
  | _ => none }
def fnExactMexRow : OpenClaim := { program := "ytnajhlgdncdhbaa", sum := "7215aa21aeb91f746d276b2108da10c1a6a6008c95e3b3b2007cb7186441afcd", func := "loop.example/g00868/laws.FnExactMex", spec := "fnExactMex", apart := false }
def FnExactMexSaid : Prop := fnExactMexRow.holds Try.pinned (OpenSpec.ofChange fnExactMexSpec)

/-- ITS FALSE NEIGHBOUR: 'it returns false'. Refute it at one input. -/
def fnExactMexWrong : ChangeSpec := { name := "fnExactMex", fn := fun _ => fun
  | [d] => { results := [.lit (.bool false)], args := [d] }
  | _ => none }
def FnExactMexWrongFalsely : Prop := fnExactMexRow.holds Try.pinned (OpenSpec.ofChange fnExactMexWrong)

/-- 'laws.FnExactCodeText': WHATEVER THE INPUT: true; the input reads as it did. -/
def fnExactCodeTextSpec : ChangeSpec := { name := "fnExactCodeText", fn := fun _ => fun
  | [d] => { results := [.lit (.bool true)], args := [d] }
  | _ => none }
def fnExactCodeTextRow : OpenClaim := { program := "ytnajhlgdncdhbaa", sum := "7215aa21aeb91f746d276b2108da10c1a6a6008c95e3b3b2007cb7186441afcd", func := "loop.example/g00868/laws.FnExactCodeText", spec := "fnExactCodeText", recurses := true, apart := false }
def FnExactCodeTextSaid : Prop := fnExactCodeTextRow.holds Try.pinned (OpenSpec.ofChange fnExactCodeTextSpec)

/-- ITS FALSE NEIGHBOUR: 'it returns false'. Refute it at one input. -/
def fnExactCodeTextWrong : ChangeSpec := { name := "fnExactCodeText", fn := fun _ => fun
  | [d] => { results := [.lit (.bool false)], args := [d] }
  | _ => none }
def FnExactCodeTextWrongFalsely : Prop := fnExactCodeTextRow.holds Try.pinned (OpenSpec.ofChange fnExactCodeTextWrong)

/-- 'laws.FnExactReadCode': WHATEVER THE INPUT: true; the input reads as it did. -/
def fnExactReadCodeSpec : ChangeSpec := { name := "fnExactReadCode", fn := fun _ => fun
  | [d] => { results := [.lit (.bool true)], args := [d] }
  | _ => none }
def fnExactReadCodeRow : OpenClaim := { program := "ytnajhlgdncdhbaa", sum := "7215aa21aeb91f746d276b2108da10c1a6a6008c95e3b3b2007cb7186441afcd", func := "loop.example/g00868/laws.FnExactReadCode", spec := "fnExactReadCode", apart := false }
def FnExactReadCodeSaid : Prop := fnExactReadCodeRow.holds Try.pinned (OpenSpec.ofChange fnExactReadCodeSpec)

/-- ITS FALSE NEIGHBOUR: 'it returns false'. Refute it at one input. -/
def fnExactReadCodeWrong : ChangeSpec := { name := "fnExactReadCode", fn := fun _ => fun
  | [d] => { results := [.lit (.bool false)], args := [d] }
  | _ => none }
def FnExactReadCodeWrongFalsely : Prop := fnExactReadCodeRow.holds Try.pinned (OpenSpec.ofChange fnExactReadCodeWrong)

/-- 'laws.FnExactSameForm': WHATEVER THE INPUT: true; the input reads as it did. -/
def fnExactSameFormSpec : ChangeSpec := { name := "fnExactSameForm", fn := fun _ => fun
  | [d1, d2] => { results := [.lit (.bool true)], args := [d1, d2] }
  | _ => none }
def fnExactSameFormRow : OpenClaim := { program := "ytnajhlgdncdhbaa", sum := "7215aa21aeb91f746d276b2108da10c1a6a6008c95e3b3b2007cb7186441afcd", func := "loop.example/g00868/laws.FnExactSameForm", spec := "fnExactSameForm", unfollowed := true, recurses := true, apart := false }
def FnExactSameFormSaid : Prop := fnExactSameFormRow.holds Try.pinned (OpenSpec.ofChange fnExactSameFormSpec)

/-- ITS FALSE NEIGHBOUR: 'it returns false'. Refute it at one input. -/
def fnExactSameFormWrong : ChangeSpec := { name := "fnExactSameForm", fn := fun _ => fun
  | [d1, d2] => { results := [.lit (.bool false)], args := [d1, d2] }
  | _ => none }
def FnExactSameFormWrongFalsely : Prop := fnExactSameFormRow.holds Try.pinned (OpenSpec.ofChange fnExactSameFormWrong)

/-- 'laws.FnExactUsesOf': WHATEVER THE INPUT: true; the input reads as it did. -/
def fnExactUsesOfSpec : ChangeSpec := { name := "fnExactUsesOf", fn := fun _ => fun
  | [d] => { results := [.lit (.bool true)], args := [d] }
  | _ => none }
def fnExactUsesOfRow : OpenClaim := { program := "ytnajhlgdncdhbaa", sum := "7215aa21aeb91f746d276b2108da10c1a6a6008c95e3b3b2007cb7186441afcd", func := "loop.example/g00868/laws.FnExactUsesOf", spec := "fnExactUsesOf", apart := false }
def FnExactUsesOfSaid : Prop := fnExactUsesOfRow.holds Try.pinned (OpenSpec.ofChange fnExactUsesOfSpec)

/-- ITS FALSE NEIGHBOUR: 'it returns false'. Refute it at one input. -/
def fnExactUsesOfWrong : ChangeSpec := { name := "fnExactUsesOf", fn := fun _ => fun
  | [d] => { results := [.lit (.bool false)], args := [d] }
  | _ => none }
def FnExactUsesOfWrongFalsely : Prop := fnExactUsesOfRow.holds Try.pinned (OpenSpec.ofChange fnExactUsesOfWrong)

/-- 'laws.FnExactHeapValues': WHATEVER THE INPUT: true; the input reads as it did. -/
def fnExactHeapValuesSpec : ChangeSpec := { name := "fnExactHeapValues", fn := fun _ => fun
  | [d1, d2] => { results := [.lit (.bool true)], args := [d1, d2] }
  | _ => none }
def fnExactHeapValuesRow : OpenClaim := { program := "ytnajhlgdncdhbaa", sum := "7215aa21aeb91f746d276b2108da10c1a6a6008c95e3b3b2007cb7186441afcd", func := "loop.example/g00868/laws.FnExactHeapValues", spec := "fnExactHeapValues", apart := false }
def FnExactHeapValuesSaid : Prop := fnExactHeapValuesRow.holds Try.pinned (OpenSpec.ofChange fnExactHeapValuesSpec)

/-- ITS FALSE NEIGHBOUR: 'it returns false'. Refute it at one input. -/
def fnExactHeapValuesWrong : ChangeSpec := { name := "fnExactHeapValues", fn := fun _ => fun
  | [d1, d2] => { results := [.lit (.bool false)], args := [d1, d2] }
  | _ => none }
def FnExactHeapValuesWrongFalsely : Prop := fnExactHeapValuesRow.holds Try.pinned (OpenSpec.ofChange fnExactHeapValuesWrong)

/-- 'laws.FnExactHeapsValue': WHATEVER THE INPUT: true; the input reads as it did. -/
def fnExactHeapsValueSpec : ChangeSpec := { name := "fnExactHeapsValue", fn := fun _ => fun
  | [d1, d2] => { results := [.lit (.bool true)], args := [d1, d2] }
  | _ => none }
def fnExactHeapsValueRow : OpenClaim := { program := "ytnajhlgdncdhbaa", sum := "7215aa21aeb91f746d276b2108da10c1a6a6008c95e3b3b2007cb7186441afcd", func := "loop.example/g00868/laws.FnExactHeapsValue", spec := "fnExactHeapsValue", apart := false }
def FnExactHeapsValueSaid : Prop := fnExactHeapsValueRow.holds Try.pinned (OpenSpec.ofChange fnExactHeapsValueSpec)

/-- ITS FALSE NEIGHBOUR: 'it returns false'. Refute it at one input. -/
def fnExactHeapsValueWrong : ChangeSpec := { name := "fnExactHeapsValue", fn := fun _ => fun
  | [d1, d2] => { results := [.lit (.bool false)], args := [d1, d2] }
  | _ => none }
def FnExactHeapsValueWrongFalsely : Prop := fnExactHeapsValueRow.holds Try.pinned (OpenSpec.ofChange fnExactHeapsValueWrong)

/- THE SECOND FORM. 'bulk': how many values and letters a reading holds, each counted each time it is reached (what is shared counts as often as it is met; a slice's spare places count too). A statement '..UptoSaid' is the law's where the arguments, and the package variables that the reading takes, are together of bulk at most 1048576: NARROWER than '..Said'. Prove '..Said' where nothing that the law and all that it calls make is longer than what came in: it says more and counts as full. Else prove '..UptoSaid'. A law counts once. -/
mutual
def uptoBulk {H : Type} : DataW H → Nat
  | .lit (.string bytes) => bytes.length + 1
  | .lit _ => 1
  | .nil => 1
  | .ptr d => uptoBulk d + 1
  | .slice elems spare => uptoBulkAll elems + uptoBulkAll spare + 1
  | .agg parts => uptoBulkAll parts + 1
  | .iface _ d => uptoBulk d + 1
  | .map entries => uptoBulkEntries entries + 1
  | .held _ => 1
def uptoBulkAll {H : Type} : List (DataW H) → Nat
  | [] => 0
  | d :: r => uptoBulk d + uptoBulkAll r
def uptoBulkEntries {H : Type} : List (Lit × DataW H) → Nat
  | [] => 0
  | x :: r => uptoBulkEntry x + uptoBulkEntries r
def uptoBulkEntry {H : Type} : Lit × DataW H → Nat
  | (.string bytes, d) => bytes.length + uptoBulk d + 1
  | (_, d) => uptoBulk d + 1
 end
def uptoSmall : (H : Type) → List (DataW H) → Bool := fun _ ds => decide (uptoBulkAll ds ≤ 1048576)
def OpenSpec.upto (s : _root_.Go.ChangeSpec) : _root_.Go.OpenSpec := { _root_.Go.OpenSpec.ofChange s with cond := some uptoSmall }

/-- 'laws.FnExactGoodPeriod', WHERE WHAT IT READS IS OF BULK AT MOST 1048576: true; the input reads as it did. -/
def fnExactGoodPeriodUptoRow : OpenClaim := { program := "ytnajhlgdncdhbaa", sum := "7215aa21aeb91f746d276b2108da10c1a6a6008c95e3b3b2007cb7186441afcd", func := "loop.example/g00868/laws.FnExactGoodPeriod", spec := "fnExactGoodPeriod", apart := false, narrowed := true }
def FnExactGoodPeriodUptoSaid : Prop := fnExactGoodPeriodUptoRow.holds Try.pinned (OpenSpec.upto fnExactGoodPeriodSpec)

/-- 'laws.FnExactGoodCode', WHERE WHAT IT READS IS OF BULK AT MOST 1048576: true; the input reads as it did. -/
def fnExactGoodCodeUptoRow : OpenClaim := { program := "ytnajhlgdncdhbaa", sum := "7215aa21aeb91f746d276b2108da10c1a6a6008c95e3b3b2007cb7186441afcd", func := "loop.example/g00868/laws.FnExactGoodCode", spec := "fnExactGoodCode", apart := false, narrowed := true }
def FnExactGoodCodeUptoSaid : Prop := fnExactGoodCodeUptoRow.holds Try.pinned (OpenSpec.upto fnExactGoodCodeSpec)

/-- 'laws.FnExactRepeats', WHERE WHAT IT READS IS OF BULK AT MOST 1048576: true; the input reads as it did. -/
def fnExactRepeatsUptoRow : OpenClaim := { program := "ytnajhlgdncdhbaa", sum := "7215aa21aeb91f746d276b2108da10c1a6a6008c95e3b3b2007cb7186441afcd", func := "loop.example/g00868/laws.FnExactRepeats", spec := "fnExactRepeats", apart := false, narrowed := true }
def FnExactRepeatsUptoSaid : Prop := fnExactRepeatsUptoRow.holds Try.pinned (OpenSpec.upto fnExactRepeatsSpec)

/-- 'laws.FnExactMex', WHERE WHAT IT READS IS OF BULK AT MOST 1048576: true; the input reads as it did. -/
def fnExactMexUptoRow : OpenClaim := { program := "ytnajhlgdncdhbaa", sum := "7215aa21aeb91f746d276b2108da10c1a6a6008c95e3b3b2007cb7186441afcd", func := "loop.example/g00868/laws.FnExactMex", spec := "fnExactMex", apart := false, narrowed := true }
def FnExactMexUptoSaid : Prop := fnExactMexUptoRow.holds Try.pinned (OpenSpec.upto fnExactMexSpec)

/-- 'laws.FnExactCodeText', WHERE WHAT IT READS IS OF BULK AT MOST 1048576: true; the input reads as it did. -/
def fnExactCodeTextUptoRow : OpenClaim := { program := "ytnajhlgdncdhbaa", sum := "7215aa21aeb91f746d276b2108da10c1a6a6008c95e3b3b2007cb7186441afcd", func := "loop.example/g00868/laws.FnExactCodeText", spec := "fnExactCodeText", recurses := true, apart := false, narrowed := true }
def FnExactCodeTextUptoSaid : Prop := fnExactCodeTextUptoRow.holds Try.pinned (OpenSpec.upto fnExactCodeTextSpec)

/-- 'laws.FnExactReadCode', WHERE WHAT IT READS IS OF BULK AT MOST 1048576: true; the input reads as it did. -/
def fnExactReadCodeUptoRow : OpenClaim := { program := "ytnajhlgdncdhbaa", sum := "7215aa21aeb91f746d276b2108da10c1a6a6008c95e3b3b2007cb7186441afcd", func := "loop.example/g00868/laws.FnExactReadCode", spec := "fnExactReadCode", apart := false, narrowed := true }
def FnExactReadCodeUptoSaid : Prop := fnExactReadCodeUptoRow.holds Try.pinned (OpenSpec.upto fnExactReadCodeSpec)

/-- 'laws.FnExactSameForm', WHERE WHAT IT READS IS OF BULK AT MOST 1048576: true; the input reads as it did. -/
def fnExactSameFormUptoRow : OpenClaim := { program := "ytnajhlgdncdhbaa", sum := "7215aa21aeb91f746d276b2108da10c1a6a6008c95e3b3b2007cb7186441afcd", func := "loop.example/g00868/laws.FnExactSameForm", spec := "fnExactSameForm", unfollowed := true, recurses := true, apart := false, narrowed := true }
def FnExactSameFormUptoSaid : Prop := fnExactSameFormUptoRow.holds Try.pinned (OpenSpec.upto fnExactSameFormSpec)

/-- 'laws.FnExactUsesOf', WHERE WHAT IT READS IS OF BULK AT MOST 1048576: true; the input reads as it did. -/
def fnExactUsesOfUptoRow : OpenClaim := { program := "ytnajhlgdncdhbaa", sum := "7215aa21aeb91f746d276b2108da10c1a6a6008c95e3b3b2007cb7186441afcd", func := "loop.example/g00868/laws.FnExactUsesOf", spec := "fnExactUsesOf", apart := false, narrowed := true }
def FnExactUsesOfUptoSaid : Prop := fnExactUsesOfUptoRow.holds Try.pinned (OpenSpec.upto fnExactUsesOfSpec)

/-- 'laws.FnExactHeapValues', WHERE WHAT IT READS IS OF BULK AT MOST 1048576: true; the input reads as it did. -/
def fnExactHeapValuesUptoRow : OpenClaim := { program := "ytnajhlgdncdhbaa", sum := "7215aa21aeb91f746d276b2108da10c1a6a6008c95e3b3b2007cb7186441afcd", func := "loop.example/g00868/laws.FnExactHeapValues", spec := "fnExactHeapValues", apart := false, narrowed := true }
def FnExactHeapValuesUptoSaid : Prop := fnExactHeapValuesUptoRow.holds Try.pinned (OpenSpec.upto fnExactHeapValuesSpec)

/-- 'laws.FnExactHeapsValue', WHERE WHAT IT READS IS OF BULK AT MOST 1048576: true; the input reads as it did. -/
def fnExactHeapsValueUptoRow : OpenClaim := { program := "ytnajhlgdncdhbaa", sum := "7215aa21aeb91f746d276b2108da10c1a6a6008c95e3b3b2007cb7186441afcd", func := "loop.example/g00868/laws.FnExactHeapsValue", spec := "fnExactHeapsValue", apart := false, narrowed := true }
def FnExactHeapsValueUptoSaid : Prop := fnExactHeapsValueUptoRow.holds Try.pinned (OpenSpec.upto fnExactHeapsValueSpec)

end Rows
end Go.Proofs.Ytnajhlgdncdhbaa
