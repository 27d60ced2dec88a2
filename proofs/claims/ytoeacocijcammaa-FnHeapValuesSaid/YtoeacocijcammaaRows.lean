/-
  No cell of these rows narrows 'for every input' (looked for: loops, veiled, ifaces, maps, wideKeys, modest, calm, conditions, laid).
  DERIVED. THE GIVEN ROWS OF THIS SEAT. 7 by the template 'for every input the law returns true; each argument reads behind the call as it read before'; 0 by the template 'total and deterministic' (their statements: YtoeacocijcammaaTotals.lean).
  GIVEN WITH THE SEED: the statements are not yours to turn. If you find one false, say at which input.
  Laid BY PROGRAM, IN A SANDBOX (cutbox-rows.mjs): the forced cells as the released guide's own fill.sh prints them over the translation f77410094c5134bd… (all of the seat's roots in one cut). By AI agents, Wed Nov 11 2026. No macro, syntax, notation, axiom, sorry.
-/
import Derived.Test.YtoeacocijcammaaChecked
import GoSem.Claim
import GoSem.ClaimJoined
import GoSem.ClaimMapViews
import Derived.JoinedTies
import Derived.KernelRfl
namespace Go.Proofs.Ytoeacocijcammaa
/- THE CELL 'sum', in the pinned program and in every row, IS THE sha256 OF THE DUMP (.gsa) THAT YtoeacocijcammaaProg.lean LOADS. Nothing in Lean hashes anything: it is a label: what it is worth is what the hold of that sum in a sandbox is worth. -/
noncomputable def Try.pinned : Pinned := { name := "ytoeacocijcammaa", sum := "f77410094c5134bdfa6a20b4a118442afe37a8d40c26fdfc582f6ee9d4ea81f3", checked := Try.checked }
namespace Rows
def none {H : Type} : Left H := { results := [], args := [] }

/-- 'laws.FnExactHeapMoves': WHATEVER THE INPUT: true; the input reads as it did. -/
def fnExactHeapMovesSpec : ChangeSpec := { name := "fnExactHeapMoves", fn := fun _ => fun
  | [d1, d2] => { results := [.lit (.bool true)], args := [d1, d2] }
  | _ => none }
def fnExactHeapMovesRow : OpenClaim := { program := "ytoeacocijcammaa", sum := "f77410094c5134bdfa6a20b4a118442afe37a8d40c26fdfc582f6ee9d4ea81f3", func := "loop.example/g00868/laws.FnExactHeapMoves", spec := "fnExactHeapMoves", unfollowed := true, recurses := true, apart := false }
def FnExactHeapMovesSaid : Prop := fnExactHeapMovesRow.holds Try.pinned (OpenSpec.ofChange fnExactHeapMovesSpec)

/-- ITS FALSE NEIGHBOUR: 'it returns false'. Refute it at one input. -/
def fnExactHeapMovesWrong : ChangeSpec := { name := "fnExactHeapMoves", fn := fun _ => fun
  | [d1, d2] => { results := [.lit (.bool false)], args := [d1, d2] }
  | _ => none }
def FnExactHeapMovesWrongFalsely : Prop := fnExactHeapMovesRow.holds Try.pinned (OpenSpec.ofChange fnExactHeapMovesWrong)

/-- 'laws.FnHeapTexts': WHATEVER THE INPUT: true; the input reads as it did. -/
def fnHeapTextsSpec : ChangeSpec := { name := "fnHeapTexts", fn := fun _ => fun
  | [d] => { results := [.lit (.bool true)], args := [d] }
  | _ => none }
def fnHeapTextsRow : OpenClaim := { program := "ytoeacocijcammaa", sum := "f77410094c5134bdfa6a20b4a118442afe37a8d40c26fdfc582f6ee9d4ea81f3", func := "loop.example/g00868/laws.FnHeapTexts", spec := "fnHeapTexts", unfollowed := true, recurses := true, apart := false }
def FnHeapTextsSaid : Prop := fnHeapTextsRow.holds Try.pinned (OpenSpec.ofChange fnHeapTextsSpec)

/-- ITS FALSE NEIGHBOUR: 'it returns false'. Refute it at one input. -/
def fnHeapTextsWrong : ChangeSpec := { name := "fnHeapTexts", fn := fun _ => fun
  | [d] => { results := [.lit (.bool false)], args := [d] }
  | _ => none }
def FnHeapTextsWrongFalsely : Prop := fnHeapTextsRow.holds Try.pinned (OpenSpec.ofChange fnHeapTextsWrong)

/-- 'laws.FnHeapValues': WHATEVER THE INPUT: true; the input reads as it did. -/
def fnHeapValuesSpec : ChangeSpec := { name := "fnHeapValues", fn := fun _ => fun
  | [d] => { results := [.lit (.bool true)], args := [d] }
  | _ => none }
def fnHeapValuesRow : OpenClaim := { program := "ytoeacocijcammaa", sum := "f77410094c5134bdfa6a20b4a118442afe37a8d40c26fdfc582f6ee9d4ea81f3", func := "loop.example/g00868/laws.FnHeapValues", spec := "fnHeapValues", unfollowed := true, recurses := true, apart := false }
def FnHeapValuesSaid : Prop := fnHeapValuesRow.holds Try.pinned (OpenSpec.ofChange fnHeapValuesSpec)

/-- ITS FALSE NEIGHBOUR: 'it returns false'. Refute it at one input. -/
def fnHeapValuesWrong : ChangeSpec := { name := "fnHeapValues", fn := fun _ => fun
  | [d] => { results := [.lit (.bool false)], args := [d] }
  | _ => none }
def FnHeapValuesWrongFalsely : Prop := fnHeapValuesRow.holds Try.pinned (OpenSpec.ofChange fnHeapValuesWrong)

/-- 'laws.FnExactPlayHeaps': WHATEVER THE INPUT: true; the input reads as it did. -/
def fnExactPlayHeapsSpec : ChangeSpec := { name := "fnExactPlayHeaps", fn := fun _ => fun
  | [d1, d2] => { results := [.lit (.bool true)], args := [d1, d2] }
  | _ => none }
def fnExactPlayHeapsRow : OpenClaim := { program := "ytoeacocijcammaa", sum := "f77410094c5134bdfa6a20b4a118442afe37a8d40c26fdfc582f6ee9d4ea81f3", func := "loop.example/g00868/laws.FnExactPlayHeaps", spec := "fnExactPlayHeaps", unfollowed := true, recurses := true, apart := false }
def FnExactPlayHeapsSaid : Prop := fnExactPlayHeapsRow.holds Try.pinned (OpenSpec.ofChange fnExactPlayHeapsSpec)

/-- ITS FALSE NEIGHBOUR: 'it returns false'. Refute it at one input. -/
def fnExactPlayHeapsWrong : ChangeSpec := { name := "fnExactPlayHeaps", fn := fun _ => fun
  | [d1, d2] => { results := [.lit (.bool false)], args := [d1, d2] }
  | _ => none }
def FnExactPlayHeapsWrongFalsely : Prop := fnExactPlayHeapsRow.holds Try.pinned (OpenSpec.ofChange fnExactPlayHeapsWrong)

/-- 'laws.FnExactWinningHeaps': WHATEVER THE INPUT: true; the input reads as it did. -/
def fnExactWinningHeapsSpec : ChangeSpec := { name := "fnExactWinningHeaps", fn := fun _ => fun
  | [d1, d2] => { results := [.lit (.bool true)], args := [d1, d2] }
  | _ => none }
def fnExactWinningHeapsRow : OpenClaim := { program := "ytoeacocijcammaa", sum := "f77410094c5134bdfa6a20b4a118442afe37a8d40c26fdfc582f6ee9d4ea81f3", func := "loop.example/g00868/laws.FnExactWinningHeaps", spec := "fnExactWinningHeaps", unfollowed := true, recurses := true, apart := false }
def FnExactWinningHeapsSaid : Prop := fnExactWinningHeapsRow.holds Try.pinned (OpenSpec.ofChange fnExactWinningHeapsSpec)

/-- ITS FALSE NEIGHBOUR: 'it returns false'. Refute it at one input. -/
def fnExactWinningHeapsWrong : ChangeSpec := { name := "fnExactWinningHeaps", fn := fun _ => fun
  | [d1, d2] => { results := [.lit (.bool false)], args := [d1, d2] }
  | _ => none }
def FnExactWinningHeapsWrongFalsely : Prop := fnExactWinningHeapsRow.holds Try.pinned (OpenSpec.ofChange fnExactWinningHeapsWrong)

/-- 'laws.FnWinningHeaps': WHATEVER THE INPUT: true; the input reads as it did. -/
def fnWinningHeapsSpec : ChangeSpec := { name := "fnWinningHeaps", fn := fun _ => fun
  | [d] => { results := [.lit (.bool true)], args := [d] }
  | _ => none }
def fnWinningHeapsRow : OpenClaim := { program := "ytoeacocijcammaa", sum := "f77410094c5134bdfa6a20b4a118442afe37a8d40c26fdfc582f6ee9d4ea81f3", func := "loop.example/g00868/laws.FnWinningHeaps", spec := "fnWinningHeaps", unfollowed := true, recurses := true, apart := false }
def FnWinningHeapsSaid : Prop := fnWinningHeapsRow.holds Try.pinned (OpenSpec.ofChange fnWinningHeapsSpec)

/-- ITS FALSE NEIGHBOUR: 'it returns false'. Refute it at one input. -/
def fnWinningHeapsWrong : ChangeSpec := { name := "fnWinningHeaps", fn := fun _ => fun
  | [d] => { results := [.lit (.bool false)], args := [d] }
  | _ => none }
def FnWinningHeapsWrongFalsely : Prop := fnWinningHeapsRow.holds Try.pinned (OpenSpec.ofChange fnWinningHeapsWrong)

/-- 'laws.FnHeapPlay': WHATEVER THE INPUT: true; the input reads as it did. -/
def fnHeapPlaySpec : ChangeSpec := { name := "fnHeapPlay", fn := fun _ => fun
  | [d] => { results := [.lit (.bool true)], args := [d] }
  | _ => none }
def fnHeapPlayRow : OpenClaim := { program := "ytoeacocijcammaa", sum := "f77410094c5134bdfa6a20b4a118442afe37a8d40c26fdfc582f6ee9d4ea81f3", func := "loop.example/g00868/laws.FnHeapPlay", spec := "fnHeapPlay", unfollowed := true, recurses := true, apart := false }
def FnHeapPlaySaid : Prop := fnHeapPlayRow.holds Try.pinned (OpenSpec.ofChange fnHeapPlaySpec)

/-- ITS FALSE NEIGHBOUR: 'it returns false'. Refute it at one input. -/
def fnHeapPlayWrong : ChangeSpec := { name := "fnHeapPlay", fn := fun _ => fun
  | [d] => { results := [.lit (.bool false)], args := [d] }
  | _ => none }
def FnHeapPlayWrongFalsely : Prop := fnHeapPlayRow.holds Try.pinned (OpenSpec.ofChange fnHeapPlayWrong)

/- THE SECOND FORM. 'bulk': how many values and letters a reading holds, each counted each time it is reached (what is shared counts as often as it is met; a slice's spare places count too). A statement '..UptoSaid' is the law's where the arguments, and the package variables that the reading takes, are together of bulk at most 1048576: NARROWER than '..Said'. Prove '..Said' where nothing that the law and all that it calls make is longer than what came in: it says more and counts as full. Else prove '..UptoSaid'. A law counts once. -/
mutual
def uptoBulk {H : Type} : DataW H → Nat
  | .lit (.string bytes) => bytes.length + 1
  | .lit _ => 1
  | .nil => 1
  | .ptr d => uptoBulk d + 1
  | .slice elems spare => uptoBulkAll elems + uptoBulkAll spare + 1
  | .agg parts => uptoBulkAll parts + 1
  | .iface _ d => uptoBulk d + 1
  | .map entries => uptoBulkEntries entries + 1
  | .held _ => 1
def uptoBulkAll {H : Type} : List (DataW H) → Nat
  | [] => 0
  | d :: r => uptoBulk d + uptoBulkAll r
def uptoBulkEntries {H : Type} : List (Lit × DataW H) → Nat
  | [] => 0
  | x :: r => uptoBulkEntry x + uptoBulkEntries r
def uptoBulkEntry {H : Type} : Lit × DataW H → Nat
  | (.string bytes, d) => bytes.length + uptoBulk d + 1
  | (_, d) => uptoBulk d + 1
 end
def uptoSmall : (H : Type) → List (DataW H) → Bool := fun _ ds => decide (uptoBulkAll ds ≤ 1048576)
def OpenSpec.upto (s : _root_.Go.ChangeSpec) : _root_.Go.OpenSpec := { _root_.Go.OpenSpec.ofChange s with cond := some uptoSmall }

/-- 'laws.FnExactHeapMoves', WHERE WHAT IT READS IS OF BULK AT MOST 1048576: true; the input reads as it did. -/
def fnExactHeapMovesUptoRow : OpenClaim := { program := "ytoeacocijcammaa", sum := "f77410094c5134bdfa6a20b4a118442afe37a8d40c26fdfc582f6ee9d4ea81f3", func := "loop.example/g00868/laws.FnExactHeapMoves", spec := "fnExactHeapMoves", unfollowed := true, recurses := true, apart := false, narrowed := true }
def FnExactHeapMovesUptoSaid : Prop := fnExactHeapMovesUptoRow.holds Try.pinned (OpenSpec.upto fnExactHeapMovesSpec)

/-- 'laws.FnHeapTexts', WHERE WHAT IT READS IS OF BULK AT MOST 1048576: true; the input reads as it did. -/
def fnHeapTextsUptoRow : OpenClaim := { program := "ytoeacocijcammaa", sum := "f77410094c5134bdfa6a20b4a118442afe37a8d40c26fdfc582f6ee9d4ea81f3", func := "loop.example/g00868/laws.FnHeapTexts", spec := "fnHeapTexts", unfollowed := true, recurses := true, apart := false, narrowed := true }
def FnHeapTextsUptoSaid : Prop := fnHeapTextsUptoRow.holds Try.pinned (OpenSpec.upto fnHeapTextsSpec)

/-- 'laws.FnHeapValues', WHERE WHAT IT READS IS OF BULK AT MOST 1048576: true; the input reads as it did. -/
def fnHeapValuesUptoRow : OpenClaim := { program := "ytoeacocijcammaa", sum := "f77410094c5134bdfa6a20b4a118442afe37a8d40c26fdfc582f6ee9d4ea81f3", func := "loop.example/g00868/laws.FnHeapValues", spec := "fnHeapValues", unfollowed := true, recurses := true, apart := false, narrowed := true }
def FnHeapValuesUptoSaid : Prop := fnHeapValuesUptoRow.holds Try.pinned (OpenSpec.upto fnHeapValuesSpec)

/-- 'laws.FnExactPlayHeaps', WHERE WHAT IT READS IS OF BULK AT MOST 1048576: true; the input reads as it did. -/
def fnExactPlayHeapsUptoRow : OpenClaim := { program := "ytoeacocijcammaa", sum := "f77410094c5134bdfa6a20b4a118442afe37a8d40c26fdfc582f6ee9d4ea81f3", func := "loop.example/g00868/laws.FnExactPlayHeaps", spec := "fnExactPlayHeaps", unfollowed := true, recurses := true, apart := false, narrowed := true }
def FnExactPlayHeapsUptoSaid : Prop := fnExactPlayHeapsUptoRow.holds Try.pinned (OpenSpec.upto fnExactPlayHeapsSpec)

/-- 'laws.FnExactWinningHeaps', WHERE WHAT IT READS IS OF BULK AT MOST 1048576: true; the input reads as it did. -/
def fnExactWinningHeapsUptoRow : OpenClaim := { program := "ytoeacocijcammaa", sum := "f77410094c5134bdfa6a20b4a118442afe37a8d40c26fdfc582f6ee9d4ea81f3", func := "loop.example/g00868/laws.FnExactWinningHeaps", spec := "fnExactWinningHeaps", unfollowed := true, recurses := true, apart := false, narrowed := true }
def FnExactWinningHeapsUptoSaid : Prop := fnExactWinningHeapsUptoRow.holds Try.pinned (OpenSpec.upto fnExactWinningHeapsSpec)

/-- 'laws.FnWinningHeaps', WHERE WHAT IT READS IS OF BULK AT MOST 1048576: true; the input reads as it did. -/
def fnWinningHeapsUptoRow : OpenClaim := { program := "ytoeacocijcammaa", sum := "f77410094c5134bdfa6a20b4a118442afe37a8d40c26fdfc582f6ee9d4ea81f3", func := "loop.example/g00868/laws.FnWinningHeaps", spec := "fnWinningHeaps", unfollowed := true, recurses := true, apart := false, narrowed := true }
def FnWinningHeapsUptoSaid : Prop := fnWinningHeapsUptoRow.holds Try.pinned (OpenSpec.upto fnWinningHeapsSpec)

/-- 'laws.FnHeapPlay', WHERE WHAT IT READS IS OF BULK AT MOST 1048576: true; the input reads as it did. -/
def fnHeapPlayUptoRow : OpenClaim := { program := "ytoeacocijcammaa", sum := "f77410094c5134bdfa6a20b4a118442afe37a8d40c26fdfc582f6ee9d4ea81f3", func := "loop.example/g00868/laws.FnHeapPlay", spec := "fnHeapPlay", unfollowed := true, recurses := true, apart := false, narrowed := true }
def FnHeapPlayUptoSaid : Prop := fnHeapPlayUptoRow.holds Try.pinned (OpenSpec.upto fnHeapPlaySpec)

end Rows
end Go.Proofs.Ytoeacocijcammaa
