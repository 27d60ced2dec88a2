/-
  No cell of these rows narrows 'for every input' (looked for: loops, veiled, ifaces, maps, wideKeys, modest, calm, conditions, laid).
  DERIVED. THE GIVEN ROWS OF THIS SEAT. 12 by the template 'for every input the law returns true; each argument reads behind the call as it read before'; 0 by the template 'total and deterministic' (their statements: YtbfabnpcahinfaaTotals.lean).
  GIVEN WITH THE SEED: the statements are not yours to turn. If you find one false, say at which input.
  Laid BY PROGRAM, IN A SANDBOX (cutbox-rows.mjs): the forced cells as the released guide's own fill.sh prints them over the translation 457e8c3d8b512df1… (all of the seat's roots in one cut). By AI agents, Wed Nov 11 2026. No macro, syntax, notation, axiom, sorry.
-/
import Derived.Test.YtbfabnpcahinfaaChecked
import GoSem.Claim
import GoSem.ClaimJoined
import GoSem.ClaimMapViews
import Derived.JoinedTies
import Derived.KernelRfl
namespace Go.Proofs.Ytbfabnpcahinfaa
/- THE CELL 'sum', in the pinned program and in every row, IS THE sha256 OF THE DUMP (.gsa) THAT YtbfabnpcahinfaaProg.lean LOADS. Nothing in Lean hashes anything: it is a label: what it is worth is what the hold of that sum in a sandbox is worth. -/
noncomputable def Try.pinned : Pinned := { name := "ytbfabnpcahinfaa", sum := "457e8c3d8b512df1dd285f9d7f93c71999522564f0e32a2908101f8895d1e9a3", checked := Try.checked }
namespace Rows
def none {H : Type} : Left H := { results := [], args := [] }

/-- 'laws.FnExactConstants': WHATEVER THE INPUT: true; the input reads as it did. -/
def fnExactConstantsSpec : ChangeSpec := { name := "fnExactConstants", fn := fun _ => fun
  | [] => { results := [.lit (.bool true)], args := [] }
  | _ => none }
def fnExactConstantsRow : OpenClaim := { program := "ytbfabnpcahinfaa", sum := "457e8c3d8b512df1dd285f9d7f93c71999522564f0e32a2908101f8895d1e9a3", func := "loop.example/g00868/laws.FnExactConstants", spec := "fnExactConstants", apart := false }
def FnExactConstantsSaid : Prop := fnExactConstantsRow.holds Try.pinned (OpenSpec.ofChange fnExactConstantsSpec)

/-- ITS FALSE NEIGHBOUR: 'it returns false'. Refute it at one input. -/
def fnExactConstantsWrong : ChangeSpec := { name := "fnExactConstants", fn := fun _ => fun
  | [] => { results := [.lit (.bool false)], args := [] }
  | _ => none }
def FnExactConstantsWrongFalsely : Prop := fnExactConstantsRow.holds Try.pinned (OpenSpec.ofChange fnExactConstantsWrong)

/-- 'laws.FnExactGoodDyadic': WHATEVER THE INPUT: true; the input reads as it did. -/
def fnExactGoodDyadicSpec : ChangeSpec := { name := "fnExactGoodDyadic", fn := fun _ => fun
  | [d] => { results := [.lit (.bool true)], args := [d] }
  | _ => none }
def fnExactGoodDyadicRow : OpenClaim := { program := "ytbfabnpcahinfaa", sum := "457e8c3d8b512df1dd285f9d7f93c71999522564f0e32a2908101f8895d1e9a3", func := "loop.example/g00868/laws.FnExactGoodDyadic", spec := "fnExactGoodDyadic", apart := false }
def FnExactGoodDyadicSaid : Prop := fnExactGoodDyadicRow.holds Try.pinned (OpenSpec.ofChange fnExactGoodDyadicSpec)

/-- ITS FALSE NEIGHBOUR: 'it returns false'. Refute it at one input. -/
def fnExactGoodDyadicWrong : ChangeSpec := { name := "fnExactGoodDyadic", fn := fun _ => fun
  | [d] => { results := [.lit (.bool false)], args := [d] }
  | _ => none }
def FnExactGoodDyadicWrongFalsely : Prop := fnExactGoodDyadicRow.holds Try.pinned (OpenSpec.ofChange fnExactGoodDyadicWrong)

/-- 'laws.FnExactNegDyadic': WHATEVER THE INPUT: true; the input reads as it did. -/
def fnExactNegDyadicSpec : ChangeSpec := { name := "fnExactNegDyadic", fn := fun _ => fun
  | [d] => { results := [.lit (.bool true)], args := [d] }
  | _ => none }
def fnExactNegDyadicRow : OpenClaim := { program := "ytbfabnpcahinfaa", sum := "457e8c3d8b512df1dd285f9d7f93c71999522564f0e32a2908101f8895d1e9a3", func := "loop.example/g00868/laws.FnExactNegDyadic", spec := "fnExactNegDyadic", apart := false }
def FnExactNegDyadicSaid : Prop := fnExactNegDyadicRow.holds Try.pinned (OpenSpec.ofChange fnExactNegDyadicSpec)

/-- ITS FALSE NEIGHBOUR: 'it returns false'. Refute it at one input. -/
def fnExactNegDyadicWrong : ChangeSpec := { name := "fnExactNegDyadic", fn := fun _ => fun
  | [d] => { results := [.lit (.bool false)], args := [d] }
  | _ => none }
def FnExactNegDyadicWrongFalsely : Prop := fnExactNegDyadicRow.holds Try.pinned (OpenSpec.ofChange fnExactNegDyadicWrong)

/-- 'laws.FnExactBornOfDyadic': WHATEVER THE INPUT: true; the input reads as it did. -/
def fnExactBornOfDyadicSpec : ChangeSpec := { name := "fnExactBornOfDyadic", fn := fun _ => fun
  | [d] => { results := [.lit (.bool true)], args := [d] }
  | _ => none }
def fnExactBornOfDyadicRow : OpenClaim := { program := "ytbfabnpcahinfaa", sum := "457e8c3d8b512df1dd285f9d7f93c71999522564f0e32a2908101f8895d1e9a3", func := "loop.example/g00868/laws.FnExactBornOfDyadic", spec := "fnExactBornOfDyadic", apart := false }
def FnExactBornOfDyadicSaid : Prop := fnExactBornOfDyadicRow.holds Try.pinned (OpenSpec.ofChange fnExactBornOfDyadicSpec)

/-- ITS FALSE NEIGHBOUR: 'it returns false'. Refute it at one input. -/
def fnExactBornOfDyadicWrong : ChangeSpec := { name := "fnExactBornOfDyadic", fn := fun _ => fun
  | [d] => { results := [.lit (.bool false)], args := [d] }
  | _ => none }
def FnExactBornOfDyadicWrongFalsely : Prop := fnExactBornOfDyadicRow.holds Try.pinned (OpenSpec.ofChange fnExactBornOfDyadicWrong)

/-- 'laws.FnExactMakeDyadic': WHATEVER THE INPUT: true; the input reads as it did. -/
def fnExactMakeDyadicSpec : ChangeSpec := { name := "fnExactMakeDyadic", fn := fun _ => fun
  | [d1, d2] => { results := [.lit (.bool true)], args := [d1, d2] }
  | _ => none }
def fnExactMakeDyadicRow : OpenClaim := { program := "ytbfabnpcahinfaa", sum := "457e8c3d8b512df1dd285f9d7f93c71999522564f0e32a2908101f8895d1e9a3", func := "loop.example/g00868/laws.FnExactMakeDyadic", spec := "fnExactMakeDyadic", apart := false }
def FnExactMakeDyadicSaid : Prop := fnExactMakeDyadicRow.holds Try.pinned (OpenSpec.ofChange fnExactMakeDyadicSpec)

/-- ITS FALSE NEIGHBOUR: 'it returns false'. Refute it at one input. -/
def fnExactMakeDyadicWrong : ChangeSpec := { name := "fnExactMakeDyadic", fn := fun _ => fun
  | [d1, d2] => { results := [.lit (.bool false)], args := [d1, d2] }
  | _ => none }
def FnExactMakeDyadicWrongFalsely : Prop := fnExactMakeDyadicRow.holds Try.pinned (OpenSpec.ofChange fnExactMakeDyadicWrong)

/-- 'laws.FnExactHalfOf': WHATEVER THE INPUT: true; the input reads as it did. -/
def fnExactHalfOfSpec : ChangeSpec := { name := "fnExactHalfOf", fn := fun _ => fun
  | [d] => { results := [.lit (.bool true)], args := [d] }
  | _ => none }
def fnExactHalfOfRow : OpenClaim := { program := "ytbfabnpcahinfaa", sum := "457e8c3d8b512df1dd285f9d7f93c71999522564f0e32a2908101f8895d1e9a3", func := "loop.example/g00868/laws.FnExactHalfOf", spec := "fnExactHalfOf", apart := false }
def FnExactHalfOfSaid : Prop := fnExactHalfOfRow.holds Try.pinned (OpenSpec.ofChange fnExactHalfOfSpec)

/-- ITS FALSE NEIGHBOUR: 'it returns false'. Refute it at one input. -/
def fnExactHalfOfWrong : ChangeSpec := { name := "fnExactHalfOf", fn := fun _ => fun
  | [d] => { results := [.lit (.bool false)], args := [d] }
  | _ => none }
def FnExactHalfOfWrongFalsely : Prop := fnExactHalfOfRow.holds Try.pinned (OpenSpec.ofChange fnExactHalfOfWrong)

/-- 'laws.FnExactCompareDyadic': WHATEVER THE INPUT: true; the input reads as it did. -/
def fnExactCompareDyadicSpec : ChangeSpec := { name := "fnExactCompareDyadic", fn := fun _ => fun
  | [d1, d2] => { results := [.lit (.bool true)], args := [d1, d2] }
  | _ => none }
def fnExactCompareDyadicRow : OpenClaim := { program := "ytbfabnpcahinfaa", sum := "457e8c3d8b512df1dd285f9d7f93c71999522564f0e32a2908101f8895d1e9a3", func := "loop.example/g00868/laws.FnExactCompareDyadic", spec := "fnExactCompareDyadic", apart := false }
def FnExactCompareDyadicSaid : Prop := fnExactCompareDyadicRow.holds Try.pinned (OpenSpec.ofChange fnExactCompareDyadicSpec)

/-- ITS FALSE NEIGHBOUR: 'it returns false'. Refute it at one input. -/
def fnExactCompareDyadicWrong : ChangeSpec := { name := "fnExactCompareDyadic", fn := fun _ => fun
  | [d1, d2] => { results := [.lit (.bool false)], args := [d1, d2] }
  | _ => none }
def FnExactCompareDyadicWrongFalsely : Prop := fnExactCompareDyadicRow.holds Try.pinned (OpenSpec.ofChange fnExactCompareDyadicWrong)

/-- 'laws.FnExactAddDyadic': WHATEVER THE INPUT: true; the input reads as it did. -/
def fnExactAddDyadicSpec : ChangeSpec := { name := "fnExactAddDyadic", fn := fun _ => fun
  | [d1, d2] => { results := [.lit (.bool true)], args := [d1, d2] }
  | _ => none }
def fnExactAddDyadicRow : OpenClaim := { program := "ytbfabnpcahinfaa", sum := "457e8c3d8b512df1dd285f9d7f93c71999522564f0e32a2908101f8895d1e9a3", func := "loop.example/g00868/laws.FnExactAddDyadic", spec := "fnExactAddDyadic", apart := false }
def FnExactAddDyadicSaid : Prop := fnExactAddDyadicRow.holds Try.pinned (OpenSpec.ofChange fnExactAddDyadicSpec)

/-- ITS FALSE NEIGHBOUR: 'it returns false'. Refute it at one input. -/
def fnExactAddDyadicWrong : ChangeSpec := { name := "fnExactAddDyadic", fn := fun _ => fun
  | [d1, d2] => { results := [.lit (.bool false)], args := [d1, d2] }
  | _ => none }
def FnExactAddDyadicWrongFalsely : Prop := fnExactAddDyadicRow.holds Try.pinned (OpenSpec.ofChange fnExactAddDyadicWrong)

/-- 'laws.FnExactSimplestBetween': WHATEVER THE INPUT: true; the input reads as it did. -/
def fnExactSimplestBetweenSpec : ChangeSpec := { name := "fnExactSimplestBetween", fn := fun _ => fun
  | [d1, d2] => { results := [.lit (.bool true)], args := [d1, d2] }
  | _ => none }
def fnExactSimplestBetweenRow : OpenClaim := { program := "ytbfabnpcahinfaa", sum := "457e8c3d8b512df1dd285f9d7f93c71999522564f0e32a2908101f8895d1e9a3", func := "loop.example/g00868/laws.FnExactSimplestBetween", spec := "fnExactSimplestBetween", recurses := true, apart := false }
def FnExactSimplestBetweenSaid : Prop := fnExactSimplestBetweenRow.holds Try.pinned (OpenSpec.ofChange fnExactSimplestBetweenSpec)

/-- ITS FALSE NEIGHBOUR: 'it returns false'. Refute it at one input. -/
def fnExactSimplestBetweenWrong : ChangeSpec := { name := "fnExactSimplestBetween", fn := fun _ => fun
  | [d1, d2] => { results := [.lit (.bool false)], args := [d1, d2] }
  | _ => none }
def FnExactSimplestBetweenWrongFalsely : Prop := fnExactSimplestBetweenRow.holds Try.pinned (OpenSpec.ofChange fnExactSimplestBetweenWrong)

/-- 'laws.FnExactGoodWall': WHATEVER THE INPUT: true; the input reads as it did. -/
def fnExactGoodWallSpec : ChangeSpec := { name := "fnExactGoodWall", fn := fun _ => fun
  | [d] => { results := [.lit (.bool true)], args := [d] }
  | _ => none }
def fnExactGoodWallRow : OpenClaim := { program := "ytbfabnpcahinfaa", sum := "457e8c3d8b512df1dd285f9d7f93c71999522564f0e32a2908101f8895d1e9a3", func := "loop.example/g00868/laws.FnExactGoodWall", spec := "fnExactGoodWall", apart := false }
def FnExactGoodWallSaid : Prop := fnExactGoodWallRow.holds Try.pinned (OpenSpec.ofChange fnExactGoodWallSpec)

/-- ITS FALSE NEIGHBOUR: 'it returns false'. Refute it at one input. -/
def fnExactGoodWallWrong : ChangeSpec := { name := "fnExactGoodWall", fn := fun _ => fun
  | [d] => { results := [.lit (.bool false)], args := [d] }
  | _ => none }
def FnExactGoodWallWrongFalsely : Prop := fnExactGoodWallRow.holds Try.pinned (OpenSpec.ofChange fnExactGoodWallWrong)

/-- 'laws.FnDyadic': WHATEVER THE INPUT: true; the input reads as it did. -/
def fnDyadicSpec : ChangeSpec := { name := "fnDyadic", fn := fun _ => fun
  | [d] => { results := [.lit (.bool true)], args := [d] }
  | _ => none }
def fnDyadicRow : OpenClaim := { program := "ytbfabnpcahinfaa", sum := "457e8c3d8b512df1dd285f9d7f93c71999522564f0e32a2908101f8895d1e9a3", func := "loop.example/g00868/laws.FnDyadic", spec := "fnDyadic", apart := false }
def FnDyadicSaid : Prop := fnDyadicRow.holds Try.pinned (OpenSpec.ofChange fnDyadicSpec)

/-- ITS FALSE NEIGHBOUR: 'it returns false'. Refute it at one input. -/
def fnDyadicWrong : ChangeSpec := { name := "fnDyadic", fn := fun _ => fun
  | [d] => { results := [.lit (.bool false)], args := [d] }
  | _ => none }
def FnDyadicWrongFalsely : Prop := fnDyadicRow.holds Try.pinned (OpenSpec.ofChange fnDyadicWrong)

/-- 'laws.FnBetween': WHATEVER THE INPUT: true; the input reads as it did. -/
def fnBetweenSpec : ChangeSpec := { name := "fnBetween", fn := fun _ => fun
  | [d] => { results := [.lit (.bool true)], args := [d] }
  | _ => none }
def fnBetweenRow : OpenClaim := { program := "ytbfabnpcahinfaa", sum := "457e8c3d8b512df1dd285f9d7f93c71999522564f0e32a2908101f8895d1e9a3", func := "loop.example/g00868/laws.FnBetween", spec := "fnBetween", recurses := true, apart := false }
def FnBetweenSaid : Prop := fnBetweenRow.holds Try.pinned (OpenSpec.ofChange fnBetweenSpec)

/-- ITS FALSE NEIGHBOUR: 'it returns false'. Refute it at one input. -/
def fnBetweenWrong : ChangeSpec := { name := "fnBetween", fn := fun _ => fun
  | [d] => { results := [.lit (.bool false)], args := [d] }
  | _ => none }
def FnBetweenWrongFalsely : Prop := fnBetweenRow.holds Try.pinned (OpenSpec.ofChange fnBetweenWrong)

/- THE SECOND FORM. 'bulk': how many values and letters a reading holds, each counted each time it is reached (what is shared counts as often as it is met; a slice's spare places count too). A statement '..UptoSaid' is the law's where the arguments, and the package variables that the reading takes, are together of bulk at most 1048576: NARROWER than '..Said'. Prove '..Said' where nothing that the law and all that it calls make is longer than what came in: it says more and counts as full. Else prove '..UptoSaid'. A law counts once. -/
mutual
def uptoBulk {H : Type} : DataW H → Nat
  | .lit (.string bytes) => bytes.length + 1
  | .lit _ => 1
  | .nil => 1
  | .ptr d => uptoBulk d + 1
  | .slice elems spare => uptoBulkAll elems + uptoBulkAll spare + 1
  | .agg parts => uptoBulkAll parts + 1
  | .iface _ d => uptoBulk d + 1
  | .map entries => uptoBulkEntries entries + 1
  | .held _ => 1
def uptoBulkAll {H : Type} : List (DataW H) → Nat
  | [] => 0
  | d :: r => uptoBulk d + uptoBulkAll r
def uptoBulkEntries {H : Type} : List (Lit × DataW H) → Nat
  | [] => 0
  | x :: r => uptoBulkEntry x + uptoBulkEntries r
def uptoBulkEntry {H : Type} : Lit × DataW H → Nat
  | (.string bytes, d) => bytes.length + uptoBulk d + 1
  | (_, d) => uptoBulk d + 1
 end
def uptoSmall : (H : Type) → List (DataW H) → Bool := fun _ ds => decide (uptoBulkAll ds ≤ 1048576)
def OpenSpec.upto (s : _root_.Go.ChangeSpec) : _root_.Go.OpenSpec := { _root_.Go.OpenSpec.ofChange s with cond := some uptoSmall }

/-- 'laws.FnExactConstants', WHERE WHAT IT READS IS OF BULK AT MOST 1048576: true; the input reads as it did. -/
def fnExactConstantsUptoRow : OpenClaim := { program := "ytbfabnpcahinfaa", sum := "457e8c3d8b512df1dd285f9d7f93c71999522564f0e32a2908101f8895d1e9a3", func := "loop.example/g00868/laws.FnExactConstants", spec := "fnExactConstants", apart := false, narrowed := true }
def FnExactConstantsUptoSaid : Prop := fnExactConstantsUptoRow.holds Try.pinned (OpenSpec.upto fnExactConstantsSpec)

/-- 'laws.FnExactGoodDyadic', WHERE WHAT IT READS IS OF BULK AT MOST 1048576: true; the input reads as it did. -/
def fnExactGoodDyadicUptoRow : OpenClaim := { program := "ytbfabnpcahinfaa", sum := "457e8c3d8b512df1dd285f9d7f93c71999522564f0e32a2908101f8895d1e9a3", func := "loop.example/g00868/laws.FnExactGoodDyadic", spec := "fnExactGoodDyadic", apart := false, narrowed := true }
def FnExactGoodDyadicUptoSaid : Prop := fnExactGoodDyadicUptoRow.holds Try.pinned (OpenSpec.upto fnExactGoodDyadicSpec)

/-- 'laws.FnExactNegDyadic', WHERE WHAT IT READS IS OF BULK AT MOST 1048576: true; the input reads as it did. -/
def fnExactNegDyadicUptoRow : OpenClaim := { program := "ytbfabnpcahinfaa", sum := "457e8c3d8b512df1dd285f9d7f93c71999522564f0e32a2908101f8895d1e9a3", func := "loop.example/g00868/laws.FnExactNegDyadic", spec := "fnExactNegDyadic", apart := false, narrowed := true }
def FnExactNegDyadicUptoSaid : Prop := fnExactNegDyadicUptoRow.holds Try.pinned (OpenSpec.upto fnExactNegDyadicSpec)

/-- 'laws.FnExactBornOfDyadic', WHERE WHAT IT READS IS OF BULK AT MOST 1048576: true; the input reads as it did. -/
def fnExactBornOfDyadicUptoRow : OpenClaim := { program := "ytbfabnpcahinfaa", sum := "457e8c3d8b512df1dd285f9d7f93c71999522564f0e32a2908101f8895d1e9a3", func := "loop.example/g00868/laws.FnExactBornOfDyadic", spec := "fnExactBornOfDyadic", apart := false, narrowed := true }
def FnExactBornOfDyadicUptoSaid : Prop := fnExactBornOfDyadicUptoRow.holds Try.pinned (OpenSpec.upto fnExactBornOfDyadicSpec)

/-- 'laws.FnExactMakeDyadic', WHERE WHAT IT READS IS OF BULK AT MOST 1048576: true; the input reads as it did. -/
def fnExactMakeDyadicUptoRow : OpenClaim := { program := "ytbfabnpcahinfaa", sum := "457e8c3d8b512df1dd285f9d7f93c71999522564f0e32a2908101f8895d1e9a3", func := "loop.example/g00868/laws.FnExactMakeDyadic", spec := "fnExactMakeDyadic", apart := false, narrowed := true }
def FnExactMakeDyadicUptoSaid : Prop := fnExactMakeDyadicUptoRow.holds Try.pinned (OpenSpec.upto fnExactMakeDyadicSpec)

/-- 'laws.FnExactHalfOf', WHERE WHAT IT READS IS OF BULK AT MOST 1048576: true; the input reads as it did. -/
def fnExactHalfOfUptoRow : OpenClaim := { program := "ytbfabnpcahinfaa", sum := "457e8c3d8b512df1dd285f9d7f93c71999522564f0e32a2908101f8895d1e9a3", func := "loop.example/g00868/laws.FnExactHalfOf", spec := "fnExactHalfOf", apart := false, narrowed := true }
def FnExactHalfOfUptoSaid : Prop := fnExactHalfOfUptoRow.holds Try.pinned (OpenSpec.upto fnExactHalfOfSpec)

/-- 'laws.FnExactCompareDyadic', WHERE WHAT IT READS IS OF BULK AT MOST 1048576: true; the input reads as it did. -/
def fnExactCompareDyadicUptoRow : OpenClaim := { program := "ytbfabnpcahinfaa", sum := "457e8c3d8b512df1dd285f9d7f93c71999522564f0e32a2908101f8895d1e9a3", func := "loop.example/g00868/laws.FnExactCompareDyadic", spec := "fnExactCompareDyadic", apart := false, narrowed := true }
def FnExactCompareDyadicUptoSaid : Prop := fnExactCompareDyadicUptoRow.holds Try.pinned (OpenSpec.upto fnExactCompareDyadicSpec)

/-- 'laws.FnExactAddDyadic', WHERE WHAT IT READS IS OF BULK AT MOST 1048576: true; the input reads as it did. -/
def fnExactAddDyadicUptoRow : OpenClaim := { program := "ytbfabnpcahinfaa", sum := "457e8c3d8b512df1dd285f9d7f93c71999522564f0e32a2908101f8895d1e9a3", func := "loop.example/g00868/laws.FnExactAddDyadic", spec := "fnExactAddDyadic", apart := false, narrowed := true }
def FnExactAddDyadicUptoSaid : Prop := fnExactAddDyadicUptoRow.holds Try.pinned (OpenSpec.upto fnExactAddDyadicSpec)

/-- 'laws.FnExactSimplestBetween', WHERE WHAT IT READS IS OF BULK AT MOST 1048576: true; the input reads as it did. -/
def fnExactSimplestBetweenUptoRow : OpenClaim := { program := "ytbfabnpcahinfaa", sum := "457e8c3d8b512df1dd285f9d7f93c71999522564f0e32a2908101f8895d1e9a3", func := "loop.example/g00868/laws.FnExactSimplestBetween", spec := "fnExactSimplestBetween", recurses := true, apart := false, narrowed := true }
def FnExactSimplestBetweenUptoSaid : Prop := fnExactSimplestBetweenUptoRow.holds Try.pinned (OpenSpec.upto fnExactSimplestBetweenSpec)

/-- 'laws.FnExactGoodWall', WHERE WHAT IT READS IS OF BULK AT MOST 1048576: true; the input reads as it did. -/
def fnExactGoodWallUptoRow : OpenClaim := { program := "ytbfabnpcahinfaa", sum := "457e8c3d8b512df1dd285f9d7f93c71999522564f0e32a2908101f8895d1e9a3", func := "loop.example/g00868/laws.FnExactGoodWall", spec := "fnExactGoodWall", apart := false, narrowed := true }
def FnExactGoodWallUptoSaid : Prop := fnExactGoodWallUptoRow.holds Try.pinned (OpenSpec.upto fnExactGoodWallSpec)

/-- 'laws.FnDyadic', WHERE WHAT IT READS IS OF BULK AT MOST 1048576: true; the input reads as it did. -/
def fnDyadicUptoRow : OpenClaim := { program := "ytbfabnpcahinfaa", sum := "457e8c3d8b512df1dd285f9d7f93c71999522564f0e32a2908101f8895d1e9a3", func := "loop.example/g00868/laws.FnDyadic", spec := "fnDyadic", apart := false, narrowed := true }
def FnDyadicUptoSaid : Prop := fnDyadicUptoRow.holds Try.pinned (OpenSpec.upto fnDyadicSpec)

/-- 'laws.FnBetween', WHERE WHAT IT READS IS OF BULK AT MOST 1048576: true; the input reads as it did. -/
def fnBetweenUptoRow : OpenClaim := { program := "ytbfabnpcahinfaa", sum := "457e8c3d8b512df1dd285f9d7f93c71999522564f0e32a2908101f8895d1e9a3", func := "loop.example/g00868/laws.FnBetween", spec := "fnBetween", recurses := true, apart := false, narrowed := true }
def FnBetweenUptoSaid : Prop := fnBetweenUptoRow.holds Try.pinned (OpenSpec.upto fnBetweenSpec)

end Rows
end Go.Proofs.Ytbfabnpcahinfaa
