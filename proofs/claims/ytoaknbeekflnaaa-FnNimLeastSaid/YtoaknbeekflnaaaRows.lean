/-
  No cell of these rows narrows 'for every input' (looked for: loops, veiled, ifaces, maps, wideKeys, modest, calm, conditions, laid).
  DERIVED. THE GIVEN ROWS OF THIS SEAT. 12 by the template 'for every input the law returns true; each argument reads behind the call as it read before'; 0 by the template 'total and deterministic' (their statements: YtoaknbeekflnaaaTotals.lean).
  GIVEN WITH THE SEED: the statements are not yours to turn. If you find one false, say at which input.
  Laid BY PROGRAM, IN A SANDBOX (cutbox-rows.mjs): the forced cells as the released guide's own fill.sh prints them over the translation d7b88b4f79f0e30c… (all of the seat's roots in one cut). By AI agents, Wed Nov 11 2026. No macro, syntax, notation, axiom, sorry.
-/
import Derived.Test.YtoaknbeekflnaaaChecked
import GoSem.Claim
import GoSem.ClaimJoined
import GoSem.ClaimMapViews
import Derived.JoinedTies
import Derived.KernelRfl
namespace Go.Proofs.Ytoaknbeekflnaaa
/- THE CELL 'sum', in the pinned program and in every row, IS THE sha256 OF THE DUMP (.gsa) THAT YtoaknbeekflnaaaProg.lean LOADS. Nothing in Lean hashes anything: it is a label: what it is worth is what the hold of that sum in a sandbox is worth. -/
noncomputable def Try.pinned : Pinned := { name := "ytoaknbeekflnaaa", sum := "d7b88b4f79f0e30c39f323b4b92d705f70ec4bc30f5621831c938651245dc277", checked := Try.checked }
namespace Rows
def none {H : Type} : Left H := { results := [], args := [] }

/-- 'laws.FnExactNimSum': WHATEVER THE INPUT: true; the input reads as it did. -/
def fnExactNimSumSpec : ChangeSpec := { name := "fnExactNimSum", fn := fun _ => fun
  | [d1, d2] => { results := [.lit (.bool true)], args := [d1, d2] }
  | _ => none }
def fnExactNimSumRow : OpenClaim := { program := "ytoaknbeekflnaaa", sum := "d7b88b4f79f0e30c39f323b4b92d705f70ec4bc30f5621831c938651245dc277", func := "loop.example/g00868/laws.FnExactNimSum", spec := "fnExactNimSum", apart := false }
def FnExactNimSumSaid : Prop := fnExactNimSumRow.holds Try.pinned (OpenSpec.ofChange fnExactNimSumSpec)

/-- ITS FALSE NEIGHBOUR: 'it returns false'. Refute it at one input. -/
def fnExactNimSumWrong : ChangeSpec := { name := "fnExactNimSum", fn := fun _ => fun
  | [d1, d2] => { results := [.lit (.bool false)], args := [d1, d2] }
  | _ => none }
def FnExactNimSumWrongFalsely : Prop := fnExactNimSumRow.holds Try.pinned (OpenSpec.ofChange fnExactNimSumWrong)

/-- 'laws.FnExactNimProduct': WHATEVER THE INPUT: true; the input reads as it did. -/
def fnExactNimProductSpec : ChangeSpec := { name := "fnExactNimProduct", fn := fun _ => fun
  | [d1, d2] => { results := [.lit (.bool true)], args := [d1, d2] }
  | _ => none }
def fnExactNimProductRow : OpenClaim := { program := "ytoaknbeekflnaaa", sum := "d7b88b4f79f0e30c39f323b4b92d705f70ec4bc30f5621831c938651245dc277", func := "loop.example/g00868/laws.FnExactNimProduct", spec := "fnExactNimProduct", recurses := true, apart := false }
def FnExactNimProductSaid : Prop := fnExactNimProductRow.holds Try.pinned (OpenSpec.ofChange fnExactNimProductSpec)

/-- ITS FALSE NEIGHBOUR: 'it returns false'. Refute it at one input. -/
def fnExactNimProductWrong : ChangeSpec := { name := "fnExactNimProduct", fn := fun _ => fun
  | [d1, d2] => { results := [.lit (.bool false)], args := [d1, d2] }
  | _ => none }
def FnExactNimProductWrongFalsely : Prop := fnExactNimProductRow.holds Try.pinned (OpenSpec.ofChange fnExactNimProductWrong)

/-- 'laws.FnExactNimPower': WHATEVER THE INPUT: true; the input reads as it did. -/
def fnExactNimPowerSpec : ChangeSpec := { name := "fnExactNimPower", fn := fun _ => fun
  | [d1, d2] => { results := [.lit (.bool true)], args := [d1, d2] }
  | _ => none }
def fnExactNimPowerRow : OpenClaim := { program := "ytoaknbeekflnaaa", sum := "d7b88b4f79f0e30c39f323b4b92d705f70ec4bc30f5621831c938651245dc277", func := "loop.example/g00868/laws.FnExactNimPower", spec := "fnExactNimPower", recurses := true, apart := false }
def FnExactNimPowerSaid : Prop := fnExactNimPowerRow.holds Try.pinned (OpenSpec.ofChange fnExactNimPowerSpec)

/-- ITS FALSE NEIGHBOUR: 'it returns false'. Refute it at one input. -/
def fnExactNimPowerWrong : ChangeSpec := { name := "fnExactNimPower", fn := fun _ => fun
  | [d1, d2] => { results := [.lit (.bool false)], args := [d1, d2] }
  | _ => none }
def FnExactNimPowerWrongFalsely : Prop := fnExactNimPowerRow.holds Try.pinned (OpenSpec.ofChange fnExactNimPowerWrong)

/-- 'laws.FnExactPilesValue': WHATEVER THE INPUT: true; the input reads as it did. -/
def fnExactPilesValueSpec : ChangeSpec := { name := "fnExactPilesValue", fn := fun _ => fun
  | [d] => { results := [.lit (.bool true)], args := [d] }
  | _ => none }
def fnExactPilesValueRow : OpenClaim := { program := "ytoaknbeekflnaaa", sum := "d7b88b4f79f0e30c39f323b4b92d705f70ec4bc30f5621831c938651245dc277", func := "loop.example/g00868/laws.FnExactPilesValue", spec := "fnExactPilesValue", apart := false }
def FnExactPilesValueSaid : Prop := fnExactPilesValueRow.holds Try.pinned (OpenSpec.ofChange fnExactPilesValueSpec)

/-- ITS FALSE NEIGHBOUR: 'it returns false'. Refute it at one input. -/
def fnExactPilesValueWrong : ChangeSpec := { name := "fnExactPilesValue", fn := fun _ => fun
  | [d] => { results := [.lit (.bool false)], args := [d] }
  | _ => none }
def FnExactPilesValueWrongFalsely : Prop := fnExactPilesValueRow.holds Try.pinned (OpenSpec.ofChange fnExactPilesValueWrong)

/-- 'laws.FnExactNimSolve': WHATEVER THE INPUT: true; the input reads as it did. -/
def fnExactNimSolveSpec : ChangeSpec := { name := "fnExactNimSolve", fn := fun _ => fun
  | [d1, d2] => { results := [.lit (.bool true)], args := [d1, d2] }
  | _ => none }
def fnExactNimSolveRow : OpenClaim := { program := "ytoaknbeekflnaaa", sum := "d7b88b4f79f0e30c39f323b4b92d705f70ec4bc30f5621831c938651245dc277", func := "loop.example/g00868/laws.FnExactNimSolve", spec := "fnExactNimSolve", recurses := true, apart := false }
def FnExactNimSolveSaid : Prop := fnExactNimSolveRow.holds Try.pinned (OpenSpec.ofChange fnExactNimSolveSpec)

/-- ITS FALSE NEIGHBOUR: 'it returns false'. Refute it at one input. -/
def fnExactNimSolveWrong : ChangeSpec := { name := "fnExactNimSolve", fn := fun _ => fun
  | [d1, d2] => { results := [.lit (.bool false)], args := [d1, d2] }
  | _ => none }
def FnExactNimSolveWrongFalsely : Prop := fnExactNimSolveRow.holds Try.pinned (OpenSpec.ofChange fnExactNimSolveWrong)

/-- 'laws.FnExactNimRoot': WHATEVER THE INPUT: true; the input reads as it did. -/
def fnExactNimRootSpec : ChangeSpec := { name := "fnExactNimRoot", fn := fun _ => fun
  | [d] => { results := [.lit (.bool true)], args := [d] }
  | _ => none }
def fnExactNimRootRow : OpenClaim := { program := "ytoaknbeekflnaaa", sum := "d7b88b4f79f0e30c39f323b4b92d705f70ec4bc30f5621831c938651245dc277", func := "loop.example/g00868/laws.FnExactNimRoot", spec := "fnExactNimRoot", recurses := true, apart := false }
def FnExactNimRootSaid : Prop := fnExactNimRootRow.holds Try.pinned (OpenSpec.ofChange fnExactNimRootSpec)

/-- ITS FALSE NEIGHBOUR: 'it returns false'. Refute it at one input. -/
def fnExactNimRootWrong : ChangeSpec := { name := "fnExactNimRoot", fn := fun _ => fun
  | [d] => { results := [.lit (.bool false)], args := [d] }
  | _ => none }
def FnExactNimRootWrongFalsely : Prop := fnExactNimRootRow.holds Try.pinned (OpenSpec.ofChange fnExactNimRootWrong)

/-- 'laws.FnExactNimInverse': WHATEVER THE INPUT: true; the input reads as it did. -/
def fnExactNimInverseSpec : ChangeSpec := { name := "fnExactNimInverse", fn := fun _ => fun
  | [d] => { results := [.lit (.bool true)], args := [d] }
  | _ => none }
def fnExactNimInverseRow : OpenClaim := { program := "ytoaknbeekflnaaa", sum := "d7b88b4f79f0e30c39f323b4b92d705f70ec4bc30f5621831c938651245dc277", func := "loop.example/g00868/laws.FnExactNimInverse", spec := "fnExactNimInverse", recurses := true, apart := false }
def FnExactNimInverseSaid : Prop := fnExactNimInverseRow.holds Try.pinned (OpenSpec.ofChange fnExactNimInverseSpec)

/-- ITS FALSE NEIGHBOUR: 'it returns false'. Refute it at one input. -/
def fnExactNimInverseWrong : ChangeSpec := { name := "fnExactNimInverse", fn := fun _ => fun
  | [d] => { results := [.lit (.bool false)], args := [d] }
  | _ => none }
def FnExactNimInverseWrongFalsely : Prop := fnExactNimInverseRow.holds Try.pinned (OpenSpec.ofChange fnExactNimInverseWrong)

/-- 'laws.FnExactPileMove': WHATEVER THE INPUT: true; the input reads as it did. -/
def fnExactPileMoveSpec : ChangeSpec := { name := "fnExactPileMove", fn := fun _ => fun
  | [d] => { results := [.lit (.bool true)], args := [d] }
  | _ => none }
def fnExactPileMoveRow : OpenClaim := { program := "ytoaknbeekflnaaa", sum := "d7b88b4f79f0e30c39f323b4b92d705f70ec4bc30f5621831c938651245dc277", func := "loop.example/g00868/laws.FnExactPileMove", spec := "fnExactPileMove", apart := false }
def FnExactPileMoveSaid : Prop := fnExactPileMoveRow.holds Try.pinned (OpenSpec.ofChange fnExactPileMoveSpec)

/-- ITS FALSE NEIGHBOUR: 'it returns false'. Refute it at one input. -/
def fnExactPileMoveWrong : ChangeSpec := { name := "fnExactPileMove", fn := fun _ => fun
  | [d] => { results := [.lit (.bool false)], args := [d] }
  | _ => none }
def FnExactPileMoveWrongFalsely : Prop := fnExactPileMoveRow.holds Try.pinned (OpenSpec.ofChange fnExactPileMoveWrong)

/-- 'laws.FnNimRing': WHATEVER THE INPUT: true; the input reads as it did. -/
def fnNimRingSpec : ChangeSpec := { name := "fnNimRing", fn := fun _ => fun
  | [d] => { results := [.lit (.bool true)], args := [d] }
  | _ => none }
def fnNimRingRow : OpenClaim := { program := "ytoaknbeekflnaaa", sum := "d7b88b4f79f0e30c39f323b4b92d705f70ec4bc30f5621831c938651245dc277", func := "loop.example/g00868/laws.FnNimRing", spec := "fnNimRing", recurses := true, apart := false }
def FnNimRingSaid : Prop := fnNimRingRow.holds Try.pinned (OpenSpec.ofChange fnNimRingSpec)

/-- ITS FALSE NEIGHBOUR: 'it returns false'. Refute it at one input. -/
def fnNimRingWrong : ChangeSpec := { name := "fnNimRing", fn := fun _ => fun
  | [d] => { results := [.lit (.bool false)], args := [d] }
  | _ => none }
def FnNimRingWrongFalsely : Prop := fnNimRingRow.holds Try.pinned (OpenSpec.ofChange fnNimRingWrong)

/-- 'laws.FnPiles': WHATEVER THE INPUT: true; the input reads as it did. -/
def fnPilesSpec : ChangeSpec := { name := "fnPiles", fn := fun _ => fun
  | [d] => { results := [.lit (.bool true)], args := [d] }
  | _ => none }
def fnPilesRow : OpenClaim := { program := "ytoaknbeekflnaaa", sum := "d7b88b4f79f0e30c39f323b4b92d705f70ec4bc30f5621831c938651245dc277", func := "loop.example/g00868/laws.FnPiles", spec := "fnPiles", apart := false }
def FnPilesSaid : Prop := fnPilesRow.holds Try.pinned (OpenSpec.ofChange fnPilesSpec)

/-- ITS FALSE NEIGHBOUR: 'it returns false'. Refute it at one input. -/
def fnPilesWrong : ChangeSpec := { name := "fnPiles", fn := fun _ => fun
  | [d] => { results := [.lit (.bool false)], args := [d] }
  | _ => none }
def FnPilesWrongFalsely : Prop := fnPilesRow.holds Try.pinned (OpenSpec.ofChange fnPilesWrong)

/-- 'laws.FnNimLeast': WHATEVER THE INPUT: true; the input reads as it did. -/
def fnNimLeastSpec : ChangeSpec := { name := "fnNimLeast", fn := fun _ => fun
  | [d] => { results := [.lit (.bool true)], args := [d] }
  | _ => none }
def fnNimLeastRow : OpenClaim := { program := "ytoaknbeekflnaaa", sum := "d7b88b4f79f0e30c39f323b4b92d705f70ec4bc30f5621831c938651245dc277", func := "loop.example/g00868/laws.FnNimLeast", spec := "fnNimLeast", recurses := true, apart := false }
def FnNimLeastSaid : Prop := fnNimLeastRow.holds Try.pinned (OpenSpec.ofChange fnNimLeastSpec)

/-- ITS FALSE NEIGHBOUR: 'it returns false'. Refute it at one input. -/
def fnNimLeastWrong : ChangeSpec := { name := "fnNimLeast", fn := fun _ => fun
  | [d] => { results := [.lit (.bool false)], args := [d] }
  | _ => none }
def FnNimLeastWrongFalsely : Prop := fnNimLeastRow.holds Try.pinned (OpenSpec.ofChange fnNimLeastWrong)

/-- 'laws.FnNimField': WHATEVER THE INPUT: true; the input reads as it did. -/
def fnNimFieldSpec : ChangeSpec := { name := "fnNimField", fn := fun _ => fun
  | [d] => { results := [.lit (.bool true)], args := [d] }
  | _ => none }
def fnNimFieldRow : OpenClaim := { program := "ytoaknbeekflnaaa", sum := "d7b88b4f79f0e30c39f323b4b92d705f70ec4bc30f5621831c938651245dc277", func := "loop.example/g00868/laws.FnNimField", spec := "fnNimField", recurses := true, apart := false }
def FnNimFieldSaid : Prop := fnNimFieldRow.holds Try.pinned (OpenSpec.ofChange fnNimFieldSpec)

/-- ITS FALSE NEIGHBOUR: 'it returns false'. Refute it at one input. -/
def fnNimFieldWrong : ChangeSpec := { name := "fnNimField", fn := fun _ => fun
  | [d] => { results := [.lit (.bool false)], args := [d] }
  | _ => none }
def FnNimFieldWrongFalsely : Prop := fnNimFieldRow.holds Try.pinned (OpenSpec.ofChange fnNimFieldWrong)

/- THE SECOND FORM. 'bulk': how many values and letters a reading holds, each counted each time it is reached (what is shared counts as often as it is met; a slice's spare places count too). A statement '..UptoSaid' is the law's where the arguments, and the package variables that the reading takes, are together of bulk at most 1048576: NARROWER than '..Said'. Prove '..Said' where nothing that the law and all that it calls make is longer than what came in: it says more and counts as full. Else prove '..UptoSaid'. A law counts once. -/
mutual
def uptoBulk {H : Type} : DataW H → Nat
  | .lit (.string bytes) => bytes.length + 1
  | .lit _ => 1
  | .nil => 1
  | .ptr d => uptoBulk d + 1
  | .slice elems spare => uptoBulkAll elems + uptoBulkAll spare + 1
  | .agg parts => uptoBulkAll parts + 1
  | .iface _ d => uptoBulk d + 1
  | .map entries => uptoBulkEntries entries + 1
  | .held _ => 1
def uptoBulkAll {H : Type} : List (DataW H) → Nat
  | [] => 0
  | d :: r => uptoBulk d + uptoBulkAll r
def uptoBulkEntries {H : Type} : List (Lit × DataW H) → Nat
  | [] => 0
  | x :: r => uptoBulkEntry x + uptoBulkEntries r
def uptoBulkEntry {H : Type} : Lit × DataW H → Nat
  | (.string bytes, d) => bytes.length + uptoBulk d + 1
  | (_, d) => uptoBulk d + 1
 end
def uptoSmall : (H : Type) → List (DataW H) → Bool := fun _ ds => decide (uptoBulkAll ds ≤ 1048576)
def OpenSpec.upto (s : _root_.Go.ChangeSpec) : _root_.Go.OpenSpec := { _root_.Go.OpenSpec.ofChange s with cond := some uptoSmall }

/-- 'laws.FnExactNimSum', WHERE WHAT IT READS IS OF BULK AT MOST 1048576: true; the input reads as it did. -/
def fnExactNimSumUptoRow : OpenClaim := { program := "ytoaknbeekflnaaa", sum := "d7b88b4f79f0e30c39f323b4b92d705f70ec4bc30f5621831c938651245dc277", func := "loop.example/g00868/laws.FnExactNimSum", spec := "fnExactNimSum", apart := false, narrowed := true }
def FnExactNimSumUptoSaid : Prop := fnExactNimSumUptoRow.holds Try.pinned (OpenSpec.upto fnExactNimSumSpec)

/-- 'laws.FnExactNimProduct', WHERE WHAT IT READS IS OF BULK AT MOST 1048576: true; the input reads as it did. -/
def fnExactNimProductUptoRow : OpenClaim := { program := "ytoaknbeekflnaaa", sum := "d7b88b4f79f0e30c39f323b4b92d705f70ec4bc30f5621831c938651245dc277", func := "loop.example/g00868/laws.FnExactNimProduct", spec := "fnExactNimProduct", recurses := true, apart := false, narrowed := true }
def FnExactNimProductUptoSaid : Prop := fnExactNimProductUptoRow.holds Try.pinned (OpenSpec.upto fnExactNimProductSpec)

/-- 'laws.FnExactNimPower', WHERE WHAT IT READS IS OF BULK AT MOST 1048576: true; the input reads as it did. -/
def fnExactNimPowerUptoRow : OpenClaim := { program := "ytoaknbeekflnaaa", sum := "d7b88b4f79f0e30c39f323b4b92d705f70ec4bc30f5621831c938651245dc277", func := "loop.example/g00868/laws.FnExactNimPower", spec := "fnExactNimPower", recurses := true, apart := false, narrowed := true }
def FnExactNimPowerUptoSaid : Prop := fnExactNimPowerUptoRow.holds Try.pinned (OpenSpec.upto fnExactNimPowerSpec)

/-- 'laws.FnExactPilesValue', WHERE WHAT IT READS IS OF BULK AT MOST 1048576: true; the input reads as it did. -/
def fnExactPilesValueUptoRow : OpenClaim := { program := "ytoaknbeekflnaaa", sum := "d7b88b4f79f0e30c39f323b4b92d705f70ec4bc30f5621831c938651245dc277", func := "loop.example/g00868/laws.FnExactPilesValue", spec := "fnExactPilesValue", apart := false, narrowed := true }
def FnExactPilesValueUptoSaid : Prop := fnExactPilesValueUptoRow.holds Try.pinned (OpenSpec.upto fnExactPilesValueSpec)

/-- 'laws.FnExactNimSolve', WHERE WHAT IT READS IS OF BULK AT MOST 1048576: true; the input reads as it did. -/
def fnExactNimSolveUptoRow : OpenClaim := { program := "ytoaknbeekflnaaa", sum := "d7b88b4f79f0e30c39f323b4b92d705f70ec4bc30f5621831c938651245dc277", func := "loop.example/g00868/laws.FnExactNimSolve", spec := "fnExactNimSolve", recurses := true, apart := false, narrowed := true }
def FnExactNimSolveUptoSaid : Prop := fnExactNimSolveUptoRow.holds Try.pinned (OpenSpec.upto fnExactNimSolveSpec)

/-- 'laws.FnExactNimRoot', WHERE WHAT IT READS IS OF BULK AT MOST 1048576: true; the input reads as it did. -/
def fnExactNimRootUptoRow : OpenClaim := { program := "ytoaknbeekflnaaa", sum := "d7b88b4f79f0e30c39f323b4b92d705f70ec4bc30f5621831c938651245dc277", func := "loop.example/g00868/laws.FnExactNimRoot", spec := "fnExactNimRoot", recurses := true, apart := false, narrowed := true }
def FnExactNimRootUptoSaid : Prop := fnExactNimRootUptoRow.holds Try.pinned (OpenSpec.upto fnExactNimRootSpec)

/-- 'laws.FnExactNimInverse', WHERE WHAT IT READS IS OF BULK AT MOST 1048576: true; the input reads as it did. -/
def fnExactNimInverseUptoRow : OpenClaim := { program := "ytoaknbeekflnaaa", sum := "d7b88b4f79f0e30c39f323b4b92d705f70ec4bc30f5621831c938651245dc277", func := "loop.example/g00868/laws.FnExactNimInverse", spec := "fnExactNimInverse", recurses := true, apart := false, narrowed := true }
def FnExactNimInverseUptoSaid : Prop := fnExactNimInverseUptoRow.holds Try.pinned (OpenSpec.upto fnExactNimInverseSpec)

/-- 'laws.FnExactPileMove', WHERE WHAT IT READS IS OF BULK AT MOST 1048576: true; the input reads as it did. -/
def fnExactPileMoveUptoRow : OpenClaim := { program := "ytoaknbeekflnaaa", sum := "d7b88b4f79f0e30c39f323b4b92d705f70ec4bc30f5621831c938651245dc277", func := "loop.example/g00868/laws.FnExactPileMove", spec := "fnExactPileMove", apart := false, narrowed := true }
def FnExactPileMoveUptoSaid : Prop := fnExactPileMoveUptoRow.holds Try.pinned (OpenSpec.upto fnExactPileMoveSpec)

/-- 'laws.FnNimRing', WHERE WHAT IT READS IS OF BULK AT MOST 1048576: true; the input reads as it did. -/
def fnNimRingUptoRow : OpenClaim := { program := "ytoaknbeekflnaaa", sum := "d7b88b4f79f0e30c39f323b4b92d705f70ec4bc30f5621831c938651245dc277", func := "loop.example/g00868/laws.FnNimRing", spec := "fnNimRing", recurses := true, apart := false, narrowed := true }
def FnNimRingUptoSaid : Prop := fnNimRingUptoRow.holds Try.pinned (OpenSpec.upto fnNimRingSpec)

/-- 'laws.FnPiles', WHERE WHAT IT READS IS OF BULK AT MOST 1048576: true; the input reads as it did. -/
def fnPilesUptoRow : OpenClaim := { program := "ytoaknbeekflnaaa", sum := "d7b88b4f79f0e30c39f323b4b92d705f70ec4bc30f5621831c938651245dc277", func := "loop.example/g00868/laws.FnPiles", spec := "fnPiles", apart := false, narrowed := true }
def FnPilesUptoSaid : Prop := fnPilesUptoRow.holds Try.pinned (OpenSpec.upto fnPilesSpec)

/-- 'laws.FnNimLeast', WHERE WHAT IT READS IS OF BULK AT MOST 1048576: true; the input reads as it did. -/
def fnNimLeastUptoRow : OpenClaim := { program := "ytoaknbeekflnaaa", sum := "d7b88b4f79f0e30c39f323b4b92d705f70ec4bc30f5621831c938651245dc277", func := "loop.example/g00868/laws.FnNimLeast", spec := "fnNimLeast", recurses := true, apart := false, narrowed := true }
def FnNimLeastUptoSaid : Prop := fnNimLeastUptoRow.holds Try.pinned (OpenSpec.upto fnNimLeastSpec)

/-- 'laws.FnNimField', WHERE WHAT IT READS IS OF BULK AT MOST 1048576: true; the input reads as it did. -/
def fnNimFieldUptoRow : OpenClaim := { program := "ytoaknbeekflnaaa", sum := "d7b88b4f79f0e30c39f323b4b92d705f70ec4bc30f5621831c938651245dc277", func := "loop.example/g00868/laws.FnNimField", spec := "fnNimField", recurses := true, apart := false, narrowed := true }
def FnNimFieldUptoSaid : Prop := fnNimFieldUptoRow.holds Try.pinned (OpenSpec.upto fnNimFieldSpec)

end Rows
end Go.Proofs.Ytoaknbeekflnaaa
