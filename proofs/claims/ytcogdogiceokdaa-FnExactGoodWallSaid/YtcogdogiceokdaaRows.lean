/-
  No cell of these rows narrows 'for every input' (looked for: loops, veiled, ifaces, maps, wideKeys, modest, calm, conditions, laid).
  DERIVED. THE GIVEN ROWS OF THIS SEAT. 3 by the template 'for every input the law returns true; each argument reads behind the call as it read before'; 0 by the template 'total and deterministic' (their statements: YtcogdogiceokdaaTotals.lean).
  GIVEN WITH THE SEED: the statements are not yours to turn. If you find one false, say at which input.
  Laid BY PROGRAM, IN A SANDBOX (cutbox-rows.mjs): the forced cells as the released guide's own fill.sh prints them over the translation fce4c3f4822d6171… (all of the seat's roots in one cut). By AI agents, Wed Nov 11 2026. No macro, syntax, notation, axiom, sorry.
-/
import Derived.Test.YtcogdogiceokdaaChecked
import GoSem.Claim
import GoSem.ClaimJoined
import GoSem.ClaimMapViews
import Derived.JoinedTies
import Derived.KernelRfl
namespace Go.Proofs.Ytcogdogiceokdaa
/- THE CELL 'sum', in the pinned program and in every row, IS THE sha256 OF THE DUMP (.gsa) THAT YtcogdogiceokdaaProg.lean LOADS. Nothing in Lean hashes anything: it is a label: what it is worth is what the hold of that sum in a sandbox is worth. -/
noncomputable def Try.pinned : Pinned := { name := "ytcogdogiceokdaa", sum := "fce4c3f4822d6171f263110e0a34392a4fee97d9652e665edfc75421eb877999", checked := Try.checked }
namespace Rows
def none {H : Type} : Left H := { results := [], args := [] }

/-- 'laws.FnExactGoodWall': WHATEVER THE INPUT: true; the input reads as it did. -/
def fnExactGoodWallSpec : ChangeSpec := { name := "fnExactGoodWall", fn := fun _ => fun
  | [d] => { results := [.lit (.bool true)], args := [d] }
  | _ => none }
def fnExactGoodWallRow : OpenClaim := { program := "ytcogdogiceokdaa", sum := "fce4c3f4822d6171f263110e0a34392a4fee97d9652e665edfc75421eb877999", func := "loop.example/g00868/laws.FnExactGoodWall", spec := "fnExactGoodWall", apart := false }
def FnExactGoodWallSaid : Prop := fnExactGoodWallRow.holds Try.pinned (OpenSpec.ofChange fnExactGoodWallSpec)

/-- ITS FALSE NEIGHBOUR: 'it returns false'. Refute it at one input. -/
def fnExactGoodWallWrong : ChangeSpec := { name := "fnExactGoodWall", fn := fun _ => fun
  | [d] => { results := [.lit (.bool false)], args := [d] }
  | _ => none }
def FnExactGoodWallWrongFalsely : Prop := fnExactGoodWallRow.holds Try.pinned (OpenSpec.ofChange fnExactGoodWallWrong)

/-- 'laws.FnExactSameForm': WHATEVER THE INPUT: true; the input reads as it did. -/
def fnExactSameFormSpec : ChangeSpec := { name := "fnExactSameForm", fn := fun _ => fun
  | [d1, d2] => { results := [.lit (.bool true)], args := [d1, d2] }
  | _ => none }
def fnExactSameFormRow : OpenClaim := { program := "ytcogdogiceokdaa", sum := "fce4c3f4822d6171f263110e0a34392a4fee97d9652e665edfc75421eb877999", func := "loop.example/g00868/laws.FnExactSameForm", spec := "fnExactSameForm", unfollowed := true, recurses := true, apart := false }
def FnExactSameFormSaid : Prop := fnExactSameFormRow.holds Try.pinned (OpenSpec.ofChange fnExactSameFormSpec)

/-- ITS FALSE NEIGHBOUR: 'it returns false'. Refute it at one input. -/
def fnExactSameFormWrong : ChangeSpec := { name := "fnExactSameForm", fn := fun _ => fun
  | [d1, d2] => { results := [.lit (.bool false)], args := [d1, d2] }
  | _ => none }
def FnExactSameFormWrongFalsely : Prop := fnExactSameFormRow.holds Try.pinned (OpenSpec.ofChange fnExactSameFormWrong)

/-- 'laws.FnExactUsesOf': WHATEVER THE INPUT: true; the input reads as it did. -/
def fnExactUsesOfSpec : ChangeSpec := { name := "fnExactUsesOf", fn := fun _ => fun
  | [d] => { results := [.lit (.bool true)], args := [d] }
  | _ => none }
def fnExactUsesOfRow : OpenClaim := { program := "ytcogdogiceokdaa", sum := "fce4c3f4822d6171f263110e0a34392a4fee97d9652e665edfc75421eb877999", func := "loop.example/g00868/laws.FnExactUsesOf", spec := "fnExactUsesOf", apart := false }
def FnExactUsesOfSaid : Prop := fnExactUsesOfRow.holds Try.pinned (OpenSpec.ofChange fnExactUsesOfSpec)

/-- ITS FALSE NEIGHBOUR: 'it returns false'. Refute it at one input. -/
def fnExactUsesOfWrong : ChangeSpec := { name := "fnExactUsesOf", fn := fun _ => fun
  | [d] => { results := [.lit (.bool false)], args := [d] }
  | _ => none }
def FnExactUsesOfWrongFalsely : Prop := fnExactUsesOfRow.holds Try.pinned (OpenSpec.ofChange fnExactUsesOfWrong)

/- THE SECOND FORM. 'bulk': how many values and letters a reading holds, each counted each time it is reached (what is shared counts as often as it is met; a slice's spare places count too). A statement '..UptoSaid' is the law's where the arguments, and the package variables that the reading takes, are together of bulk at most 1048576: NARROWER than '..Said'. Prove '..Said' where nothing that the law and all that it calls make is longer than what came in: it says more and counts as full. Else prove '..UptoSaid'. A law counts once. -/
mutual
def uptoBulk {H : Type} : DataW H → Nat
  | .lit (.string bytes) => bytes.length + 1
  | .lit _ => 1
  | .nil => 1
  | .ptr d => uptoBulk d + 1
  | .slice elems spare => uptoBulkAll elems + uptoBulkAll spare + 1
  | .agg parts => uptoBulkAll parts + 1
  | .iface _ d => uptoBulk d + 1
  | .map entries => uptoBulkEntries entries + 1
  | .held _ => 1
def uptoBulkAll {H : Type} : List (DataW H) → Nat
  | [] => 0
  | d :: r => uptoBulk d + uptoBulkAll r
def uptoBulkEntries {H : Type} : List (Lit × DataW H) → Nat
  | [] => 0
  | x :: r => uptoBulkEntry x + uptoBulkEntries r
def uptoBulkEntry {H : Type} : Lit × DataW H → Nat
  | (.string bytes, d) => bytes.length + uptoBulk d + 1
  | (_, d) => uptoBulk d + 1
 end
def uptoSmall : (H : Type) → List (DataW H) → Bool := fun _ ds => decide (uptoBulkAll ds ≤ 1048576)
def OpenSpec.upto (s : _root_.Go.ChangeSpec) : _root_.Go.OpenSpec := { _root_.Go.OpenSpec.ofChange s with cond := some uptoSmall }

/-- 'laws.FnExactGoodWall', WHERE WHAT IT READS IS OF BULK AT MOST 1048576: true; the input reads as it did. -/
def fnExactGoodWallUptoRow : OpenClaim := { program := "ytcogdogiceokdaa", sum := "fce4c3f4822d6171f263110e0a34392a4fee97d9652e665edfc75421eb877999", func := "loop.example/g00868/laws.FnExactGoodWall", spec := "fnExactGoodWall", apart := false, narrowed := true }
def FnExactGoodWallUptoSaid : Prop := fnExactGoodWallUptoRow.holds Try.pinned (OpenSpec.upto fnExactGoodWallSpec)

/-- 'laws.FnExactSameForm', WHERE WHAT IT READS IS OF BULK AT MOST 1048576: true; the input reads as it did. -/
def fnExactSameFormUptoRow : OpenClaim := { program := "ytcogdogiceokdaa", sum := "fce4c3f4822d6171f263110e0a34392a4fee97d9652e665edfc75421eb877999", func := "loop.example/g00868/laws.FnExactSameForm", spec := "fnExactSameForm", unfollowed := true, recurses := true, apart := false, narrowed := true }
def FnExactSameFormUptoSaid : Prop := fnExactSameFormUptoRow.holds Try.pinned (OpenSpec.upto fnExactSameFormSpec)

/-- 'laws.FnExactUsesOf', WHERE WHAT IT READS IS OF BULK AT MOST 1048576: true; the input reads as it did. -/
def fnExactUsesOfUptoRow : OpenClaim := { program := "ytcogdogiceokdaa", sum := "fce4c3f4822d6171f263110e0a34392a4fee97d9652e665edfc75421eb877999", func := "loop.example/g00868/laws.FnExactUsesOf", spec := "fnExactUsesOf", apart := false, narrowed := true }
def FnExactUsesOfUptoSaid : Prop := fnExactUsesOfUptoRow.holds Try.pinned (OpenSpec.upto fnExactUsesOfSpec)

end Rows
end Go.Proofs.Ytcogdogiceokdaa
