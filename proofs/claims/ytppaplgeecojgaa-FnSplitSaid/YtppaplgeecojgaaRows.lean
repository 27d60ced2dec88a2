/-
  No cell of these rows narrows 'for every input' (looked for: loops, veiled, ifaces, maps, wideKeys, modest, calm, conditions, laid).
  DERIVED. THE GIVEN ROWS OF THIS SEAT. 5 by the template 'for every input the law returns true; each argument reads behind the call as it read before'; 0 by the template 'total and deterministic' (their statements: YtppaplgeecojgaaTotals.lean).
  GIVEN WITH THE SEED: the statements are not yours to turn. If you find one false, say at which input.
  Laid BY PROGRAM, IN A SANDBOX (cutbox-rows.mjs): the forced cells as the released guide's own fill.sh prints them over the translation 313a6ef7ef7fa68d… (all of the seat's roots in one cut). By AI agents, Wed Nov 11 2026. No macro, syntax, notation, axiom, sorry.
-/
import Derived.Test.YtppaplgeecojgaaChecked
import GoSem.Claim
import GoSem.ClaimJoined
import GoSem.ClaimMapViews
import Derived.JoinedTies
import Derived.KernelRfl
namespace Go.Proofs.Ytppaplgeecojgaa
/- THE CELL 'sum', in the pinned program and in every row, IS THE sha256 OF THE DUMP (.gsa) THAT YtppaplgeecojgaaProg.lean LOADS. Nothing in Lean hashes anything: it is a label: what it is worth is what the hold of that sum in a sandbox is worth. -/
noncomputable def Try.pinned : Pinned := { name := "ytppaplgeecojgaa", sum := "313a6ef7ef7fa68ded7b51ce46b60a5956d14f687d7c762abfea9efd319ba83c", checked := Try.checked }
namespace Rows
def none {H : Type} : Left H := { results := [], args := [] }

/-- 'laws.FnExactLessText': WHATEVER THE INPUT: true; the input reads as it did. -/
def fnExactLessTextSpec : ChangeSpec := { name := "fnExactLessText", fn := fun _ => fun
  | [d1, d2] => { results := [.lit (.bool true)], args := [d1, d2] }
  | _ => none }
def fnExactLessTextRow : OpenClaim := { program := "ytppaplgeecojgaa", sum := "313a6ef7ef7fa68ded7b51ce46b60a5956d14f687d7c762abfea9efd319ba83c", func := "loop.example/g00868/laws.FnExactLessText", spec := "fnExactLessText", apart := false }
def FnExactLessTextSaid : Prop := fnExactLessTextRow.holds Try.pinned (OpenSpec.ofChange fnExactLessTextSpec)

/-- ITS FALSE NEIGHBOUR: 'it returns false'. Refute it at one input. -/
def fnExactLessTextWrong : ChangeSpec := { name := "fnExactLessText", fn := fun _ => fun
  | [d1, d2] => { results := [.lit (.bool false)], args := [d1, d2] }
  | _ => none }
def FnExactLessTextWrongFalsely : Prop := fnExactLessTextRow.holds Try.pinned (OpenSpec.ofChange fnExactLessTextWrong)

/-- 'laws.FnExactSumOf': WHATEVER THE INPUT: true; the input reads as it did. -/
def fnExactSumOfSpec : ChangeSpec := { name := "fnExactSumOf", fn := fun _ => fun
  | [d] => { results := [.lit (.bool true)], args := [d] }
  | _ => none }
def fnExactSumOfRow : OpenClaim := { program := "ytppaplgeecojgaa", sum := "313a6ef7ef7fa68ded7b51ce46b60a5956d14f687d7c762abfea9efd319ba83c", func := "loop.example/g00868/laws.FnExactSumOf", spec := "fnExactSumOf", apart := false }
def FnExactSumOfSaid : Prop := fnExactSumOfRow.holds Try.pinned (OpenSpec.ofChange fnExactSumOfSpec)

/-- ITS FALSE NEIGHBOUR: 'it returns false'. Refute it at one input. -/
def fnExactSumOfWrong : ChangeSpec := { name := "fnExactSumOf", fn := fun _ => fun
  | [d] => { results := [.lit (.bool false)], args := [d] }
  | _ => none }
def FnExactSumOfWrongFalsely : Prop := fnExactSumOfRow.holds Try.pinned (OpenSpec.ofChange fnExactSumOfWrong)

/-- 'laws.FnExactSplitText': WHATEVER THE INPUT: true; the input reads as it did. -/
def fnExactSplitTextSpec : ChangeSpec := { name := "fnExactSplitText", fn := fun _ => fun
  | [d1, d2] => { results := [.lit (.bool true)], args := [d1, d2] }
  | _ => none }
def fnExactSplitTextRow : OpenClaim := { program := "ytppaplgeecojgaa", sum := "313a6ef7ef7fa68ded7b51ce46b60a5956d14f687d7c762abfea9efd319ba83c", func := "loop.example/g00868/laws.FnExactSplitText", spec := "fnExactSplitText", apart := false }
def FnExactSplitTextSaid : Prop := fnExactSplitTextRow.holds Try.pinned (OpenSpec.ofChange fnExactSplitTextSpec)

/-- ITS FALSE NEIGHBOUR: 'it returns false'. Refute it at one input. -/
def fnExactSplitTextWrong : ChangeSpec := { name := "fnExactSplitText", fn := fun _ => fun
  | [d1, d2] => { results := [.lit (.bool false)], args := [d1, d2] }
  | _ => none }
def FnExactSplitTextWrongFalsely : Prop := fnExactSplitTextRow.holds Try.pinned (OpenSpec.ofChange fnExactSplitTextWrong)

/-- 'laws.FnExactJoinTexts': WHATEVER THE INPUT: true; the input reads as it did. -/
def fnExactJoinTextsSpec : ChangeSpec := { name := "fnExactJoinTexts", fn := fun _ => fun
  | [d1, d2] => { results := [.lit (.bool true)], args := [d1, d2] }
  | _ => none }
def fnExactJoinTextsRow : OpenClaim := { program := "ytppaplgeecojgaa", sum := "313a6ef7ef7fa68ded7b51ce46b60a5956d14f687d7c762abfea9efd319ba83c", func := "loop.example/g00868/laws.FnExactJoinTexts", spec := "fnExactJoinTexts", inPlace := ["internal/bytealg.IndexByteString", "internal/abi.NoEscape", "internal/bytealg.MakeNoZero"], apart := false }
def FnExactJoinTextsSaid : Prop := fnExactJoinTextsRow.holds Try.pinned (OpenSpec.ofChange fnExactJoinTextsSpec)

/-- ITS FALSE NEIGHBOUR: 'it returns false'. Refute it at one input. -/
def fnExactJoinTextsWrong : ChangeSpec := { name := "fnExactJoinTexts", fn := fun _ => fun
  | [d1, d2] => { results := [.lit (.bool false)], args := [d1, d2] }
  | _ => none }
def FnExactJoinTextsWrongFalsely : Prop := fnExactJoinTextsRow.holds Try.pinned (OpenSpec.ofChange fnExactJoinTextsWrong)

/-- 'laws.FnSplit': WHATEVER THE INPUT: true; the input reads as it did. -/
def fnSplitSpec : ChangeSpec := { name := "fnSplit", fn := fun _ => fun
  | [d] => { results := [.lit (.bool true)], args := [d] }
  | _ => none }
def fnSplitRow : OpenClaim := { program := "ytppaplgeecojgaa", sum := "313a6ef7ef7fa68ded7b51ce46b60a5956d14f687d7c762abfea9efd319ba83c", func := "loop.example/g00868/laws.FnSplit", spec := "fnSplit", inPlace := ["internal/bytealg.IndexByteString", "internal/abi.NoEscape", "internal/bytealg.MakeNoZero"], apart := false }
def FnSplitSaid : Prop := fnSplitRow.holds Try.pinned (OpenSpec.ofChange fnSplitSpec)

/-- ITS FALSE NEIGHBOUR: 'it returns false'. Refute it at one input. -/
def fnSplitWrong : ChangeSpec := { name := "fnSplit", fn := fun _ => fun
  | [d] => { results := [.lit (.bool false)], args := [d] }
  | _ => none }
def FnSplitWrongFalsely : Prop := fnSplitRow.holds Try.pinned (OpenSpec.ofChange fnSplitWrong)

/- THE SECOND FORM. 'bulk': how many values and letters a reading holds, each counted each time it is reached (what is shared counts as often as it is met; a slice's spare places count too). A statement '..UptoSaid' is the law's where the arguments, and the package variables that the reading takes, are together of bulk at most 1048576: NARROWER than '..Said'. Prove '..Said' where nothing that the law and all that it calls make is longer than what came in: it says more and counts as full. Else prove '..UptoSaid'. A law counts once. -/
mutual
def uptoBulk {H : Type} : DataW H → Nat
  | .lit (.string bytes) => bytes.length + 1
  | .lit _ => 1
  | .nil => 1
  | .ptr d => uptoBulk d + 1
  | .slice elems spare => uptoBulkAll elems + uptoBulkAll spare + 1
  | .agg parts => uptoBulkAll parts + 1
  | .iface _ d => uptoBulk d + 1
  | .map entries => uptoBulkEntries entries + 1
  | .held _ => 1
def uptoBulkAll {H : Type} : List (DataW H) → Nat
  | [] => 0
  | d :: r => uptoBulk d + uptoBulkAll r
def uptoBulkEntries {H : Type} : List (Lit × DataW H) → Nat
  | [] => 0
  | x :: r => uptoBulkEntry x + uptoBulkEntries r
def uptoBulkEntry {H : Type} : Lit × DataW H → Nat
  | (.string bytes, d) => bytes.length + uptoBulk d + 1
  | (_, d) => uptoBulk d + 1
 end
def uptoSmall : (H : Type) → List (DataW H) → Bool := fun _ ds => decide (uptoBulkAll ds ≤ 1048576)
def OpenSpec.upto (s : _root_.Go.ChangeSpec) : _root_.Go.OpenSpec := { _root_.Go.OpenSpec.ofChange s with cond := some uptoSmall }

/-- 'laws.FnExactLessText', WHERE WHAT IT READS IS OF BULK AT MOST 1048576: true; the input reads as it did. -/
def fnExactLessTextUptoRow : OpenClaim := { program := "ytppaplgeecojgaa", sum := "313a6ef7ef7fa68ded7b51ce46b60a5956d14f687d7c762abfea9efd319ba83c", func := "loop.example/g00868/laws.FnExactLessText", spec := "fnExactLessText", apart := false, narrowed := true }
def FnExactLessTextUptoSaid : Prop := fnExactLessTextUptoRow.holds Try.pinned (OpenSpec.upto fnExactLessTextSpec)

/-- 'laws.FnExactSumOf', WHERE WHAT IT READS IS OF BULK AT MOST 1048576: true; the input reads as it did. -/
def fnExactSumOfUptoRow : OpenClaim := { program := "ytppaplgeecojgaa", sum := "313a6ef7ef7fa68ded7b51ce46b60a5956d14f687d7c762abfea9efd319ba83c", func := "loop.example/g00868/laws.FnExactSumOf", spec := "fnExactSumOf", apart := false, narrowed := true }
def FnExactSumOfUptoSaid : Prop := fnExactSumOfUptoRow.holds Try.pinned (OpenSpec.upto fnExactSumOfSpec)

/-- 'laws.FnExactSplitText', WHERE WHAT IT READS IS OF BULK AT MOST 1048576: true; the input reads as it did. -/
def fnExactSplitTextUptoRow : OpenClaim := { program := "ytppaplgeecojgaa", sum := "313a6ef7ef7fa68ded7b51ce46b60a5956d14f687d7c762abfea9efd319ba83c", func := "loop.example/g00868/laws.FnExactSplitText", spec := "fnExactSplitText", apart := false, narrowed := true }
def FnExactSplitTextUptoSaid : Prop := fnExactSplitTextUptoRow.holds Try.pinned (OpenSpec.upto fnExactSplitTextSpec)

/-- 'laws.FnExactJoinTexts', WHERE WHAT IT READS IS OF BULK AT MOST 1048576: true; the input reads as it did. -/
def fnExactJoinTextsUptoRow : OpenClaim := { program := "ytppaplgeecojgaa", sum := "313a6ef7ef7fa68ded7b51ce46b60a5956d14f687d7c762abfea9efd319ba83c", func := "loop.example/g00868/laws.FnExactJoinTexts", spec := "fnExactJoinTexts", inPlace := ["internal/bytealg.IndexByteString", "internal/abi.NoEscape", "internal/bytealg.MakeNoZero"], apart := false, narrowed := true }
def FnExactJoinTextsUptoSaid : Prop := fnExactJoinTextsUptoRow.holds Try.pinned (OpenSpec.upto fnExactJoinTextsSpec)

/-- 'laws.FnSplit', WHERE WHAT IT READS IS OF BULK AT MOST 1048576: true; the input reads as it did. -/
def fnSplitUptoRow : OpenClaim := { program := "ytppaplgeecojgaa", sum := "313a6ef7ef7fa68ded7b51ce46b60a5956d14f687d7c762abfea9efd319ba83c", func := "loop.example/g00868/laws.FnSplit", spec := "fnSplit", inPlace := ["internal/bytealg.IndexByteString", "internal/abi.NoEscape", "internal/bytealg.MakeNoZero"], apart := false, narrowed := true }
def FnSplitUptoSaid : Prop := fnSplitUptoRow.holds Try.pinned (OpenSpec.upto fnSplitSpec)

end Rows
end Go.Proofs.Ytppaplgeecojgaa
