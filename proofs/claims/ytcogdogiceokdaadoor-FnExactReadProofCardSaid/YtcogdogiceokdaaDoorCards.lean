/-
  DERIVED. GIVEN WITH THE SEED: THE CARDS: each row of YtcogdogiceokdaaDoorRows.lean that lists a variable, with what it lists TIED to the program's text (the seventh form; the later family's looks); each row that meets fmt, with fmt's text TOLD by the authors' own Lean function (tested against real Go, not proved from fmt's source: count such statements apart). THE CARD IS WHAT COUNTS. Prove the row's statement (the work); the ties are given (YtcogdogiceokdaaDoorTie.lean); close each card by the builder's one call (the guide's Derived/Test/ToyasCard.lean, 'card_holds'). Laid BY PROGRAM, IN A SANDBOX (cutbox-door.mjs). By AI agents, Wed Nov 11 2026. No macro, syntax, notation, axiom, sorry.
-/
import Derived.Test.YtcogdogiceokdaaDoorRows
import GoSem.ClaimSeven
namespace Go.Proofs.YtcogdogiceokdaaDoor
namespace Rows

/-- THE TIED CARD OF 'laws.FnExactProofText'. -/
def fnExactProofTextCard : Claim7 := { stood := { row := fnExactProofTextRow, standIns := [], harness := (true, "e94d752cfd5bac110448b46d4b4828328255d37e759f2edeaa73872920a563ce"), looks := true }, kinds := [], alts := [], laidByText := true, laidKinds := [.data, .data, .data], laidTests := true, laidLooks := .later }
def FnExactProofTextCardSaid : Prop := Claim7.holds Tryd.pinned (.plain (OpenSpec.ofChange fnExactProofTextSpec)) fnExactProofTextCard

/-- THE TIED CARD OF 'laws.FnExactReadProof'. -/
def fnExactReadProofCard : Claim7 := { stood := { row := fnExactReadProofRow, standIns := [], harness := (true, "e94d752cfd5bac110448b46d4b4828328255d37e759f2edeaa73872920a563ce"), looks := true }, kinds := [], alts := [], laidByText := true, laidKinds := [.data, .data, .data, .data, .sentinel, .sentinel, .pinned], laidTests := true, laidLooks := .later }
def FnExactReadProofCardSaid : Prop := Claim7.holds Tryd.pinned (.plain (OpenSpec.ofChange fnExactReadProofSpec)) fnExactReadProofCard

/-- THE SECOND FORM's CARD OF 'laws.FnExactProofText'. -/
def fnExactProofTextUptoCard : Claim7 := { stood := { row := fnExactProofTextUptoRow, standIns := [], harness := (true, "e94d752cfd5bac110448b46d4b4828328255d37e759f2edeaa73872920a563ce"), looks := true }, kinds := [], alts := [], laidByText := true, laidKinds := [.data, .data, .data], laidTests := true, laidLooks := .later }
def FnExactProofTextUptoCardSaid : Prop := Claim7.holds Tryd.pinned (.plain (OpenSpec.upto fnExactProofTextSpec)) fnExactProofTextUptoCard

/-- THE SECOND FORM's CARD OF 'laws.FnExactReadProof'. -/
def fnExactReadProofUptoCard : Claim7 := { stood := { row := fnExactReadProofUptoRow, standIns := [], harness := (true, "e94d752cfd5bac110448b46d4b4828328255d37e759f2edeaa73872920a563ce"), looks := true }, kinds := [], alts := [], laidByText := true, laidKinds := [.data, .data, .data, .data, .sentinel, .sentinel, .pinned], laidTests := true, laidLooks := .later }
def FnExactReadProofUptoCardSaid : Prop := Claim7.holds Tryd.pinned (.plain (OpenSpec.upto fnExactReadProofSpec)) fnExactReadProofUptoCard
end Rows
end Go.Proofs.YtcogdogiceokdaaDoor
