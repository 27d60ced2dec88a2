/-
  DERIVED. GIVEN WITH THE SEED: THE CARDS: each row of YtppaplgeecojgaaDoorRows.lean that lists a variable, with what it lists TIED to the program's text (the seventh form; the later family's looks); each row that meets fmt, with fmt's text TOLD by the authors' own Lean function (tested against real Go, not proved from fmt's source: count such statements apart). THE CARD IS WHAT COUNTS. Prove the row's statement (the work); the ties are given (YtppaplgeecojgaaDoorTie.lean); close each card by the builder's one call (the guide's Derived/Test/ToyasCard.lean, 'card_holds'). Laid BY PROGRAM, IN A SANDBOX (cutbox-door.mjs). By AI agents, Wed Nov 11 2026. No macro, syntax, notation, axiom, sorry.
-/
import Derived.Test.YtppaplgeecojgaaDoorRows
import GoSem.ClaimSeven
namespace Go.Proofs.YtppaplgeecojgaaDoor
namespace Rows

/-- THE TIED CARD OF 'laws.FnExactNumText'. -/
def fnExactNumTextCard : Claim7 := { stood := { row := fnExactNumTextRow, standIns := [], harness := (true, "441af09ad3e43a278850a0a8294a7b8b7ecca09ae4770fa8a19abebae54f0cc9"), looks := true }, kinds := [], alts := [], laidByText := true, laidKinds := [.data, .data, .data], laidTests := true, laidLooks := .later }
def FnExactNumTextCardSaid : Prop := Claim7.holds Tryd.pinned (.plain (OpenSpec.ofChange fnExactNumTextSpec)) fnExactNumTextCard

/-- THE TIED CARD OF 'laws.FnExactSealText'. -/
def fnExactSealTextCard : Claim7 := { stood := { row := fnExactSealTextRow, standIns := [], harness := (true, "441af09ad3e43a278850a0a8294a7b8b7ecca09ae4770fa8a19abebae54f0cc9"), looks := true }, kinds := [], alts := [], laidByText := true, laidKinds := [.data, .data, .data], laidTests := true, laidLooks := .later }
def FnExactSealTextCardSaid : Prop := Claim7.holds Tryd.pinned (.plain (OpenSpec.ofChange fnExactSealTextSpec)) fnExactSealTextCard

/-- THE TIED CARD OF 'laws.FnExactOpenText'. -/
def fnExactOpenTextCard : Claim7 := { stood := { row := fnExactOpenTextRow, standIns := [], harness := (true, "441af09ad3e43a278850a0a8294a7b8b7ecca09ae4770fa8a19abebae54f0cc9"), looks := true }, kinds := [], alts := [], laidByText := true, laidKinds := [.data, .data, .data], laidTests := true, laidLooks := .later }
def FnExactOpenTextCardSaid : Prop := Claim7.holds Tryd.pinned (.plain (OpenSpec.ofChange fnExactOpenTextSpec)) fnExactOpenTextCard

/-- THE TIED CARD OF 'laws.FnExactReadNum'. -/
def fnExactReadNumCard : Claim7 := { stood := { row := fnExactReadNumRow, standIns := [], harness := (true, "441af09ad3e43a278850a0a8294a7b8b7ecca09ae4770fa8a19abebae54f0cc9"), looks := true }, kinds := [], alts := [], laidByText := true, laidKinds := [.data, .data, .data, .sentinel, .sentinel], laidTests := true, laidLooks := .later }
def FnExactReadNumCardSaid : Prop := Claim7.holds Tryd.pinned (.plain (OpenSpec.ofChange fnExactReadNumSpec)) fnExactReadNumCard

/-- THE TIED CARD OF 'laws.FnTexts'. -/
def fnTextsCard : Claim7 := { stood := { row := fnTextsRow, standIns := [], harness := (true, "441af09ad3e43a278850a0a8294a7b8b7ecca09ae4770fa8a19abebae54f0cc9"), looks := true }, kinds := [], alts := [], laidByText := true, laidKinds := [.data, .data, .data, .sentinel, .sentinel], laidTests := true, laidLooks := .later }
def FnTextsCardSaid : Prop := Claim7.holds Tryd.pinned (.plain (OpenSpec.ofChange fnTextsSpec)) fnTextsCard

/-- THE TIED CARD OF 'laws.FnExactDyadicText'. -/
def fnExactDyadicTextCard : Claim7 := { stood := { row := fnExactDyadicTextRow, standIns := [], harness := (true, "441af09ad3e43a278850a0a8294a7b8b7ecca09ae4770fa8a19abebae54f0cc9"), looks := true }, kinds := [], alts := [], laidByText := true, laidKinds := [.data, .data, .data], laidTests := true, laidLooks := .later }
def FnExactDyadicTextCardSaid : Prop := Claim7.holds Tryd.pinned (.plain (OpenSpec.ofChange fnExactDyadicTextSpec)) fnExactDyadicTextCard

/-- THE TIED CARD OF 'laws.FnExactReadDyadic'. -/
def fnExactReadDyadicCard : Claim7 := { stood := { row := fnExactReadDyadicRow, standIns := [], harness := (true, "441af09ad3e43a278850a0a8294a7b8b7ecca09ae4770fa8a19abebae54f0cc9"), looks := true }, kinds := [], alts := [], laidByText := true, laidKinds := [.data, .data, .data, .sentinel, .sentinel], laidTests := true, laidLooks := .later }
def FnExactReadDyadicCardSaid : Prop := Claim7.holds Tryd.pinned (.plain (OpenSpec.ofChange fnExactReadDyadicSpec)) fnExactReadDyadicCard

/-- THE SECOND FORM's CARD OF 'laws.FnExactNumText'. -/
def fnExactNumTextUptoCard : Claim7 := { stood := { row := fnExactNumTextUptoRow, standIns := [], harness := (true, "441af09ad3e43a278850a0a8294a7b8b7ecca09ae4770fa8a19abebae54f0cc9"), looks := true }, kinds := [], alts := [], laidByText := true, laidKinds := [.data, .data, .data], laidTests := true, laidLooks := .later }
def FnExactNumTextUptoCardSaid : Prop := Claim7.holds Tryd.pinned (.plain (OpenSpec.upto fnExactNumTextSpec)) fnExactNumTextUptoCard

/-- THE SECOND FORM's CARD OF 'laws.FnExactSealText'. -/
def fnExactSealTextUptoCard : Claim7 := { stood := { row := fnExactSealTextUptoRow, standIns := [], harness := (true, "441af09ad3e43a278850a0a8294a7b8b7ecca09ae4770fa8a19abebae54f0cc9"), looks := true }, kinds := [], alts := [], laidByText := true, laidKinds := [.data, .data, .data], laidTests := true, laidLooks := .later }
def FnExactSealTextUptoCardSaid : Prop := Claim7.holds Tryd.pinned (.plain (OpenSpec.upto fnExactSealTextSpec)) fnExactSealTextUptoCard

/-- THE SECOND FORM's CARD OF 'laws.FnExactOpenText'. -/
def fnExactOpenTextUptoCard : Claim7 := { stood := { row := fnExactOpenTextUptoRow, standIns := [], harness := (true, "441af09ad3e43a278850a0a8294a7b8b7ecca09ae4770fa8a19abebae54f0cc9"), looks := true }, kinds := [], alts := [], laidByText := true, laidKinds := [.data, .data, .data], laidTests := true, laidLooks := .later }
def FnExactOpenTextUptoCardSaid : Prop := Claim7.holds Tryd.pinned (.plain (OpenSpec.upto fnExactOpenTextSpec)) fnExactOpenTextUptoCard

/-- THE SECOND FORM's CARD OF 'laws.FnExactReadNum'. -/
def fnExactReadNumUptoCard : Claim7 := { stood := { row := fnExactReadNumUptoRow, standIns := [], harness := (true, "441af09ad3e43a278850a0a8294a7b8b7ecca09ae4770fa8a19abebae54f0cc9"), looks := true }, kinds := [], alts := [], laidByText := true, laidKinds := [.data, .data, .data, .sentinel, .sentinel], laidTests := true, laidLooks := .later }
def FnExactReadNumUptoCardSaid : Prop := Claim7.holds Tryd.pinned (.plain (OpenSpec.upto fnExactReadNumSpec)) fnExactReadNumUptoCard

/-- THE SECOND FORM's CARD OF 'laws.FnTexts'. -/
def fnTextsUptoCard : Claim7 := { stood := { row := fnTextsUptoRow, standIns := [], harness := (true, "441af09ad3e43a278850a0a8294a7b8b7ecca09ae4770fa8a19abebae54f0cc9"), looks := true }, kinds := [], alts := [], laidByText := true, laidKinds := [.data, .data, .data, .sentinel, .sentinel], laidTests := true, laidLooks := .later }
def FnTextsUptoCardSaid : Prop := Claim7.holds Tryd.pinned (.plain (OpenSpec.upto fnTextsSpec)) fnTextsUptoCard

/-- THE SECOND FORM's CARD OF 'laws.FnExactDyadicText'. -/
def fnExactDyadicTextUptoCard : Claim7 := { stood := { row := fnExactDyadicTextUptoRow, standIns := [], harness := (true, "441af09ad3e43a278850a0a8294a7b8b7ecca09ae4770fa8a19abebae54f0cc9"), looks := true }, kinds := [], alts := [], laidByText := true, laidKinds := [.data, .data, .data], laidTests := true, laidLooks := .later }
def FnExactDyadicTextUptoCardSaid : Prop := Claim7.holds Tryd.pinned (.plain (OpenSpec.upto fnExactDyadicTextSpec)) fnExactDyadicTextUptoCard

/-- THE SECOND FORM's CARD OF 'laws.FnExactReadDyadic'. -/
def fnExactReadDyadicUptoCard : Claim7 := { stood := { row := fnExactReadDyadicUptoRow, standIns := [], harness := (true, "441af09ad3e43a278850a0a8294a7b8b7ecca09ae4770fa8a19abebae54f0cc9"), looks := true }, kinds := [], alts := [], laidByText := true, laidKinds := [.data, .data, .data, .sentinel, .sentinel], laidTests := true, laidLooks := .later }
def FnExactReadDyadicUptoCardSaid : Prop := Claim7.holds Tryd.pinned (.plain (OpenSpec.upto fnExactReadDyadicSpec)) fnExactReadDyadicUptoCard
end Rows
end Go.Proofs.YtppaplgeecojgaaDoor
