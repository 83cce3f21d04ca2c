/-
  DERIVED. GIVEN WITH THE SEED: THE CARDS: each row of YtkkfoonaobehaaaDoorRows.lean that lists a variable, with what it lists TIED to the program's text (the seventh form; the later family's looks); each row that meets fmt, with fmt's text TOLD by the authors' own Lean function (tested against real Go, not proved from fmt's source: count such statements apart). THE CARD IS WHAT COUNTS. Prove the row's statement (the work); the ties are given (YtkkfoonaobehaaaDoorTie.lean); close each card by the builder's one call (the guide's Derived/Test/ToyasCard.lean, 'card_holds'). Laid BY PROGRAM, IN A SANDBOX (cutbox-door.mjs). By AI agents, Wed Nov 11 2026. No macro, syntax, notation, axiom, sorry.
-/
import Derived.Test.YtkkfoonaobehaaaDoorRows
import GoSem.ClaimSeven
namespace Go.Proofs.YtkkfoonaobehaaaDoor
namespace Rows

/-- THE TIED CARD OF 'sosoptlaw15.GraphMake'. -/
def graphMakeCard : Claim7 := { stood := { row := graphMakeRow, standIns := [], harness := (true, "cc3a3fb198ec1436e9f41b21b555bdb3b2c9a859b817144385ba624bfc62df27"), looks := false }, kinds := [], alts := [], laidByText := true, laidKinds := [.data], laidTests := true, laidLooks := .later }
def GraphMakeCardSaid : Prop := Claim7.holds Tryd.pinned (.plain (OpenSpec.ofChange graphMakeSpec)) graphMakeCard

/-- THE TIED CARD OF 'sosoptlaw15.GraphCliques'. -/
def graphCliquesCard : Claim7 := { stood := { row := graphCliquesRow, standIns := [], harness := (true, "cc3a3fb198ec1436e9f41b21b555bdb3b2c9a859b817144385ba624bfc62df27"), looks := false }, kinds := [], alts := [], laidByText := true, laidKinds := [.data], laidTests := true, laidLooks := .later }
def GraphCliquesCardSaid : Prop := Claim7.holds Tryd.pinned (.plain (OpenSpec.ofChange graphCliquesSpec)) graphCliquesCard

/-- THE TIED CARD OF 'sosoptlaw15.GraphTree'. -/
def graphTreeCard : Claim7 := { stood := { row := graphTreeRow, standIns := [], harness := (true, "cc3a3fb198ec1436e9f41b21b555bdb3b2c9a859b817144385ba624bfc62df27"), looks := false }, kinds := [], alts := [], laidByText := true, laidKinds := [.data], laidTests := true, laidLooks := .later }
def GraphTreeCardSaid : Prop := Claim7.holds Tryd.pinned (.plain (OpenSpec.ofChange graphTreeSpec)) graphTreeCard

/-- THE TIED CARD OF 'sosoptlaw15.GraphIntersection'. -/
def graphIntersectionCard : Claim7 := { stood := { row := graphIntersectionRow, standIns := [], harness := (true, "cc3a3fb198ec1436e9f41b21b555bdb3b2c9a859b817144385ba624bfc62df27"), looks := false }, kinds := [], alts := [], laidByText := true, laidKinds := [.data], laidTests := true, laidLooks := .later }
def GraphIntersectionCardSaid : Prop := Claim7.holds Tryd.pinned (.plain (OpenSpec.ofChange graphIntersectionSpec)) graphIntersectionCard

/-- THE TIED CARD OF 'sosoptlaw15.GraphMaximal'. -/
def graphMaximalCard : Claim7 := { stood := { row := graphMaximalRow, standIns := [], harness := (true, "cc3a3fb198ec1436e9f41b21b555bdb3b2c9a859b817144385ba624bfc62df27"), looks := false }, kinds := [], alts := [], laidByText := true, laidKinds := [.data], laidTests := true, laidLooks := .later }
def GraphMaximalCardSaid : Prop := Claim7.holds Tryd.pinned (.plain (OpenSpec.ofChange graphMaximalSpec)) graphMaximalCard

/-- THE TIED CARD OF 'sosoptlaw15.GraphExtension'. -/
def graphExtensionCard : Claim7 := { stood := { row := graphExtensionRow, standIns := [], harness := (true, "cc3a3fb198ec1436e9f41b21b555bdb3b2c9a859b817144385ba624bfc62df27"), looks := false }, kinds := [], alts := [], laidByText := true, laidKinds := [.data], laidTests := true, laidLooks := .later }
def GraphExtensionCardSaid : Prop := Claim7.holds Tryd.pinned (.plain (OpenSpec.ofChange graphExtensionSpec)) graphExtensionCard

/-- THE TIED CARD OF 'sosoptlaw15.GraphComponents'. -/
def graphComponentsCard : Claim7 := { stood := { row := graphComponentsRow, standIns := [], harness := (true, "cc3a3fb198ec1436e9f41b21b555bdb3b2c9a859b817144385ba624bfc62df27"), looks := false }, kinds := [], alts := [], laidByText := true, laidKinds := [.data], laidTests := true, laidLooks := .later }
def GraphComponentsCardSaid : Prop := Claim7.holds Tryd.pinned (.plain (OpenSpec.ofChange graphComponentsSpec)) graphComponentsCard

/-- THE TIED CARD OF 'sosoptlaw15.GraphSearch'. -/
def graphSearchCard : Claim7 := { stood := { row := graphSearchRow, standIns := [], harness := (true, "cc3a3fb198ec1436e9f41b21b555bdb3b2c9a859b817144385ba624bfc62df27"), looks := false }, kinds := [], alts := [], laidByText := true, laidKinds := [.data], laidTests := true, laidLooks := .later }
def GraphSearchCardSaid : Prop := Claim7.holds Tryd.pinned (.plain (OpenSpec.ofChange graphSearchSpec)) graphSearchCard

/-- THE TIED CARD OF 'sosoptlaw15.GraphRaw'. -/
def graphRawCard : Claim7 := { stood := { row := graphRawRow, standIns := [], harness := (true, "cc3a3fb198ec1436e9f41b21b555bdb3b2c9a859b817144385ba624bfc62df27"), looks := false }, kinds := [], alts := [], laidByText := true, laidKinds := [.data], laidTests := true, laidLooks := .later }
def GraphRawCardSaid : Prop := Claim7.holds Tryd.pinned (.plain (OpenSpec.ofChange graphRawSpec)) graphRawCard

/-- THE SECOND FORM's CARD OF 'sosoptlaw15.GraphMake'. -/
def graphMakeUptoCard : Claim7 := { stood := { row := graphMakeUptoRow, standIns := [], harness := (true, "cc3a3fb198ec1436e9f41b21b555bdb3b2c9a859b817144385ba624bfc62df27"), looks := false }, kinds := [], alts := [], laidByText := true, laidKinds := [.data], laidTests := true, laidLooks := .later }
def GraphMakeUptoCardSaid : Prop := Claim7.holds Tryd.pinned (.plain (OpenSpec.upto graphMakeSpec)) graphMakeUptoCard

/-- THE SECOND FORM's CARD OF 'sosoptlaw15.GraphCliques'. -/
def graphCliquesUptoCard : Claim7 := { stood := { row := graphCliquesUptoRow, standIns := [], harness := (true, "cc3a3fb198ec1436e9f41b21b555bdb3b2c9a859b817144385ba624bfc62df27"), looks := false }, kinds := [], alts := [], laidByText := true, laidKinds := [.data], laidTests := true, laidLooks := .later }
def GraphCliquesUptoCardSaid : Prop := Claim7.holds Tryd.pinned (.plain (OpenSpec.upto graphCliquesSpec)) graphCliquesUptoCard

/-- THE SECOND FORM's CARD OF 'sosoptlaw15.GraphTree'. -/
def graphTreeUptoCard : Claim7 := { stood := { row := graphTreeUptoRow, standIns := [], harness := (true, "cc3a3fb198ec1436e9f41b21b555bdb3b2c9a859b817144385ba624bfc62df27"), looks := false }, kinds := [], alts := [], laidByText := true, laidKinds := [.data], laidTests := true, laidLooks := .later }
def GraphTreeUptoCardSaid : Prop := Claim7.holds Tryd.pinned (.plain (OpenSpec.upto graphTreeSpec)) graphTreeUptoCard

/-- THE SECOND FORM's CARD OF 'sosoptlaw15.GraphIntersection'. -/
def graphIntersectionUptoCard : Claim7 := { stood := { row := graphIntersectionUptoRow, standIns := [], harness := (true, "cc3a3fb198ec1436e9f41b21b555bdb3b2c9a859b817144385ba624bfc62df27"), looks := false }, kinds := [], alts := [], laidByText := true, laidKinds := [.data], laidTests := true, laidLooks := .later }
def GraphIntersectionUptoCardSaid : Prop := Claim7.holds Tryd.pinned (.plain (OpenSpec.upto graphIntersectionSpec)) graphIntersectionUptoCard

/-- THE SECOND FORM's CARD OF 'sosoptlaw15.GraphMaximal'. -/
def graphMaximalUptoCard : Claim7 := { stood := { row := graphMaximalUptoRow, standIns := [], harness := (true, "cc3a3fb198ec1436e9f41b21b555bdb3b2c9a859b817144385ba624bfc62df27"), looks := false }, kinds := [], alts := [], laidByText := true, laidKinds := [.data], laidTests := true, laidLooks := .later }
def GraphMaximalUptoCardSaid : Prop := Claim7.holds Tryd.pinned (.plain (OpenSpec.upto graphMaximalSpec)) graphMaximalUptoCard

/-- THE SECOND FORM's CARD OF 'sosoptlaw15.GraphExtension'. -/
def graphExtensionUptoCard : Claim7 := { stood := { row := graphExtensionUptoRow, standIns := [], harness := (true, "cc3a3fb198ec1436e9f41b21b555bdb3b2c9a859b817144385ba624bfc62df27"), looks := false }, kinds := [], alts := [], laidByText := true, laidKinds := [.data], laidTests := true, laidLooks := .later }
def GraphExtensionUptoCardSaid : Prop := Claim7.holds Tryd.pinned (.plain (OpenSpec.upto graphExtensionSpec)) graphExtensionUptoCard

/-- THE SECOND FORM's CARD OF 'sosoptlaw15.GraphComponents'. -/
def graphComponentsUptoCard : Claim7 := { stood := { row := graphComponentsUptoRow, standIns := [], harness := (true, "cc3a3fb198ec1436e9f41b21b555bdb3b2c9a859b817144385ba624bfc62df27"), looks := false }, kinds := [], alts := [], laidByText := true, laidKinds := [.data], laidTests := true, laidLooks := .later }
def GraphComponentsUptoCardSaid : Prop := Claim7.holds Tryd.pinned (.plain (OpenSpec.upto graphComponentsSpec)) graphComponentsUptoCard

/-- THE SECOND FORM's CARD OF 'sosoptlaw15.GraphSearch'. -/
def graphSearchUptoCard : Claim7 := { stood := { row := graphSearchUptoRow, standIns := [], harness := (true, "cc3a3fb198ec1436e9f41b21b555bdb3b2c9a859b817144385ba624bfc62df27"), looks := false }, kinds := [], alts := [], laidByText := true, laidKinds := [.data], laidTests := true, laidLooks := .later }
def GraphSearchUptoCardSaid : Prop := Claim7.holds Tryd.pinned (.plain (OpenSpec.upto graphSearchSpec)) graphSearchUptoCard

/-- THE SECOND FORM's CARD OF 'sosoptlaw15.GraphRaw'. -/
def graphRawUptoCard : Claim7 := { stood := { row := graphRawUptoRow, standIns := [], harness := (true, "cc3a3fb198ec1436e9f41b21b555bdb3b2c9a859b817144385ba624bfc62df27"), looks := false }, kinds := [], alts := [], laidByText := true, laidKinds := [.data], laidTests := true, laidLooks := .later }
def GraphRawUptoCardSaid : Prop := Claim7.holds Tryd.pinned (.plain (OpenSpec.upto graphRawSpec)) graphRawUptoCard
end Rows
end Go.Proofs.YtkkfoonaobehaaaDoor
