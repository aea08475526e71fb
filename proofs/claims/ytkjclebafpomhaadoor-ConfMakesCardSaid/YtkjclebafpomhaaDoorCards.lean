/-
  DERIVED. GIVEN WITH THE SEED: THE CARDS: each row of YtkjclebafpomhaaDoorRows.lean that lists a variable, with what it lists TIED to the program's text (the seventh form; the later family's looks); each row that meets fmt, with fmt's text TOLD by the authors' own Lean function (tested against real Go, not proved from fmt's source: count such statements apart). THE CARD IS WHAT COUNTS. Prove the row's statement (the work); the ties are given (YtkjclebafpomhaaDoorTie.lean); close each card by the builder's one call (the guide's Derived/Test/ToyasCard.lean, 'card_holds'). Laid BY PROGRAM, IN A SANDBOX (cutbox-door.mjs). By AI agents, Wed Nov 11 2026. No macro, syntax, notation, axiom, sorry.
-/
import Derived.Test.YtkjclebafpomhaaDoorRows
import GoSem.ClaimSeven
namespace Go.Proofs.YtkjclebafpomhaaDoor
namespace Rows

/-- THE TIED CARD OF 'garrisonlaw02.ConfGroups'. -/
def confGroupsCard : Claim7 := { stood := { row := confGroupsRow, standIns := [], harness := (true, "7cb9bff39fc85f8d2f8eddde256edae2bc074f0ec2e24843cdc1db2c8b011578"), looks := false }, kinds := [], alts := [], laidByText := true, laidKinds := [.data, .pinned], laidTests := true, laidLooks := .later }
def ConfGroupsCardSaid : Prop := Claim7.holds Tryd.pinned (.plain (OpenSpec.ofChange confGroupsSpec)) confGroupsCard

/-- THE TIED CARD OF 'garrisonlaw02.ConfMakes'. -/
def confMakesCard : Claim7 := { stood := { row := confMakesRow, standIns := [], harness := (true, "7cb9bff39fc85f8d2f8eddde256edae2bc074f0ec2e24843cdc1db2c8b011578"), looks := false }, kinds := [], alts := [], laidByText := true, laidKinds := [.data, .pinned], laidTests := true, laidLooks := .later }
def ConfMakesCardSaid : Prop := Claim7.holds Tryd.pinned (.plain (OpenSpec.ofChange confMakesSpec)) confMakesCard

/-- THE TIED CARD OF 'garrisonlaw02.ConfParses'. -/
def confParsesCard : Claim7 := { stood := { row := confParsesRow, standIns := [], harness := (true, "7cb9bff39fc85f8d2f8eddde256edae2bc074f0ec2e24843cdc1db2c8b011578"), looks := false }, kinds := [], alts := [], laidByText := true, laidKinds := [.data, .pinned], laidTests := true, laidLooks := .later }
def ConfParsesCardSaid : Prop := Claim7.holds Tryd.pinned (.plain (OpenSpec.ofChange confParsesSpec)) confParsesCard

/-- THE TIED CARD OF 'garrisonlaw02.ConfBack'. -/
def confBackCard : Claim7 := { stood := { row := confBackRow, standIns := [], harness := (true, "7cb9bff39fc85f8d2f8eddde256edae2bc074f0ec2e24843cdc1db2c8b011578"), looks := false }, kinds := [], alts := [], laidByText := true, laidKinds := [.data, .data, .pinned], laidTests := true, laidLooks := .later }
def ConfBackCardSaid : Prop := Claim7.holds Tryd.pinned (.plain (OpenSpec.ofChange confBackSpec)) confBackCard

/-- THE TIED CARD OF 'garrisonlaw17.AsmTexts'. -/
def asmTextsCard : Claim7 := { stood := { row := asmTextsRow, standIns := [], harness := (true, "7cb9bff39fc85f8d2f8eddde256edae2bc074f0ec2e24843cdc1db2c8b011578"), looks := false }, kinds := [], alts := [], laidByText := true, laidKinds := [.data, .pinned], laidTests := true, laidLooks := .later }
def AsmTextsCardSaid : Prop := Claim7.holds Tryd.pinned (.plain (OpenSpec.ofChange asmTextsSpec)) asmTextsCard

/-- THE TIED CARD OF 'garrisonlaw17.AsmLong'. -/
def asmLongCard : Claim7 := { stood := { row := asmLongRow, standIns := [], harness := (true, "7cb9bff39fc85f8d2f8eddde256edae2bc074f0ec2e24843cdc1db2c8b011578"), looks := false }, kinds := [], alts := [], laidByText := true, laidKinds := [.data, .pinned], laidTests := true, laidLooks := .later }
def AsmLongCardSaid : Prop := Claim7.holds Tryd.pinned (.plain (OpenSpec.ofChange asmLongSpec)) asmLongCard

/-- THE TIED CARD OF 'garrisonlaw17.AsmJumps'. -/
def asmJumpsCard : Claim7 := { stood := { row := asmJumpsRow, standIns := [], harness := (true, "7cb9bff39fc85f8d2f8eddde256edae2bc074f0ec2e24843cdc1db2c8b011578"), looks := false }, kinds := [], alts := [], laidByText := true, laidKinds := [.data, .pinned], laidTests := true, laidLooks := .later }
def AsmJumpsCardSaid : Prop := Claim7.holds Tryd.pinned (.plain (OpenSpec.ofChange asmJumpsSpec)) asmJumpsCard

/-- THE TIED CARD OF 'garrisonlaw17.AsmLines'. -/
def asmLinesCard : Claim7 := { stood := { row := asmLinesRow, standIns := [], harness := (true, "7cb9bff39fc85f8d2f8eddde256edae2bc074f0ec2e24843cdc1db2c8b011578"), looks := false }, kinds := [], alts := [], laidByText := true, laidKinds := [.data, .pinned], laidTests := true, laidLooks := .later }
def AsmLinesCardSaid : Prop := Claim7.holds Tryd.pinned (.plain (OpenSpec.ofChange asmLinesSpec)) asmLinesCard

/-- THE TIED CARD OF 'garrisonlaw17.AsmBack'. -/
def asmBackCard : Claim7 := { stood := { row := asmBackRow, standIns := [], harness := (true, "7cb9bff39fc85f8d2f8eddde256edae2bc074f0ec2e24843cdc1db2c8b011578"), looks := false }, kinds := [], alts := [], laidByText := true, laidKinds := [.data, .pinned], laidTests := true, laidLooks := .later }
def AsmBackCardSaid : Prop := Claim7.holds Tryd.pinned (.plain (OpenSpec.ofChange asmBackSpec)) asmBackCard

/-- THE SECOND FORM's CARD OF 'garrisonlaw02.ConfGroups'. -/
def confGroupsUptoCard : Claim7 := { stood := { row := confGroupsUptoRow, standIns := [], harness := (true, "7cb9bff39fc85f8d2f8eddde256edae2bc074f0ec2e24843cdc1db2c8b011578"), looks := false }, kinds := [], alts := [], laidByText := true, laidKinds := [.data, .pinned], laidTests := true, laidLooks := .later }
def ConfGroupsUptoCardSaid : Prop := Claim7.holds Tryd.pinned (.plain (OpenSpec.upto confGroupsSpec)) confGroupsUptoCard

/-- THE SECOND FORM's CARD OF 'garrisonlaw02.ConfMakes'. -/
def confMakesUptoCard : Claim7 := { stood := { row := confMakesUptoRow, standIns := [], harness := (true, "7cb9bff39fc85f8d2f8eddde256edae2bc074f0ec2e24843cdc1db2c8b011578"), looks := false }, kinds := [], alts := [], laidByText := true, laidKinds := [.data, .pinned], laidTests := true, laidLooks := .later }
def ConfMakesUptoCardSaid : Prop := Claim7.holds Tryd.pinned (.plain (OpenSpec.upto confMakesSpec)) confMakesUptoCard

/-- THE SECOND FORM's CARD OF 'garrisonlaw02.ConfParses'. -/
def confParsesUptoCard : Claim7 := { stood := { row := confParsesUptoRow, standIns := [], harness := (true, "7cb9bff39fc85f8d2f8eddde256edae2bc074f0ec2e24843cdc1db2c8b011578"), looks := false }, kinds := [], alts := [], laidByText := true, laidKinds := [.data, .pinned], laidTests := true, laidLooks := .later }
def ConfParsesUptoCardSaid : Prop := Claim7.holds Tryd.pinned (.plain (OpenSpec.upto confParsesSpec)) confParsesUptoCard

/-- THE SECOND FORM's CARD OF 'garrisonlaw02.ConfBack'. -/
def confBackUptoCard : Claim7 := { stood := { row := confBackUptoRow, standIns := [], harness := (true, "7cb9bff39fc85f8d2f8eddde256edae2bc074f0ec2e24843cdc1db2c8b011578"), looks := false }, kinds := [], alts := [], laidByText := true, laidKinds := [.data, .data, .pinned], laidTests := true, laidLooks := .later }
def ConfBackUptoCardSaid : Prop := Claim7.holds Tryd.pinned (.plain (OpenSpec.upto confBackSpec)) confBackUptoCard

/-- THE SECOND FORM's CARD OF 'garrisonlaw17.AsmTexts'. -/
def asmTextsUptoCard : Claim7 := { stood := { row := asmTextsUptoRow, standIns := [], harness := (true, "7cb9bff39fc85f8d2f8eddde256edae2bc074f0ec2e24843cdc1db2c8b011578"), looks := false }, kinds := [], alts := [], laidByText := true, laidKinds := [.data, .pinned], laidTests := true, laidLooks := .later }
def AsmTextsUptoCardSaid : Prop := Claim7.holds Tryd.pinned (.plain (OpenSpec.upto asmTextsSpec)) asmTextsUptoCard

/-- THE SECOND FORM's CARD OF 'garrisonlaw17.AsmLong'. -/
def asmLongUptoCard : Claim7 := { stood := { row := asmLongUptoRow, standIns := [], harness := (true, "7cb9bff39fc85f8d2f8eddde256edae2bc074f0ec2e24843cdc1db2c8b011578"), looks := false }, kinds := [], alts := [], laidByText := true, laidKinds := [.data, .pinned], laidTests := true, laidLooks := .later }
def AsmLongUptoCardSaid : Prop := Claim7.holds Tryd.pinned (.plain (OpenSpec.upto asmLongSpec)) asmLongUptoCard

/-- THE SECOND FORM's CARD OF 'garrisonlaw17.AsmJumps'. -/
def asmJumpsUptoCard : Claim7 := { stood := { row := asmJumpsUptoRow, standIns := [], harness := (true, "7cb9bff39fc85f8d2f8eddde256edae2bc074f0ec2e24843cdc1db2c8b011578"), looks := false }, kinds := [], alts := [], laidByText := true, laidKinds := [.data, .pinned], laidTests := true, laidLooks := .later }
def AsmJumpsUptoCardSaid : Prop := Claim7.holds Tryd.pinned (.plain (OpenSpec.upto asmJumpsSpec)) asmJumpsUptoCard

/-- THE SECOND FORM's CARD OF 'garrisonlaw17.AsmLines'. -/
def asmLinesUptoCard : Claim7 := { stood := { row := asmLinesUptoRow, standIns := [], harness := (true, "7cb9bff39fc85f8d2f8eddde256edae2bc074f0ec2e24843cdc1db2c8b011578"), looks := false }, kinds := [], alts := [], laidByText := true, laidKinds := [.data, .pinned], laidTests := true, laidLooks := .later }
def AsmLinesUptoCardSaid : Prop := Claim7.holds Tryd.pinned (.plain (OpenSpec.upto asmLinesSpec)) asmLinesUptoCard

/-- THE SECOND FORM's CARD OF 'garrisonlaw17.AsmBack'. -/
def asmBackUptoCard : Claim7 := { stood := { row := asmBackUptoRow, standIns := [], harness := (true, "7cb9bff39fc85f8d2f8eddde256edae2bc074f0ec2e24843cdc1db2c8b011578"), looks := false }, kinds := [], alts := [], laidByText := true, laidKinds := [.data, .pinned], laidTests := true, laidLooks := .later }
def AsmBackUptoCardSaid : Prop := Claim7.holds Tryd.pinned (.plain (OpenSpec.upto asmBackSpec)) asmBackUptoCard
end Rows
end Go.Proofs.YtkjclebafpomhaaDoor
