/-
  DERIVED. GIVEN WITH THE SEED: THE CARDS: each row of YtohblhfdgoigdaaGreatDoorRows.lean that lists a variable, with what it lists TIED to the program's text (the seventh form; the later family's looks); each row that meets fmt, with fmt's text TOLD by the authors' own Lean function (tested against real Go, not proved from fmt's source: count such statements apart). THE CARD IS WHAT COUNTS. Prove the row's statement (the work); the ties are given (YtohblhfdgoigdaaGreatDoorTie.lean); close each card by the builder's one call (the guide's Derived/Test/ToyasCard.lean, 'card_holds'). Laid BY PROGRAM, IN A SANDBOX (cutbox-door.mjs). By AI agents, Wed Nov 11 2026. No macro, syntax, notation, axiom, sorry.
-/
import Derived.Test.YtohblhfdgoigdaaGreatDoorRows
import GoSem.ClaimSeven
namespace Go.Proofs.YtohblhfdgoigdaaGreatDoor
namespace Rows

/-- THE TIED CARD OF 'hagioscopelaw19.PolicyBack'. -/
def policyBackCard : Claim7 := { stood := { row := policyBackRow, standIns := [], harness := (true, "bdfda22739556cb57a73fd67a17ebee79a853b7ab2e26055a81287c7b7224d7a"), looks := true }, kinds := [], alts := [], laidByText := true, laidKinds := [.data, .data, .data, .data, .sentinel, .sentinel, .widerDeep, .pinned], laidTests := true, laidLooks := .later }
def PolicyBackCardSaid : Prop := Claim7.holds Tryz.pinned (.plain (OpenSpec.ofChange policyBackSpec)) policyBackCard

/-- THE TIED CARD OF 'hagioscopelaw19.PolicyLines'. -/
def policyLinesCard : Claim7 := { stood := { row := policyLinesRow, standIns := [], harness := (true, "bdfda22739556cb57a73fd67a17ebee79a853b7ab2e26055a81287c7b7224d7a"), looks := true }, kinds := [], alts := [], laidByText := true, laidKinds := [.data, .data, .data, .data, .sentinel, .sentinel, .widerDeep, .pinned], laidTests := true, laidLooks := .later }
def PolicyLinesCardSaid : Prop := Claim7.holds Tryz.pinned (.plain (OpenSpec.ofChange policyLinesSpec)) policyLinesCard

/-- THE TIED CARD OF 'hagioscopelaw19.PolicyDefault'. -/
def policyDefaultCard : Claim7 := { stood := { row := policyDefaultRow, standIns := [], harness := (true, "bdfda22739556cb57a73fd67a17ebee79a853b7ab2e26055a81287c7b7224d7a"), looks := true }, kinds := [], alts := [], laidByText := true, laidKinds := [.data, .data, .data, .data, .sentinel, .sentinel, .widerDeep, .pinned], laidTests := true, laidLooks := .later }
def PolicyDefaultCardSaid : Prop := Claim7.holds Tryz.pinned (.plain (OpenSpec.ofChange policyDefaultSpec)) policyDefaultCard

/-- THE TIED CARD OF 'hagioscopelaw19.PolicyJoin'. -/
def policyJoinCard : Claim7 := { stood := { row := policyJoinRow, standIns := [], harness := (true, "bdfda22739556cb57a73fd67a17ebee79a853b7ab2e26055a81287c7b7224d7a"), looks := true }, kinds := [], alts := [], laidByText := true, laidKinds := [.data, .data, .data, .data, .sentinel, .sentinel, .widerDeep, .pinned], laidTests := true, laidLooks := .later }
def PolicyJoinCardSaid : Prop := Claim7.holds Tryz.pinned (.plain (OpenSpec.ofChange policyJoinSpec)) policyJoinCard

/-- THE TIED CARD OF 'hagioscopelaw04.CidrTells'. -/
def cidrTellsCard : Claim7 := { stood := { row := cidrTellsRow, standIns := [], harness := (true, "bdfda22739556cb57a73fd67a17ebee79a853b7ab2e26055a81287c7b7224d7a"), looks := true }, kinds := [], alts := [], laidByText := true, laidKinds := [.data, .data, .data, .data, .sentinel, .sentinel, .widerDeep, .pinned], laidTests := true, laidLooks := .later }
def CidrTellsCardSaid : Prop := Claim7.holds Tryz.pinned (.plain (OpenSpec.ofChange cidrTellsSpec)) cidrTellsCard

/-- THE TIED CARD OF 'hagioscopelaw04.CidrBack'. -/
def cidrBackCard : Claim7 := { stood := { row := cidrBackRow, standIns := [], harness := (true, "bdfda22739556cb57a73fd67a17ebee79a853b7ab2e26055a81287c7b7224d7a"), looks := true }, kinds := [], alts := [], laidByText := true, laidKinds := [.data, .data, .data, .data, .sentinel, .sentinel, .widerDeep, .pinned], laidTests := true, laidLooks := .later }
def CidrBackCardSaid : Prop := Claim7.holds Tryz.pinned (.plain (OpenSpec.ofChange cidrBackSpec)) cidrBackCard

/-- THE TIED CARD OF 'hagioscopelaw04.CidrFinds'. -/
def cidrFindsCard : Claim7 := { stood := { row := cidrFindsRow, standIns := [], harness := (true, "bdfda22739556cb57a73fd67a17ebee79a853b7ab2e26055a81287c7b7224d7a"), looks := true }, kinds := [], alts := [], laidByText := true, laidKinds := [.data, .data, .data, .data, .sentinel, .sentinel, .widerDeep, .pinned], laidTests := true, laidLooks := .later }
def CidrFindsCardSaid : Prop := Claim7.holds Tryz.pinned (.plain (OpenSpec.ofChange cidrFindsSpec)) cidrFindsCard

/-- THE TIED CARD OF 'hagioscopelaw04.CidrNests'. -/
def cidrNestsCard : Claim7 := { stood := { row := cidrNestsRow, standIns := [], harness := (true, "bdfda22739556cb57a73fd67a17ebee79a853b7ab2e26055a81287c7b7224d7a"), looks := true }, kinds := [], alts := [], laidByText := true, laidKinds := [.data, .data, .data, .data, .sentinel, .sentinel, .widerDeep, .pinned], laidTests := true, laidLooks := .later }
def CidrNestsCardSaid : Prop := Claim7.holds Tryz.pinned (.plain (OpenSpec.ofChange cidrNestsSpec)) cidrNestsCard

/-- THE TIED CARD OF 'hagioscopelaw04.CidrOrder'. -/
def cidrOrderCard : Claim7 := { stood := { row := cidrOrderRow, standIns := [], harness := (true, "bdfda22739556cb57a73fd67a17ebee79a853b7ab2e26055a81287c7b7224d7a"), looks := true }, kinds := [], alts := [], laidByText := true, laidKinds := [.data, .data, .data, .data, .sentinel, .sentinel, .widerDeep, .pinned], laidTests := true, laidLooks := .later }
def CidrOrderCardSaid : Prop := Claim7.holds Tryz.pinned (.plain (OpenSpec.ofChange cidrOrderSpec)) cidrOrderCard

/-- THE SECOND FORM's CARD OF 'hagioscopelaw19.PolicyBack'. -/
def policyBackUptoCard : Claim7 := { stood := { row := policyBackUptoRow, standIns := [], harness := (true, "bdfda22739556cb57a73fd67a17ebee79a853b7ab2e26055a81287c7b7224d7a"), looks := true }, kinds := [], alts := [], laidByText := true, laidKinds := [.data, .data, .data, .data, .sentinel, .sentinel, .widerDeep, .pinned], laidTests := true, laidLooks := .later }
def PolicyBackUptoCardSaid : Prop := Claim7.holds Tryz.pinned (.plain (OpenSpec.upto policyBackSpec)) policyBackUptoCard

/-- THE SECOND FORM's CARD OF 'hagioscopelaw19.PolicyLines'. -/
def policyLinesUptoCard : Claim7 := { stood := { row := policyLinesUptoRow, standIns := [], harness := (true, "bdfda22739556cb57a73fd67a17ebee79a853b7ab2e26055a81287c7b7224d7a"), looks := true }, kinds := [], alts := [], laidByText := true, laidKinds := [.data, .data, .data, .data, .sentinel, .sentinel, .widerDeep, .pinned], laidTests := true, laidLooks := .later }
def PolicyLinesUptoCardSaid : Prop := Claim7.holds Tryz.pinned (.plain (OpenSpec.upto policyLinesSpec)) policyLinesUptoCard

/-- THE SECOND FORM's CARD OF 'hagioscopelaw19.PolicyDefault'. -/
def policyDefaultUptoCard : Claim7 := { stood := { row := policyDefaultUptoRow, standIns := [], harness := (true, "bdfda22739556cb57a73fd67a17ebee79a853b7ab2e26055a81287c7b7224d7a"), looks := true }, kinds := [], alts := [], laidByText := true, laidKinds := [.data, .data, .data, .data, .sentinel, .sentinel, .widerDeep, .pinned], laidTests := true, laidLooks := .later }
def PolicyDefaultUptoCardSaid : Prop := Claim7.holds Tryz.pinned (.plain (OpenSpec.upto policyDefaultSpec)) policyDefaultUptoCard

/-- THE SECOND FORM's CARD OF 'hagioscopelaw19.PolicyJoin'. -/
def policyJoinUptoCard : Claim7 := { stood := { row := policyJoinUptoRow, standIns := [], harness := (true, "bdfda22739556cb57a73fd67a17ebee79a853b7ab2e26055a81287c7b7224d7a"), looks := true }, kinds := [], alts := [], laidByText := true, laidKinds := [.data, .data, .data, .data, .sentinel, .sentinel, .widerDeep, .pinned], laidTests := true, laidLooks := .later }
def PolicyJoinUptoCardSaid : Prop := Claim7.holds Tryz.pinned (.plain (OpenSpec.upto policyJoinSpec)) policyJoinUptoCard

/-- THE SECOND FORM's CARD OF 'hagioscopelaw04.CidrTells'. -/
def cidrTellsUptoCard : Claim7 := { stood := { row := cidrTellsUptoRow, standIns := [], harness := (true, "bdfda22739556cb57a73fd67a17ebee79a853b7ab2e26055a81287c7b7224d7a"), looks := true }, kinds := [], alts := [], laidByText := true, laidKinds := [.data, .data, .data, .data, .sentinel, .sentinel, .widerDeep, .pinned], laidTests := true, laidLooks := .later }
def CidrTellsUptoCardSaid : Prop := Claim7.holds Tryz.pinned (.plain (OpenSpec.upto cidrTellsSpec)) cidrTellsUptoCard

/-- THE SECOND FORM's CARD OF 'hagioscopelaw04.CidrBack'. -/
def cidrBackUptoCard : Claim7 := { stood := { row := cidrBackUptoRow, standIns := [], harness := (true, "bdfda22739556cb57a73fd67a17ebee79a853b7ab2e26055a81287c7b7224d7a"), looks := true }, kinds := [], alts := [], laidByText := true, laidKinds := [.data, .data, .data, .data, .sentinel, .sentinel, .widerDeep, .pinned], laidTests := true, laidLooks := .later }
def CidrBackUptoCardSaid : Prop := Claim7.holds Tryz.pinned (.plain (OpenSpec.upto cidrBackSpec)) cidrBackUptoCard

/-- THE SECOND FORM's CARD OF 'hagioscopelaw04.CidrFinds'. -/
def cidrFindsUptoCard : Claim7 := { stood := { row := cidrFindsUptoRow, standIns := [], harness := (true, "bdfda22739556cb57a73fd67a17ebee79a853b7ab2e26055a81287c7b7224d7a"), looks := true }, kinds := [], alts := [], laidByText := true, laidKinds := [.data, .data, .data, .data, .sentinel, .sentinel, .widerDeep, .pinned], laidTests := true, laidLooks := .later }
def CidrFindsUptoCardSaid : Prop := Claim7.holds Tryz.pinned (.plain (OpenSpec.upto cidrFindsSpec)) cidrFindsUptoCard

/-- THE SECOND FORM's CARD OF 'hagioscopelaw04.CidrNests'. -/
def cidrNestsUptoCard : Claim7 := { stood := { row := cidrNestsUptoRow, standIns := [], harness := (true, "bdfda22739556cb57a73fd67a17ebee79a853b7ab2e26055a81287c7b7224d7a"), looks := true }, kinds := [], alts := [], laidByText := true, laidKinds := [.data, .data, .data, .data, .sentinel, .sentinel, .widerDeep, .pinned], laidTests := true, laidLooks := .later }
def CidrNestsUptoCardSaid : Prop := Claim7.holds Tryz.pinned (.plain (OpenSpec.upto cidrNestsSpec)) cidrNestsUptoCard

/-- THE SECOND FORM's CARD OF 'hagioscopelaw04.CidrOrder'. -/
def cidrOrderUptoCard : Claim7 := { stood := { row := cidrOrderUptoRow, standIns := [], harness := (true, "bdfda22739556cb57a73fd67a17ebee79a853b7ab2e26055a81287c7b7224d7a"), looks := true }, kinds := [], alts := [], laidByText := true, laidKinds := [.data, .data, .data, .data, .sentinel, .sentinel, .widerDeep, .pinned], laidTests := true, laidLooks := .later }
def CidrOrderUptoCardSaid : Prop := Claim7.holds Tryz.pinned (.plain (OpenSpec.upto cidrOrderSpec)) cidrOrderUptoCard
end Rows
end Go.Proofs.YtohblhfdgoigdaaGreatDoor
