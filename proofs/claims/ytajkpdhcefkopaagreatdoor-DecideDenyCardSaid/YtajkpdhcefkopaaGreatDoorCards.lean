/-
  DERIVED. GIVEN WITH THE SEED: THE CARDS: each row of YtajkpdhcefkopaaGreatDoorRows.lean that lists a variable, with what it lists TIED to the program's text (the seventh form; the later family's looks); each row that meets fmt, with fmt's text TOLD by the authors' own Lean function (tested against real Go, not proved from fmt's source: count such statements apart). THE CARD IS WHAT COUNTS. Prove the row's statement (the work); the ties are given (YtajkpdhcefkopaaGreatDoorTie.lean); close each card by the builder's one call (the guide's Derived/Test/ToyasCard.lean, 'card_holds'). Laid BY PROGRAM, IN A SANDBOX (cutbox-door.mjs). By AI agents, Wed Nov 11 2026. No macro, syntax, notation, axiom, sorry.
-/
import Derived.Test.YtajkpdhcefkopaaGreatDoorRows
import GoSem.ClaimSeven
namespace Go.Proofs.YtajkpdhcefkopaaGreatDoor
namespace Rows

/-- THE TIED CARD OF 'hagioscopelaw20.PinsPlays'. -/
def pinsPlaysCard : Claim7 := { stood := { row := pinsPlaysRow, standIns := [], harness := (true, "e196f4f6e1f610a803cfe73defab8d0a0c0457d3f1c0697432deb65cf4dfc7b3"), looks := true }, kinds := [], alts := [], laidByText := true, laidKinds := [.data, .data, .data, .data, .sentinel, .sentinel, .widerDeep, .pinned], laidTests := true, laidLooks := .later }
def PinsPlaysCardSaid : Prop := Claim7.holds Tryz.pinned (.plain (OpenSpec.ofChange pinsPlaysSpec)) pinsPlaysCard

/-- THE TIED CARD OF 'hagioscopelaw20.PinsOrder'. -/
def pinsOrderCard : Claim7 := { stood := { row := pinsOrderRow, standIns := [], harness := (true, "e196f4f6e1f610a803cfe73defab8d0a0c0457d3f1c0697432deb65cf4dfc7b3"), looks := true }, kinds := [], alts := [], laidByText := true, laidKinds := [.data, .data, .data, .data, .sentinel, .sentinel, .widerDeep, .pinned], laidTests := true, laidLooks := .later }
def PinsOrderCardSaid : Prop := Claim7.holds Tryz.pinned (.plain (OpenSpec.ofChange pinsOrderSpec)) pinsOrderCard

/-- THE TIED CARD OF 'hagioscopelaw20.PinsTime'. -/
def pinsTimeCard : Claim7 := { stood := { row := pinsTimeRow, standIns := [], harness := (true, "e196f4f6e1f610a803cfe73defab8d0a0c0457d3f1c0697432deb65cf4dfc7b3"), looks := true }, kinds := [], alts := [], laidByText := true, laidKinds := [.data, .data, .data, .data, .sentinel, .sentinel, .widerDeep, .pinned], laidTests := true, laidLooks := .later }
def PinsTimeCardSaid : Prop := Claim7.holds Tryz.pinned (.plain (OpenSpec.ofChange pinsTimeSpec)) pinsTimeCard

/-- THE TIED CARD OF 'hagioscopelaw20.PinsCheck'. -/
def pinsCheckCard : Claim7 := { stood := { row := pinsCheckRow, standIns := [], harness := (true, "e196f4f6e1f610a803cfe73defab8d0a0c0457d3f1c0697432deb65cf4dfc7b3"), looks := true }, kinds := [], alts := [], laidByText := true, laidKinds := [.data, .data, .data, .data, .sentinel, .sentinel, .widerDeep, .pinned], laidTests := true, laidLooks := .later }
def PinsCheckCardSaid : Prop := Claim7.holds Tryz.pinned (.plain (OpenSpec.ofChange pinsCheckSpec)) pinsCheckCard

/-- THE TIED CARD OF 'hagioscopelaw20.PinsApart'. -/
def pinsApartCard : Claim7 := { stood := { row := pinsApartRow, standIns := [], harness := (true, "e196f4f6e1f610a803cfe73defab8d0a0c0457d3f1c0697432deb65cf4dfc7b3"), looks := true }, kinds := [], alts := [], laidByText := true, laidKinds := [.data, .data, .data, .data, .sentinel, .sentinel, .widerDeep, .pinned], laidTests := true, laidLooks := .later }
def PinsApartCardSaid : Prop := Claim7.holds Tryz.pinned (.plain (OpenSpec.ofChange pinsApartSpec)) pinsApartCard

/-- THE TIED CARD OF 'hagioscopelaw21.DecideTells'. -/
def decideTellsCard : Claim7 := { stood := { row := decideTellsRow, standIns := [], harness := (true, "e196f4f6e1f610a803cfe73defab8d0a0c0457d3f1c0697432deb65cf4dfc7b3"), looks := true }, kinds := [], alts := [], laidByText := true, laidKinds := [.data, .data, .data, .data, .sentinel, .sentinel, .widerDeep, .pinned], laidTests := true, laidLooks := .later }
def DecideTellsCardSaid : Prop := Claim7.holds Tryz.pinned (.plain (OpenSpec.ofChange decideTellsSpec)) decideTellsCard

/-- THE TIED CARD OF 'hagioscopelaw21.DecideSafe'. -/
def decideSafeCard : Claim7 := { stood := { row := decideSafeRow, standIns := [], harness := (true, "e196f4f6e1f610a803cfe73defab8d0a0c0457d3f1c0697432deb65cf4dfc7b3"), looks := true }, kinds := [], alts := [], laidByText := true, laidKinds := [.data, .data, .data, .data, .sentinel, .sentinel, .widerDeep, .pinned], laidTests := true, laidLooks := .later }
def DecideSafeCardSaid : Prop := Claim7.holds Tryz.pinned (.plain (OpenSpec.ofChange decideSafeSpec)) decideSafeCard

/-- THE TIED CARD OF 'hagioscopelaw21.DecideDeny'. -/
def decideDenyCard : Claim7 := { stood := { row := decideDenyRow, standIns := [], harness := (true, "e196f4f6e1f610a803cfe73defab8d0a0c0457d3f1c0697432deb65cf4dfc7b3"), looks := true }, kinds := [], alts := [], laidByText := true, laidKinds := [.data, .data, .data, .data, .sentinel, .sentinel, .widerDeep, .pinned], laidTests := true, laidLooks := .later }
def DecideDenyCardSaid : Prop := Claim7.holds Tryz.pinned (.plain (OpenSpec.ofChange decideDenySpec)) decideDenyCard

/-- THE TIED CARD OF 'hagioscopelaw21.DecideDefault'. -/
def decideDefaultCard : Claim7 := { stood := { row := decideDefaultRow, standIns := [], harness := (true, "e196f4f6e1f610a803cfe73defab8d0a0c0457d3f1c0697432deb65cf4dfc7b3"), looks := true }, kinds := [], alts := [], laidByText := true, laidKinds := [.data, .data, .data, .data, .sentinel, .sentinel, .widerDeep, .pinned], laidTests := true, laidLooks := .later }
def DecideDefaultCardSaid : Prop := Claim7.holds Tryz.pinned (.plain (OpenSpec.ofChange decideDefaultSpec)) decideDefaultCard

/-- THE TIED CARD OF 'hagioscopelaw21.DecidePort'. -/
def decidePortCard : Claim7 := { stood := { row := decidePortRow, standIns := [], harness := (true, "e196f4f6e1f610a803cfe73defab8d0a0c0457d3f1c0697432deb65cf4dfc7b3"), looks := true }, kinds := [], alts := [], laidByText := true, laidKinds := [.data, .data, .data, .data, .sentinel, .sentinel, .widerDeep, .pinned], laidTests := true, laidLooks := .later }
def DecidePortCardSaid : Prop := Claim7.holds Tryz.pinned (.plain (OpenSpec.ofChange decidePortSpec)) decidePortCard

/-- THE TIED CARD OF 'hagioscopelaw21.DecideRule'. -/
def decideRuleCard : Claim7 := { stood := { row := decideRuleRow, standIns := [], harness := (true, "e196f4f6e1f610a803cfe73defab8d0a0c0457d3f1c0697432deb65cf4dfc7b3"), looks := true }, kinds := [], alts := [], laidByText := true, laidKinds := [.data, .data, .data, .data, .sentinel, .sentinel, .widerDeep, .pinned], laidTests := true, laidLooks := .later }
def DecideRuleCardSaid : Prop := Claim7.holds Tryz.pinned (.plain (OpenSpec.ofChange decideRuleSpec)) decideRuleCard

/-- THE SECOND FORM's CARD OF 'hagioscopelaw20.PinsPlays'. -/
def pinsPlaysUptoCard : Claim7 := { stood := { row := pinsPlaysUptoRow, standIns := [], harness := (true, "e196f4f6e1f610a803cfe73defab8d0a0c0457d3f1c0697432deb65cf4dfc7b3"), looks := true }, kinds := [], alts := [], laidByText := true, laidKinds := [.data, .data, .data, .data, .sentinel, .sentinel, .widerDeep, .pinned], laidTests := true, laidLooks := .later }
def PinsPlaysUptoCardSaid : Prop := Claim7.holds Tryz.pinned (.plain (OpenSpec.upto pinsPlaysSpec)) pinsPlaysUptoCard

/-- THE SECOND FORM's CARD OF 'hagioscopelaw20.PinsOrder'. -/
def pinsOrderUptoCard : Claim7 := { stood := { row := pinsOrderUptoRow, standIns := [], harness := (true, "e196f4f6e1f610a803cfe73defab8d0a0c0457d3f1c0697432deb65cf4dfc7b3"), looks := true }, kinds := [], alts := [], laidByText := true, laidKinds := [.data, .data, .data, .data, .sentinel, .sentinel, .widerDeep, .pinned], laidTests := true, laidLooks := .later }
def PinsOrderUptoCardSaid : Prop := Claim7.holds Tryz.pinned (.plain (OpenSpec.upto pinsOrderSpec)) pinsOrderUptoCard

/-- THE SECOND FORM's CARD OF 'hagioscopelaw20.PinsTime'. -/
def pinsTimeUptoCard : Claim7 := { stood := { row := pinsTimeUptoRow, standIns := [], harness := (true, "e196f4f6e1f610a803cfe73defab8d0a0c0457d3f1c0697432deb65cf4dfc7b3"), looks := true }, kinds := [], alts := [], laidByText := true, laidKinds := [.data, .data, .data, .data, .sentinel, .sentinel, .widerDeep, .pinned], laidTests := true, laidLooks := .later }
def PinsTimeUptoCardSaid : Prop := Claim7.holds Tryz.pinned (.plain (OpenSpec.upto pinsTimeSpec)) pinsTimeUptoCard

/-- THE SECOND FORM's CARD OF 'hagioscopelaw20.PinsCheck'. -/
def pinsCheckUptoCard : Claim7 := { stood := { row := pinsCheckUptoRow, standIns := [], harness := (true, "e196f4f6e1f610a803cfe73defab8d0a0c0457d3f1c0697432deb65cf4dfc7b3"), looks := true }, kinds := [], alts := [], laidByText := true, laidKinds := [.data, .data, .data, .data, .sentinel, .sentinel, .widerDeep, .pinned], laidTests := true, laidLooks := .later }
def PinsCheckUptoCardSaid : Prop := Claim7.holds Tryz.pinned (.plain (OpenSpec.upto pinsCheckSpec)) pinsCheckUptoCard

/-- THE SECOND FORM's CARD OF 'hagioscopelaw20.PinsApart'. -/
def pinsApartUptoCard : Claim7 := { stood := { row := pinsApartUptoRow, standIns := [], harness := (true, "e196f4f6e1f610a803cfe73defab8d0a0c0457d3f1c0697432deb65cf4dfc7b3"), looks := true }, kinds := [], alts := [], laidByText := true, laidKinds := [.data, .data, .data, .data, .sentinel, .sentinel, .widerDeep, .pinned], laidTests := true, laidLooks := .later }
def PinsApartUptoCardSaid : Prop := Claim7.holds Tryz.pinned (.plain (OpenSpec.upto pinsApartSpec)) pinsApartUptoCard

/-- THE SECOND FORM's CARD OF 'hagioscopelaw21.DecideTells'. -/
def decideTellsUptoCard : Claim7 := { stood := { row := decideTellsUptoRow, standIns := [], harness := (true, "e196f4f6e1f610a803cfe73defab8d0a0c0457d3f1c0697432deb65cf4dfc7b3"), looks := true }, kinds := [], alts := [], laidByText := true, laidKinds := [.data, .data, .data, .data, .sentinel, .sentinel, .widerDeep, .pinned], laidTests := true, laidLooks := .later }
def DecideTellsUptoCardSaid : Prop := Claim7.holds Tryz.pinned (.plain (OpenSpec.upto decideTellsSpec)) decideTellsUptoCard

/-- THE SECOND FORM's CARD OF 'hagioscopelaw21.DecideSafe'. -/
def decideSafeUptoCard : Claim7 := { stood := { row := decideSafeUptoRow, standIns := [], harness := (true, "e196f4f6e1f610a803cfe73defab8d0a0c0457d3f1c0697432deb65cf4dfc7b3"), looks := true }, kinds := [], alts := [], laidByText := true, laidKinds := [.data, .data, .data, .data, .sentinel, .sentinel, .widerDeep, .pinned], laidTests := true, laidLooks := .later }
def DecideSafeUptoCardSaid : Prop := Claim7.holds Tryz.pinned (.plain (OpenSpec.upto decideSafeSpec)) decideSafeUptoCard

/-- THE SECOND FORM's CARD OF 'hagioscopelaw21.DecideDeny'. -/
def decideDenyUptoCard : Claim7 := { stood := { row := decideDenyUptoRow, standIns := [], harness := (true, "e196f4f6e1f610a803cfe73defab8d0a0c0457d3f1c0697432deb65cf4dfc7b3"), looks := true }, kinds := [], alts := [], laidByText := true, laidKinds := [.data, .data, .data, .data, .sentinel, .sentinel, .widerDeep, .pinned], laidTests := true, laidLooks := .later }
def DecideDenyUptoCardSaid : Prop := Claim7.holds Tryz.pinned (.plain (OpenSpec.upto decideDenySpec)) decideDenyUptoCard

/-- THE SECOND FORM's CARD OF 'hagioscopelaw21.DecideDefault'. -/
def decideDefaultUptoCard : Claim7 := { stood := { row := decideDefaultUptoRow, standIns := [], harness := (true, "e196f4f6e1f610a803cfe73defab8d0a0c0457d3f1c0697432deb65cf4dfc7b3"), looks := true }, kinds := [], alts := [], laidByText := true, laidKinds := [.data, .data, .data, .data, .sentinel, .sentinel, .widerDeep, .pinned], laidTests := true, laidLooks := .later }
def DecideDefaultUptoCardSaid : Prop := Claim7.holds Tryz.pinned (.plain (OpenSpec.upto decideDefaultSpec)) decideDefaultUptoCard

/-- THE SECOND FORM's CARD OF 'hagioscopelaw21.DecidePort'. -/
def decidePortUptoCard : Claim7 := { stood := { row := decidePortUptoRow, standIns := [], harness := (true, "e196f4f6e1f610a803cfe73defab8d0a0c0457d3f1c0697432deb65cf4dfc7b3"), looks := true }, kinds := [], alts := [], laidByText := true, laidKinds := [.data, .data, .data, .data, .sentinel, .sentinel, .widerDeep, .pinned], laidTests := true, laidLooks := .later }
def DecidePortUptoCardSaid : Prop := Claim7.holds Tryz.pinned (.plain (OpenSpec.upto decidePortSpec)) decidePortUptoCard

/-- THE SECOND FORM's CARD OF 'hagioscopelaw21.DecideRule'. -/
def decideRuleUptoCard : Claim7 := { stood := { row := decideRuleUptoRow, standIns := [], harness := (true, "e196f4f6e1f610a803cfe73defab8d0a0c0457d3f1c0697432deb65cf4dfc7b3"), looks := true }, kinds := [], alts := [], laidByText := true, laidKinds := [.data, .data, .data, .data, .sentinel, .sentinel, .widerDeep, .pinned], laidTests := true, laidLooks := .later }
def DecideRuleUptoCardSaid : Prop := Claim7.holds Tryz.pinned (.plain (OpenSpec.upto decideRuleSpec)) decideRuleUptoCard
end Rows
end Go.Proofs.YtajkpdhcefkopaaGreatDoor
