/-
  DERIVED. GIVEN WITH THE SEED: THE CARDS: each row of YtlakopiopplfhaaGreatDoorRows.lean that lists a variable, with what it lists TIED to the program's text (the seventh form; the later family's looks); each row that meets fmt, with fmt's text TOLD by the authors' own Lean function (tested against real Go, not proved from fmt's source: count such statements apart). THE CARD IS WHAT COUNTS. Prove the row's statement (the work); the ties are given (YtlakopiopplfhaaGreatDoorTie.lean); close each card by the builder's one call (the guide's Derived/Test/ToyasCard.lean, 'card_holds'). Laid BY PROGRAM, IN A SANDBOX (cutbox-door.mjs). By AI agents, Wed Nov 11 2026. No macro, syntax, notation, axiom, sorry.
-/
import Derived.Test.YtlakopiopplfhaaGreatDoorRows
import GoSem.ClaimSeven
namespace Go.Proofs.YtlakopiopplfhaaGreatDoor
namespace Rows

/-- THE TIED CARD OF 'hagioscopelaw21.DecideTells'. -/
def decideTellsCard : Claim7 := { stood := { row := decideTellsRow, standIns := [], harness := (true, "d47627a04b1d1d37daabf856b3f80c7b44814e8bd9da386855a6964e7e7d9f4a"), looks := true }, kinds := [], alts := [], laidByText := true, laidKinds := [.data, .data, .data, .data, .sentinel, .sentinel, .widerDeep, .pinned], laidTests := true, laidLooks := .later }
def DecideTellsCardSaid : Prop := Claim7.holds Tryz.pinned (.plain (OpenSpec.ofChange decideTellsSpec)) decideTellsCard

/-- THE TIED CARD OF 'hagioscopelaw23.ConnPieces'. -/
def connPiecesCard : Claim7 := { stood := { row := connPiecesRow, standIns := [], harness := (true, "d47627a04b1d1d37daabf856b3f80c7b44814e8bd9da386855a6964e7e7d9f4a"), looks := true }, kinds := [], alts := [], laidByText := true, laidKinds := [.data, .data, .data, .data, .sentinel, .sentinel, .widerDeep, .pinned], laidTests := true, laidLooks := .later }
def ConnPiecesCardSaid : Prop := Claim7.holds Tryz.pinned (.plain (OpenSpec.ofChange connPiecesSpec)) connPiecesCard

/-- THE TIED CARD OF 'hagioscopelaw23.ConnWhole'. -/
def connWholeCard : Claim7 := { stood := { row := connWholeRow, standIns := [], harness := (true, "d47627a04b1d1d37daabf856b3f80c7b44814e8bd9da386855a6964e7e7d9f4a"), looks := true }, kinds := [], alts := [], laidByText := true, laidKinds := [.data, .data, .data, .data, .sentinel, .sentinel, .widerDeep, .pinned], laidTests := true, laidLooks := .later }
def ConnWholeCardSaid : Prop := Claim7.holds Tryz.pinned (.plain (OpenSpec.ofChange connWholeSpec)) connWholeCard

/-- THE TIED CARD OF 'hagioscopelaw23.ConnPrefix'. -/
def connPrefixCard : Claim7 := { stood := { row := connPrefixRow, standIns := [], harness := (true, "d47627a04b1d1d37daabf856b3f80c7b44814e8bd9da386855a6964e7e7d9f4a"), looks := true }, kinds := [], alts := [], laidByText := true, laidKinds := [.data, .data, .data, .data, .sentinel, .sentinel, .widerDeep, .pinned], laidTests := true, laidLooks := .later }
def ConnPrefixCardSaid : Prop := Claim7.holds Tryz.pinned (.plain (OpenSpec.ofChange connPrefixSpec)) connPrefixCard

/-- THE TIED CARD OF 'hagioscopelaw23.ConnDue'. -/
def connDueCard : Claim7 := { stood := { row := connDueRow, standIns := [], harness := (true, "d47627a04b1d1d37daabf856b3f80c7b44814e8bd9da386855a6964e7e7d9f4a"), looks := true }, kinds := [], alts := [], laidByText := true, laidKinds := [.data, .data, .data, .data, .sentinel, .sentinel, .widerDeep, .pinned], laidTests := true, laidLooks := .later }
def ConnDueCardSaid : Prop := Claim7.holds Tryz.pinned (.plain (OpenSpec.ofChange connDueSpec)) connDueCard

/-- THE TIED CARD OF 'hagioscopelaw23.ConnBounds'. -/
def connBoundsCard : Claim7 := { stood := { row := connBoundsRow, standIns := [], harness := (true, "d47627a04b1d1d37daabf856b3f80c7b44814e8bd9da386855a6964e7e7d9f4a"), looks := true }, kinds := [], alts := [], laidByText := true, laidKinds := [.data, .data, .data, .data, .sentinel, .sentinel, .widerDeep, .pinned], laidTests := true, laidLooks := .later }
def ConnBoundsCardSaid : Prop := Claim7.holds Tryz.pinned (.plain (OpenSpec.ofChange connBoundsSpec)) connBoundsCard

/-- THE TIED CARD OF 'hagioscopelaw23.ConnEnds'. -/
def connEndsCard : Claim7 := { stood := { row := connEndsRow, standIns := [], harness := (true, "d47627a04b1d1d37daabf856b3f80c7b44814e8bd9da386855a6964e7e7d9f4a"), looks := true }, kinds := [], alts := [], laidByText := true, laidKinds := [.data, .data, .data, .data, .sentinel, .sentinel, .widerDeep, .pinned], laidTests := true, laidLooks := .later }
def ConnEndsCardSaid : Prop := Claim7.holds Tryz.pinned (.plain (OpenSpec.ofChange connEndsSpec)) connEndsCard

/-- THE SECOND FORM's CARD OF 'hagioscopelaw21.DecideTells'. -/
def decideTellsUptoCard : Claim7 := { stood := { row := decideTellsUptoRow, standIns := [], harness := (true, "d47627a04b1d1d37daabf856b3f80c7b44814e8bd9da386855a6964e7e7d9f4a"), looks := true }, kinds := [], alts := [], laidByText := true, laidKinds := [.data, .data, .data, .data, .sentinel, .sentinel, .widerDeep, .pinned], laidTests := true, laidLooks := .later }
def DecideTellsUptoCardSaid : Prop := Claim7.holds Tryz.pinned (.plain (OpenSpec.upto decideTellsSpec)) decideTellsUptoCard

/-- THE SECOND FORM's CARD OF 'hagioscopelaw23.ConnPieces'. -/
def connPiecesUptoCard : Claim7 := { stood := { row := connPiecesUptoRow, standIns := [], harness := (true, "d47627a04b1d1d37daabf856b3f80c7b44814e8bd9da386855a6964e7e7d9f4a"), looks := true }, kinds := [], alts := [], laidByText := true, laidKinds := [.data, .data, .data, .data, .sentinel, .sentinel, .widerDeep, .pinned], laidTests := true, laidLooks := .later }
def ConnPiecesUptoCardSaid : Prop := Claim7.holds Tryz.pinned (.plain (OpenSpec.upto connPiecesSpec)) connPiecesUptoCard

/-- THE SECOND FORM's CARD OF 'hagioscopelaw23.ConnWhole'. -/
def connWholeUptoCard : Claim7 := { stood := { row := connWholeUptoRow, standIns := [], harness := (true, "d47627a04b1d1d37daabf856b3f80c7b44814e8bd9da386855a6964e7e7d9f4a"), looks := true }, kinds := [], alts := [], laidByText := true, laidKinds := [.data, .data, .data, .data, .sentinel, .sentinel, .widerDeep, .pinned], laidTests := true, laidLooks := .later }
def ConnWholeUptoCardSaid : Prop := Claim7.holds Tryz.pinned (.plain (OpenSpec.upto connWholeSpec)) connWholeUptoCard

/-- THE SECOND FORM's CARD OF 'hagioscopelaw23.ConnPrefix'. -/
def connPrefixUptoCard : Claim7 := { stood := { row := connPrefixUptoRow, standIns := [], harness := (true, "d47627a04b1d1d37daabf856b3f80c7b44814e8bd9da386855a6964e7e7d9f4a"), looks := true }, kinds := [], alts := [], laidByText := true, laidKinds := [.data, .data, .data, .data, .sentinel, .sentinel, .widerDeep, .pinned], laidTests := true, laidLooks := .later }
def ConnPrefixUptoCardSaid : Prop := Claim7.holds Tryz.pinned (.plain (OpenSpec.upto connPrefixSpec)) connPrefixUptoCard

/-- THE SECOND FORM's CARD OF 'hagioscopelaw23.ConnDue'. -/
def connDueUptoCard : Claim7 := { stood := { row := connDueUptoRow, standIns := [], harness := (true, "d47627a04b1d1d37daabf856b3f80c7b44814e8bd9da386855a6964e7e7d9f4a"), looks := true }, kinds := [], alts := [], laidByText := true, laidKinds := [.data, .data, .data, .data, .sentinel, .sentinel, .widerDeep, .pinned], laidTests := true, laidLooks := .later }
def ConnDueUptoCardSaid : Prop := Claim7.holds Tryz.pinned (.plain (OpenSpec.upto connDueSpec)) connDueUptoCard

/-- THE SECOND FORM's CARD OF 'hagioscopelaw23.ConnBounds'. -/
def connBoundsUptoCard : Claim7 := { stood := { row := connBoundsUptoRow, standIns := [], harness := (true, "d47627a04b1d1d37daabf856b3f80c7b44814e8bd9da386855a6964e7e7d9f4a"), looks := true }, kinds := [], alts := [], laidByText := true, laidKinds := [.data, .data, .data, .data, .sentinel, .sentinel, .widerDeep, .pinned], laidTests := true, laidLooks := .later }
def ConnBoundsUptoCardSaid : Prop := Claim7.holds Tryz.pinned (.plain (OpenSpec.upto connBoundsSpec)) connBoundsUptoCard

/-- THE SECOND FORM's CARD OF 'hagioscopelaw23.ConnEnds'. -/
def connEndsUptoCard : Claim7 := { stood := { row := connEndsUptoRow, standIns := [], harness := (true, "d47627a04b1d1d37daabf856b3f80c7b44814e8bd9da386855a6964e7e7d9f4a"), looks := true }, kinds := [], alts := [], laidByText := true, laidKinds := [.data, .data, .data, .data, .sentinel, .sentinel, .widerDeep, .pinned], laidTests := true, laidLooks := .later }
def ConnEndsUptoCardSaid : Prop := Claim7.holds Tryz.pinned (.plain (OpenSpec.upto connEndsSpec)) connEndsUptoCard
end Rows
end Go.Proofs.YtlakopiopplfhaaGreatDoor
