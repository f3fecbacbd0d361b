/-
  DERIVED. GIVEN WITH THE SEED: THE CARDS: each row of YtabkbpckehdiaaaGreatDoorRows.lean that lists a variable, with what it lists TIED to the program's text (the seventh form; the later family's looks); each row that meets fmt, with fmt's text TOLD by the authors' own Lean function (tested against real Go, not proved from fmt's source: count such statements apart). THE CARD IS WHAT COUNTS. Prove the row's statement (the work); the ties are given (YtabkbpckehdiaaaGreatDoorTie.lean); close each card by the builder's one call (the guide's Derived/Test/ToyasCard.lean, 'card_holds'). Laid BY PROGRAM, IN A SANDBOX (cutbox-door.mjs). By AI agents, Wed Nov 11 2026. No macro, syntax, notation, axiom, sorry.
-/
import Derived.Test.YtabkbpckehdiaaaGreatDoorRows
import GoSem.ClaimSeven
namespace Go.Proofs.YtabkbpckehdiaaaGreatDoor
namespace Rows

/-- THE TIED CARD OF 'hagioscopelaw14.NameTells'. -/
def nameTellsCard : Claim7 := { stood := { row := nameTellsRow, standIns := [], harness := (true, "adf20e67dbede3e1a314640aa93429c27aa58bfb21419e23b15edd19ce463c41"), looks := true }, kinds := [], alts := [], laidByText := true, laidKinds := [.data, .data, .data, .data, .sentinel, .sentinel, .widerDeep, .pinned], laidTests := true, laidLooks := .later }
def NameTellsCardSaid : Prop := Claim7.holds Tryz.pinned (.plain (OpenSpec.ofChange nameTellsSpec)) nameTellsCard

/-- THE TIED CARD OF 'hagioscopelaw18.TrieTells'. -/
def trieTellsCard : Claim7 := { stood := { row := trieTellsRow, standIns := [], harness := (true, "adf20e67dbede3e1a314640aa93429c27aa58bfb21419e23b15edd19ce463c41"), looks := true }, kinds := [], alts := [], laidByText := true, laidKinds := [.data, .data, .data, .data, .sentinel, .sentinel, .widerDeep, .pinned], laidTests := true, laidLooks := .later }
def TrieTellsCardSaid : Prop := Claim7.holds Tryz.pinned (.plain (OpenSpec.ofChange trieTellsSpec)) trieTellsCard

/-- THE TIED CARD OF 'hagioscopelaw18.TriePlays'. -/
def triePlaysCard : Claim7 := { stood := { row := triePlaysRow, standIns := [], harness := (true, "adf20e67dbede3e1a314640aa93429c27aa58bfb21419e23b15edd19ce463c41"), looks := true }, kinds := [], alts := [], laidByText := true, laidKinds := [.data, .data, .data, .data, .sentinel, .sentinel, .widerDeep, .pinned], laidTests := true, laidLooks := .later }
def TriePlaysCardSaid : Prop := Claim7.holds Tryz.pinned (.plain (OpenSpec.ofChange triePlaysSpec)) triePlaysCard

/-- THE TIED CARD OF 'hagioscopelaw18.TrieFinds'. -/
def trieFindsCard : Claim7 := { stood := { row := trieFindsRow, standIns := [], harness := (true, "adf20e67dbede3e1a314640aa93429c27aa58bfb21419e23b15edd19ce463c41"), looks := true }, kinds := [], alts := [], laidByText := true, laidKinds := [.data, .data, .data, .data, .sentinel, .sentinel, .widerDeep, .pinned], laidTests := true, laidLooks := .later }
def TrieFindsCardSaid : Prop := Claim7.holds Tryz.pinned (.plain (OpenSpec.ofChange trieFindsSpec)) trieFindsCard

/-- THE TIED CARD OF 'hagioscopelaw18.TrieOrder'. -/
def trieOrderCard : Claim7 := { stood := { row := trieOrderRow, standIns := [], harness := (true, "adf20e67dbede3e1a314640aa93429c27aa58bfb21419e23b15edd19ce463c41"), looks := true }, kinds := [], alts := [], laidByText := true, laidKinds := [.data, .data, .data, .data, .sentinel, .sentinel, .widerDeep, .pinned], laidTests := true, laidLooks := .later }
def TrieOrderCardSaid : Prop := Claim7.holds Tryz.pinned (.plain (OpenSpec.ofChange trieOrderSpec)) trieOrderCard

/-- THE TIED CARD OF 'hagioscopelaw18.TrieAll'. -/
def trieAllCard : Claim7 := { stood := { row := trieAllRow, standIns := [], harness := (true, "adf20e67dbede3e1a314640aa93429c27aa58bfb21419e23b15edd19ce463c41"), looks := true }, kinds := [], alts := [], laidByText := true, laidKinds := [.data, .data, .data, .data, .sentinel, .sentinel, .widerDeep, .pinned], laidTests := true, laidLooks := .later }
def TrieAllCardSaid : Prop := Claim7.holds Tryz.pinned (.plain (OpenSpec.ofChange trieAllSpec)) trieAllCard

/-- THE TIED CARD OF 'hagioscopelaw18.TriePatterns'. -/
def triePatternsCard : Claim7 := { stood := { row := triePatternsRow, standIns := [], harness := (true, "adf20e67dbede3e1a314640aa93429c27aa58bfb21419e23b15edd19ce463c41"), looks := true }, kinds := [], alts := [], laidByText := true, laidKinds := [.data, .data, .data, .data, .sentinel, .sentinel, .widerDeep, .pinned], laidTests := true, laidLooks := .later }
def TriePatternsCardSaid : Prop := Claim7.holds Tryz.pinned (.plain (OpenSpec.ofChange triePatternsSpec)) triePatternsCard

/-- THE SECOND FORM's CARD OF 'hagioscopelaw14.NameTells'. -/
def nameTellsUptoCard : Claim7 := { stood := { row := nameTellsUptoRow, standIns := [], harness := (true, "adf20e67dbede3e1a314640aa93429c27aa58bfb21419e23b15edd19ce463c41"), looks := true }, kinds := [], alts := [], laidByText := true, laidKinds := [.data, .data, .data, .data, .sentinel, .sentinel, .widerDeep, .pinned], laidTests := true, laidLooks := .later }
def NameTellsUptoCardSaid : Prop := Claim7.holds Tryz.pinned (.plain (OpenSpec.upto nameTellsSpec)) nameTellsUptoCard

/-- THE SECOND FORM's CARD OF 'hagioscopelaw18.TrieTells'. -/
def trieTellsUptoCard : Claim7 := { stood := { row := trieTellsUptoRow, standIns := [], harness := (true, "adf20e67dbede3e1a314640aa93429c27aa58bfb21419e23b15edd19ce463c41"), looks := true }, kinds := [], alts := [], laidByText := true, laidKinds := [.data, .data, .data, .data, .sentinel, .sentinel, .widerDeep, .pinned], laidTests := true, laidLooks := .later }
def TrieTellsUptoCardSaid : Prop := Claim7.holds Tryz.pinned (.plain (OpenSpec.upto trieTellsSpec)) trieTellsUptoCard

/-- THE SECOND FORM's CARD OF 'hagioscopelaw18.TriePlays'. -/
def triePlaysUptoCard : Claim7 := { stood := { row := triePlaysUptoRow, standIns := [], harness := (true, "adf20e67dbede3e1a314640aa93429c27aa58bfb21419e23b15edd19ce463c41"), looks := true }, kinds := [], alts := [], laidByText := true, laidKinds := [.data, .data, .data, .data, .sentinel, .sentinel, .widerDeep, .pinned], laidTests := true, laidLooks := .later }
def TriePlaysUptoCardSaid : Prop := Claim7.holds Tryz.pinned (.plain (OpenSpec.upto triePlaysSpec)) triePlaysUptoCard

/-- THE SECOND FORM's CARD OF 'hagioscopelaw18.TrieFinds'. -/
def trieFindsUptoCard : Claim7 := { stood := { row := trieFindsUptoRow, standIns := [], harness := (true, "adf20e67dbede3e1a314640aa93429c27aa58bfb21419e23b15edd19ce463c41"), looks := true }, kinds := [], alts := [], laidByText := true, laidKinds := [.data, .data, .data, .data, .sentinel, .sentinel, .widerDeep, .pinned], laidTests := true, laidLooks := .later }
def TrieFindsUptoCardSaid : Prop := Claim7.holds Tryz.pinned (.plain (OpenSpec.upto trieFindsSpec)) trieFindsUptoCard

/-- THE SECOND FORM's CARD OF 'hagioscopelaw18.TrieOrder'. -/
def trieOrderUptoCard : Claim7 := { stood := { row := trieOrderUptoRow, standIns := [], harness := (true, "adf20e67dbede3e1a314640aa93429c27aa58bfb21419e23b15edd19ce463c41"), looks := true }, kinds := [], alts := [], laidByText := true, laidKinds := [.data, .data, .data, .data, .sentinel, .sentinel, .widerDeep, .pinned], laidTests := true, laidLooks := .later }
def TrieOrderUptoCardSaid : Prop := Claim7.holds Tryz.pinned (.plain (OpenSpec.upto trieOrderSpec)) trieOrderUptoCard

/-- THE SECOND FORM's CARD OF 'hagioscopelaw18.TrieAll'. -/
def trieAllUptoCard : Claim7 := { stood := { row := trieAllUptoRow, standIns := [], harness := (true, "adf20e67dbede3e1a314640aa93429c27aa58bfb21419e23b15edd19ce463c41"), looks := true }, kinds := [], alts := [], laidByText := true, laidKinds := [.data, .data, .data, .data, .sentinel, .sentinel, .widerDeep, .pinned], laidTests := true, laidLooks := .later }
def TrieAllUptoCardSaid : Prop := Claim7.holds Tryz.pinned (.plain (OpenSpec.upto trieAllSpec)) trieAllUptoCard

/-- THE SECOND FORM's CARD OF 'hagioscopelaw18.TriePatterns'. -/
def triePatternsUptoCard : Claim7 := { stood := { row := triePatternsUptoRow, standIns := [], harness := (true, "adf20e67dbede3e1a314640aa93429c27aa58bfb21419e23b15edd19ce463c41"), looks := true }, kinds := [], alts := [], laidByText := true, laidKinds := [.data, .data, .data, .data, .sentinel, .sentinel, .widerDeep, .pinned], laidTests := true, laidLooks := .later }
def TriePatternsUptoCardSaid : Prop := Claim7.holds Tryz.pinned (.plain (OpenSpec.upto triePatternsSpec)) triePatternsUptoCard
end Rows
end Go.Proofs.YtabkbpckehdiaaaGreatDoor
