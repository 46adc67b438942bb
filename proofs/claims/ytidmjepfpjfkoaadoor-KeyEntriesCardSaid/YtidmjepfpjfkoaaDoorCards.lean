/-
  DERIVED. GIVEN WITH THE SEED: THE CARDS: each row of YtidmjepfpjfkoaaDoorRows.lean that lists a variable, with what it lists TIED to the program's text (the seventh form; the later family's looks); each row that meets fmt, with fmt's text TOLD by the authors' own Lean function (tested against real Go, not proved from fmt's source: count such statements apart). THE CARD IS WHAT COUNTS. Prove the row's statement (the work); the ties are given (YtidmjepfpjfkoaaDoorTie.lean); close each card by the builder's one call (the guide's Derived/Test/ToyasCard.lean, 'card_holds'). Laid BY PROGRAM, IN A SANDBOX (cutbox-door.mjs). By AI agents, Wed Nov 11 2026. No macro, syntax, notation, axiom, sorry.
-/
import Derived.Test.YtidmjepfpjfkoaaDoorRows
import GoSem.ClaimSeven
namespace Go.Proofs.YtidmjepfpjfkoaaDoor
namespace Rows

/-- THE TIED CARD OF 'shoalsynclaw12.DecideTells'. -/
def decideTellsCard : Claim7 := { stood := { row := decideTellsRow, standIns := [], harness := (true, "615afde759b655c9e81fcf0e512cc6e73dcc4bacacf0036bea55ad33d3cd93c3"), looks := false }, kinds := [], alts := [], laidByText := true, laidKinds := [.data, .pinned], laidTests := true, laidLooks := .later }
def DecideTellsCardSaid : Prop := Claim7.holds Tryd.pinned (.plain (OpenSpec.ofChange decideTellsSpec)) decideTellsCard

/-- THE TIED CARD OF 'shoalsynclaw12.DecideMeets'. -/
def decideMeetsCard : Claim7 := { stood := { row := decideMeetsRow, standIns := [], harness := (true, "615afde759b655c9e81fcf0e512cc6e73dcc4bacacf0036bea55ad33d3cd93c3"), looks := false }, kinds := [], alts := [], laidByText := true, laidKinds := [.data, .pinned], laidTests := true, laidLooks := .later }
def DecideMeetsCardSaid : Prop := Claim7.holds Tryd.pinned (.plain (OpenSpec.ofChange decideMeetsSpec)) decideMeetsCard

/-- THE TIED CARD OF 'shoalsynclaw12.DecideOrder'. -/
def decideOrderCard : Claim7 := { stood := { row := decideOrderRow, standIns := [], harness := (true, "615afde759b655c9e81fcf0e512cc6e73dcc4bacacf0036bea55ad33d3cd93c3"), looks := false }, kinds := [], alts := [], laidByText := true, laidKinds := [.data, .pinned], laidTests := true, laidLooks := .later }
def DecideOrderCardSaid : Prop := Claim7.holds Tryd.pinned (.plain (OpenSpec.ofChange decideOrderSpec)) decideOrderCard

/-- THE TIED CARD OF 'shoalsynclaw12.DecideLeaves'. -/
def decideLeavesCard : Claim7 := { stood := { row := decideLeavesRow, standIns := [], harness := (true, "615afde759b655c9e81fcf0e512cc6e73dcc4bacacf0036bea55ad33d3cd93c3"), looks := false }, kinds := [], alts := [], laidByText := true, laidKinds := [.data, .pinned], laidTests := true, laidLooks := .later }
def DecideLeavesCardSaid : Prop := Claim7.holds Tryd.pinned (.plain (OpenSpec.ofChange decideLeavesSpec)) decideLeavesCard

/-- THE TIED CARD OF 'shoalsynclaw04.KeyTells'. -/
def keyTellsCard : Claim7 := { stood := { row := keyTellsRow, standIns := [], harness := (true, "615afde759b655c9e81fcf0e512cc6e73dcc4bacacf0036bea55ad33d3cd93c3"), looks := false }, kinds := [], alts := [], laidByText := true, laidKinds := [.data, .pinned], laidTests := true, laidLooks := .later }
def KeyTellsCardSaid : Prop := Claim7.holds Tryd.pinned (.plain (OpenSpec.ofChange keyTellsSpec)) keyTellsCard

/-- THE TIED CARD OF 'shoalsynclaw04.KeyFolds'. -/
def keyFoldsCard : Claim7 := { stood := { row := keyFoldsRow, standIns := [], harness := (true, "615afde759b655c9e81fcf0e512cc6e73dcc4bacacf0036bea55ad33d3cd93c3"), looks := false }, kinds := [], alts := [], laidByText := true, laidKinds := [.data, .pinned], laidTests := true, laidLooks := .later }
def KeyFoldsCardSaid : Prop := Claim7.holds Tryd.pinned (.plain (OpenSpec.ofChange keyFoldsSpec)) keyFoldsCard

/-- THE TIED CARD OF 'shoalsynclaw04.KeyBack'. -/
def keyBackCard : Claim7 := { stood := { row := keyBackRow, standIns := [], harness := (true, "615afde759b655c9e81fcf0e512cc6e73dcc4bacacf0036bea55ad33d3cd93c3"), looks := false }, kinds := [], alts := [], laidByText := true, laidKinds := [.data, .pinned], laidTests := true, laidLooks := .later }
def KeyBackCardSaid : Prop := Claim7.holds Tryd.pinned (.plain (OpenSpec.ofChange keyBackSpec)) keyBackCard

/-- THE TIED CARD OF 'shoalsynclaw04.KeyEntries'. -/
def keyEntriesCard : Claim7 := { stood := { row := keyEntriesRow, standIns := [], harness := (true, "615afde759b655c9e81fcf0e512cc6e73dcc4bacacf0036bea55ad33d3cd93c3"), looks := false }, kinds := [], alts := [], laidByText := true, laidKinds := [.data, .pinned], laidTests := true, laidLooks := .later }
def KeyEntriesCardSaid : Prop := Claim7.holds Tryd.pinned (.plain (OpenSpec.ofChange keyEntriesSpec)) keyEntriesCard

/-- THE TIED CARD OF 'shoalsynclaw03.PathTells'. -/
def pathTellsCard : Claim7 := { stood := { row := pathTellsRow, standIns := [], harness := (true, "615afde759b655c9e81fcf0e512cc6e73dcc4bacacf0036bea55ad33d3cd93c3"), looks := false }, kinds := [], alts := [], laidByText := true, laidKinds := [.data, .pinned], laidTests := true, laidLooks := .later }
def PathTellsCardSaid : Prop := Claim7.holds Tryd.pinned (.plain (OpenSpec.ofChange pathTellsSpec)) pathTellsCard

/-- THE TIED CARD OF 'shoalsynclaw03.PathOrders'. -/
def pathOrdersCard : Claim7 := { stood := { row := pathOrdersRow, standIns := [], harness := (true, "615afde759b655c9e81fcf0e512cc6e73dcc4bacacf0036bea55ad33d3cd93c3"), looks := false }, kinds := [], alts := [], laidByText := true, laidKinds := [.data, .pinned], laidTests := true, laidLooks := .later }
def PathOrdersCardSaid : Prop := Claim7.holds Tryd.pinned (.plain (OpenSpec.ofChange pathOrdersSpec)) pathOrdersCard

/-- THE TIED CARD OF 'shoalsynclaw03.PathBack'. -/
def pathBackCard : Claim7 := { stood := { row := pathBackRow, standIns := [], harness := (true, "615afde759b655c9e81fcf0e512cc6e73dcc4bacacf0036bea55ad33d3cd93c3"), looks := false }, kinds := [], alts := [], laidByText := true, laidKinds := [.data, .pinned], laidTests := true, laidLooks := .later }
def PathBackCardSaid : Prop := Claim7.holds Tryd.pinned (.plain (OpenSpec.ofChange pathBackSpec)) pathBackCard

/-- THE TIED CARD OF 'shoalsynclaw03.PathChain'. -/
def pathChainCard : Claim7 := { stood := { row := pathChainRow, standIns := [], harness := (true, "615afde759b655c9e81fcf0e512cc6e73dcc4bacacf0036bea55ad33d3cd93c3"), looks := false }, kinds := [], alts := [], laidByText := true, laidKinds := [.data, .pinned], laidTests := true, laidLooks := .later }
def PathChainCardSaid : Prop := Claim7.holds Tryd.pinned (.plain (OpenSpec.ofChange pathChainSpec)) pathChainCard

/-- THE SECOND FORM's CARD OF 'shoalsynclaw12.DecideTells'. -/
def decideTellsUptoCard : Claim7 := { stood := { row := decideTellsUptoRow, standIns := [], harness := (true, "615afde759b655c9e81fcf0e512cc6e73dcc4bacacf0036bea55ad33d3cd93c3"), looks := false }, kinds := [], alts := [], laidByText := true, laidKinds := [.data, .pinned], laidTests := true, laidLooks := .later }
def DecideTellsUptoCardSaid : Prop := Claim7.holds Tryd.pinned (.plain (OpenSpec.upto decideTellsSpec)) decideTellsUptoCard

/-- THE SECOND FORM's CARD OF 'shoalsynclaw12.DecideMeets'. -/
def decideMeetsUptoCard : Claim7 := { stood := { row := decideMeetsUptoRow, standIns := [], harness := (true, "615afde759b655c9e81fcf0e512cc6e73dcc4bacacf0036bea55ad33d3cd93c3"), looks := false }, kinds := [], alts := [], laidByText := true, laidKinds := [.data, .pinned], laidTests := true, laidLooks := .later }
def DecideMeetsUptoCardSaid : Prop := Claim7.holds Tryd.pinned (.plain (OpenSpec.upto decideMeetsSpec)) decideMeetsUptoCard

/-- THE SECOND FORM's CARD OF 'shoalsynclaw12.DecideOrder'. -/
def decideOrderUptoCard : Claim7 := { stood := { row := decideOrderUptoRow, standIns := [], harness := (true, "615afde759b655c9e81fcf0e512cc6e73dcc4bacacf0036bea55ad33d3cd93c3"), looks := false }, kinds := [], alts := [], laidByText := true, laidKinds := [.data, .pinned], laidTests := true, laidLooks := .later }
def DecideOrderUptoCardSaid : Prop := Claim7.holds Tryd.pinned (.plain (OpenSpec.upto decideOrderSpec)) decideOrderUptoCard

/-- THE SECOND FORM's CARD OF 'shoalsynclaw12.DecideLeaves'. -/
def decideLeavesUptoCard : Claim7 := { stood := { row := decideLeavesUptoRow, standIns := [], harness := (true, "615afde759b655c9e81fcf0e512cc6e73dcc4bacacf0036bea55ad33d3cd93c3"), looks := false }, kinds := [], alts := [], laidByText := true, laidKinds := [.data, .pinned], laidTests := true, laidLooks := .later }
def DecideLeavesUptoCardSaid : Prop := Claim7.holds Tryd.pinned (.plain (OpenSpec.upto decideLeavesSpec)) decideLeavesUptoCard

/-- THE SECOND FORM's CARD OF 'shoalsynclaw04.KeyTells'. -/
def keyTellsUptoCard : Claim7 := { stood := { row := keyTellsUptoRow, standIns := [], harness := (true, "615afde759b655c9e81fcf0e512cc6e73dcc4bacacf0036bea55ad33d3cd93c3"), looks := false }, kinds := [], alts := [], laidByText := true, laidKinds := [.data, .pinned], laidTests := true, laidLooks := .later }
def KeyTellsUptoCardSaid : Prop := Claim7.holds Tryd.pinned (.plain (OpenSpec.upto keyTellsSpec)) keyTellsUptoCard

/-- THE SECOND FORM's CARD OF 'shoalsynclaw04.KeyFolds'. -/
def keyFoldsUptoCard : Claim7 := { stood := { row := keyFoldsUptoRow, standIns := [], harness := (true, "615afde759b655c9e81fcf0e512cc6e73dcc4bacacf0036bea55ad33d3cd93c3"), looks := false }, kinds := [], alts := [], laidByText := true, laidKinds := [.data, .pinned], laidTests := true, laidLooks := .later }
def KeyFoldsUptoCardSaid : Prop := Claim7.holds Tryd.pinned (.plain (OpenSpec.upto keyFoldsSpec)) keyFoldsUptoCard

/-- THE SECOND FORM's CARD OF 'shoalsynclaw04.KeyBack'. -/
def keyBackUptoCard : Claim7 := { stood := { row := keyBackUptoRow, standIns := [], harness := (true, "615afde759b655c9e81fcf0e512cc6e73dcc4bacacf0036bea55ad33d3cd93c3"), looks := false }, kinds := [], alts := [], laidByText := true, laidKinds := [.data, .pinned], laidTests := true, laidLooks := .later }
def KeyBackUptoCardSaid : Prop := Claim7.holds Tryd.pinned (.plain (OpenSpec.upto keyBackSpec)) keyBackUptoCard

/-- THE SECOND FORM's CARD OF 'shoalsynclaw04.KeyEntries'. -/
def keyEntriesUptoCard : Claim7 := { stood := { row := keyEntriesUptoRow, standIns := [], harness := (true, "615afde759b655c9e81fcf0e512cc6e73dcc4bacacf0036bea55ad33d3cd93c3"), looks := false }, kinds := [], alts := [], laidByText := true, laidKinds := [.data, .pinned], laidTests := true, laidLooks := .later }
def KeyEntriesUptoCardSaid : Prop := Claim7.holds Tryd.pinned (.plain (OpenSpec.upto keyEntriesSpec)) keyEntriesUptoCard

/-- THE SECOND FORM's CARD OF 'shoalsynclaw03.PathTells'. -/
def pathTellsUptoCard : Claim7 := { stood := { row := pathTellsUptoRow, standIns := [], harness := (true, "615afde759b655c9e81fcf0e512cc6e73dcc4bacacf0036bea55ad33d3cd93c3"), looks := false }, kinds := [], alts := [], laidByText := true, laidKinds := [.data, .pinned], laidTests := true, laidLooks := .later }
def PathTellsUptoCardSaid : Prop := Claim7.holds Tryd.pinned (.plain (OpenSpec.upto pathTellsSpec)) pathTellsUptoCard

/-- THE SECOND FORM's CARD OF 'shoalsynclaw03.PathOrders'. -/
def pathOrdersUptoCard : Claim7 := { stood := { row := pathOrdersUptoRow, standIns := [], harness := (true, "615afde759b655c9e81fcf0e512cc6e73dcc4bacacf0036bea55ad33d3cd93c3"), looks := false }, kinds := [], alts := [], laidByText := true, laidKinds := [.data, .pinned], laidTests := true, laidLooks := .later }
def PathOrdersUptoCardSaid : Prop := Claim7.holds Tryd.pinned (.plain (OpenSpec.upto pathOrdersSpec)) pathOrdersUptoCard

/-- THE SECOND FORM's CARD OF 'shoalsynclaw03.PathBack'. -/
def pathBackUptoCard : Claim7 := { stood := { row := pathBackUptoRow, standIns := [], harness := (true, "615afde759b655c9e81fcf0e512cc6e73dcc4bacacf0036bea55ad33d3cd93c3"), looks := false }, kinds := [], alts := [], laidByText := true, laidKinds := [.data, .pinned], laidTests := true, laidLooks := .later }
def PathBackUptoCardSaid : Prop := Claim7.holds Tryd.pinned (.plain (OpenSpec.upto pathBackSpec)) pathBackUptoCard

/-- THE SECOND FORM's CARD OF 'shoalsynclaw03.PathChain'. -/
def pathChainUptoCard : Claim7 := { stood := { row := pathChainUptoRow, standIns := [], harness := (true, "615afde759b655c9e81fcf0e512cc6e73dcc4bacacf0036bea55ad33d3cd93c3"), looks := false }, kinds := [], alts := [], laidByText := true, laidKinds := [.data, .pinned], laidTests := true, laidLooks := .later }
def PathChainUptoCardSaid : Prop := Claim7.holds Tryd.pinned (.plain (OpenSpec.upto pathChainSpec)) pathChainUptoCard
end Rows
end Go.Proofs.YtidmjepfpjfkoaaDoor
