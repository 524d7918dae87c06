/-
  DERIVED. GIVEN WITH THE SEED: THE CARDS: each row of YtalndlemejalaaaDoorRows.lean that lists a variable, with what it lists TIED to the program's text (the seventh form; the later family's looks); each row that meets fmt, with fmt's text TOLD by the authors' own Lean function (tested against real Go, not proved from fmt's source: count such statements apart). THE CARD IS WHAT COUNTS. Prove the row's statement (the work); the ties are given (YtalndlemejalaaaDoorTie.lean); close each card by the builder's one call (the guide's Derived/Test/ToyasCard.lean, 'card_holds'). Laid BY PROGRAM, IN A SANDBOX (cutbox-door.mjs). By AI agents, Wed Nov 11 2026. No macro, syntax, notation, axiom, sorry.
-/
import Derived.Test.YtalndlemejalaaaDoorRows
import GoSem.ClaimSeven
namespace Go.Proofs.YtalndlemejalaaaDoor
namespace Rows

/-- THE TIED CARD OF 'groupagelaw03.PackWrites'. -/
def packWritesCard : Claim7 := { stood := { row := packWritesRow, standIns := [], harness := (true, "54529eb23776f700dcaca41db426fec7da9ce3ccc06c57e9835fe81a656c2c57"), looks := true }, kinds := [], alts := [], laidByText := true, laidKinds := [.data, .pinned], laidTests := true, laidLooks := .later }
def PackWritesCardSaid : Prop := Claim7.holds Tryd.pinned (.plain (OpenSpec.ofChange packWritesSpec)) packWritesCard

/-- THE TIED CARD OF 'groupagelaw03.PackReads'. -/
def packReadsCard : Claim7 := { stood := { row := packReadsRow, standIns := [], harness := (true, "54529eb23776f700dcaca41db426fec7da9ce3ccc06c57e9835fe81a656c2c57"), looks := true }, kinds := [], alts := [], laidByText := true, laidKinds := [.data, .pinned], laidTests := true, laidLooks := .later }
def PackReadsCardSaid : Prop := Claim7.holds Tryd.pinned (.plain (OpenSpec.ofChange packReadsSpec)) packReadsCard

/-- THE TIED CARD OF 'groupagelaw03.PackBack'. -/
def packBackCard : Claim7 := { stood := { row := packBackRow, standIns := [], harness := (true, "54529eb23776f700dcaca41db426fec7da9ce3ccc06c57e9835fe81a656c2c57"), looks := true }, kinds := [], alts := [], laidByText := true, laidKinds := [.data, .pinned], laidTests := true, laidLooks := .later }
def PackBackCardSaid : Prop := Claim7.holds Tryd.pinned (.plain (OpenSpec.ofChange packBackSpec)) packBackCard

/-- THE TIED CARD OF 'groupagelaw03.PackCut'. -/
def packCutCard : Claim7 := { stood := { row := packCutRow, standIns := [], harness := (true, "54529eb23776f700dcaca41db426fec7da9ce3ccc06c57e9835fe81a656c2c57"), looks := true }, kinds := [], alts := [], laidByText := true, laidKinds := [.data, .pinned], laidTests := true, laidLooks := .later }
def PackCutCardSaid : Prop := Claim7.holds Tryd.pinned (.plain (OpenSpec.ofChange packCutSpec)) packCutCard

/-- THE SECOND FORM's CARD OF 'groupagelaw03.PackWrites'. -/
def packWritesUptoCard : Claim7 := { stood := { row := packWritesUptoRow, standIns := [], harness := (true, "54529eb23776f700dcaca41db426fec7da9ce3ccc06c57e9835fe81a656c2c57"), looks := true }, kinds := [], alts := [], laidByText := true, laidKinds := [.data, .pinned], laidTests := true, laidLooks := .later }
def PackWritesUptoCardSaid : Prop := Claim7.holds Tryd.pinned (.plain (OpenSpec.upto packWritesSpec)) packWritesUptoCard

/-- THE SECOND FORM's CARD OF 'groupagelaw03.PackReads'. -/
def packReadsUptoCard : Claim7 := { stood := { row := packReadsUptoRow, standIns := [], harness := (true, "54529eb23776f700dcaca41db426fec7da9ce3ccc06c57e9835fe81a656c2c57"), looks := true }, kinds := [], alts := [], laidByText := true, laidKinds := [.data, .pinned], laidTests := true, laidLooks := .later }
def PackReadsUptoCardSaid : Prop := Claim7.holds Tryd.pinned (.plain (OpenSpec.upto packReadsSpec)) packReadsUptoCard

/-- THE SECOND FORM's CARD OF 'groupagelaw03.PackBack'. -/
def packBackUptoCard : Claim7 := { stood := { row := packBackUptoRow, standIns := [], harness := (true, "54529eb23776f700dcaca41db426fec7da9ce3ccc06c57e9835fe81a656c2c57"), looks := true }, kinds := [], alts := [], laidByText := true, laidKinds := [.data, .pinned], laidTests := true, laidLooks := .later }
def PackBackUptoCardSaid : Prop := Claim7.holds Tryd.pinned (.plain (OpenSpec.upto packBackSpec)) packBackUptoCard

/-- THE SECOND FORM's CARD OF 'groupagelaw03.PackCut'. -/
def packCutUptoCard : Claim7 := { stood := { row := packCutUptoRow, standIns := [], harness := (true, "54529eb23776f700dcaca41db426fec7da9ce3ccc06c57e9835fe81a656c2c57"), looks := true }, kinds := [], alts := [], laidByText := true, laidKinds := [.data, .pinned], laidTests := true, laidLooks := .later }
def PackCutUptoCardSaid : Prop := Claim7.holds Tryd.pinned (.plain (OpenSpec.upto packCutSpec)) packCutUptoCard
end Rows
end Go.Proofs.YtalndlemejalaaaDoor
