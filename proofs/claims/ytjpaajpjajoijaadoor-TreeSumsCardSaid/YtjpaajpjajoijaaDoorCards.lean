/-
  DERIVED. GIVEN WITH THE SEED: THE CARDS: each row of YtjpaajpjajoijaaDoorRows.lean that lists a variable, with what it lists TIED to the program's text (the seventh form; the later family's looks); each row that meets fmt, with fmt's text TOLD by the authors' own Lean function (tested against real Go, not proved from fmt's source: count such statements apart). THE CARD IS WHAT COUNTS. Prove the row's statement (the work); the ties are given (YtjpaajpjajoijaaDoorTie.lean); close each card by the builder's one call (the guide's Derived/Test/ToyasCard.lean, 'card_holds'). Laid BY PROGRAM, IN A SANDBOX (cutbox-door.mjs). By AI agents, Wed Nov 11 2026. No macro, syntax, notation, axiom, sorry.
-/
import Derived.Test.YtjpaajpjajoijaaDoorRows
import GoSem.ClaimSeven
namespace Go.Proofs.YtjpaajpjajoijaaDoor
namespace Rows

/-- THE TIED CARD OF 'bloomerylaw05.TreeGoes'. -/
def treeGoesCard : Claim7 := { stood := { row := treeGoesRow, standIns := [], harness := (true, "971c6068965595d6fea3515aaf21457a8f139eaa0a0724680141d4e83ff83b49"), looks := false }, kinds := [], alts := [], laidByText := true, laidKinds := [.data, .pinned], laidTests := true, laidLooks := .later }
def TreeGoesCardSaid : Prop := Claim7.holds Tryd.pinned (.plain (OpenSpec.ofChange treeGoesSpec)) treeGoesCard

/-- THE TIED CARD OF 'bloomerylaw05.TreeSums'. -/
def treeSumsCard : Claim7 := { stood := { row := treeSumsRow, standIns := [], harness := (true, "971c6068965595d6fea3515aaf21457a8f139eaa0a0724680141d4e83ff83b49"), looks := false }, kinds := [], alts := [], laidByText := true, laidKinds := [.data, .data, .data, .data, .pinned], laidTests := true, laidLooks := .later }
def TreeSumsCardSaid : Prop := Claim7.holds Tryd.pinned (.plain (OpenSpec.ofChange treeSumsSpec)) treeSumsCard

/-- THE TIED CARD OF 'bloomerylaw05.TreeChecks'. -/
def treeChecksCard : Claim7 := { stood := { row := treeChecksRow, standIns := [], harness := (true, "971c6068965595d6fea3515aaf21457a8f139eaa0a0724680141d4e83ff83b49"), looks := false }, kinds := [], alts := [], laidByText := true, laidKinds := [.data, .pinned], laidTests := true, laidLooks := .later }
def TreeChecksCardSaid : Prop := Claim7.holds Tryd.pinned (.plain (OpenSpec.ofChange treeChecksSpec)) treeChecksCard

/-- THE TIED CARD OF 'bloomerylaw03.PathMay'. -/
def pathMayCard : Claim7 := { stood := { row := pathMayRow, standIns := [], harness := (true, "971c6068965595d6fea3515aaf21457a8f139eaa0a0724680141d4e83ff83b49"), looks := false }, kinds := [], alts := [], laidByText := true, laidKinds := [.data, .pinned], laidTests := true, laidLooks := .later }
def PathMayCardSaid : Prop := Claim7.holds Tryd.pinned (.plain (OpenSpec.ofChange pathMaySpec)) pathMayCard

/-- THE TIED CARD OF 'bloomerylaw03.PathJoins'. -/
def pathJoinsCard : Claim7 := { stood := { row := pathJoinsRow, standIns := [], harness := (true, "971c6068965595d6fea3515aaf21457a8f139eaa0a0724680141d4e83ff83b49"), looks := false }, kinds := [], alts := [], laidByText := true, laidKinds := [.data, .pinned], laidTests := true, laidLooks := .later }
def PathJoinsCardSaid : Prop := Claim7.holds Tryd.pinned (.plain (OpenSpec.ofChange pathJoinsSpec)) pathJoinsCard

/-- THE TIED CARD OF 'bloomerylaw03.PathUnder'. -/
def pathUnderCard : Claim7 := { stood := { row := pathUnderRow, standIns := [], harness := (true, "971c6068965595d6fea3515aaf21457a8f139eaa0a0724680141d4e83ff83b49"), looks := false }, kinds := [], alts := [], laidByText := true, laidKinds := [.data, .pinned], laidTests := true, laidLooks := .later }
def PathUnderCardSaid : Prop := Claim7.holds Tryd.pinned (.plain (OpenSpec.ofChange pathUnderSpec)) pathUnderCard

/-- THE TIED CARD OF 'bloomerylaw03.PathParts'. -/
def pathPartsCard : Claim7 := { stood := { row := pathPartsRow, standIns := [], harness := (true, "971c6068965595d6fea3515aaf21457a8f139eaa0a0724680141d4e83ff83b49"), looks := false }, kinds := [], alts := [], laidByText := true, laidKinds := [.data, .pinned], laidTests := true, laidLooks := .later }
def PathPartsCardSaid : Prop := Claim7.holds Tryd.pinned (.plain (OpenSpec.ofChange pathPartsSpec)) pathPartsCard

/-- THE TIED CARD OF 'bloomerylaw03.PathAbove'. -/
def pathAboveCard : Claim7 := { stood := { row := pathAboveRow, standIns := [], harness := (true, "971c6068965595d6fea3515aaf21457a8f139eaa0a0724680141d4e83ff83b49"), looks := false }, kinds := [], alts := [], laidByText := true, laidKinds := [.data, .pinned], laidTests := true, laidLooks := .later }
def PathAboveCardSaid : Prop := Claim7.holds Tryd.pinned (.plain (OpenSpec.ofChange pathAboveSpec)) pathAboveCard

/-- THE TIED CARD OF 'bloomerylaw05.TreeGets'. -/
def treeGetsCard : Claim7 := { stood := { row := treeGetsRow, standIns := [], harness := (true, "971c6068965595d6fea3515aaf21457a8f139eaa0a0724680141d4e83ff83b49"), looks := false }, kinds := [], alts := [], laidByText := true, laidKinds := [.data, .pinned], laidTests := true, laidLooks := .later }
def TreeGetsCardSaid : Prop := Claim7.holds Tryd.pinned (.plain (OpenSpec.ofChange treeGetsSpec)) treeGetsCard

/-- THE TIED CARD OF 'bloomerylaw05.TreeDiffs'. -/
def treeDiffsCard : Claim7 := { stood := { row := treeDiffsRow, standIns := [], harness := (true, "971c6068965595d6fea3515aaf21457a8f139eaa0a0724680141d4e83ff83b49"), looks := false }, kinds := [], alts := [], laidByText := true, laidKinds := [.data, .pinned], laidTests := true, laidLooks := .later }
def TreeDiffsCardSaid : Prop := Claim7.holds Tryd.pinned (.plain (OpenSpec.ofChange treeDiffsSpec)) treeDiffsCard

/-- THE TIED CARD OF 'bloomerylaw05.TreePuts'. -/
def treePutsCard : Claim7 := { stood := { row := treePutsRow, standIns := [], harness := (true, "971c6068965595d6fea3515aaf21457a8f139eaa0a0724680141d4e83ff83b49"), looks := false }, kinds := [], alts := [], laidByText := true, laidKinds := [.data, .pinned], laidTests := true, laidLooks := .later }
def TreePutsCardSaid : Prop := Claim7.holds Tryd.pinned (.plain (OpenSpec.ofChange treePutsSpec)) treePutsCard

/-- THE SECOND FORM's CARD OF 'bloomerylaw05.TreeGoes'. -/
def treeGoesUptoCard : Claim7 := { stood := { row := treeGoesUptoRow, standIns := [], harness := (true, "971c6068965595d6fea3515aaf21457a8f139eaa0a0724680141d4e83ff83b49"), looks := false }, kinds := [], alts := [], laidByText := true, laidKinds := [.data, .pinned], laidTests := true, laidLooks := .later }
def TreeGoesUptoCardSaid : Prop := Claim7.holds Tryd.pinned (.plain (OpenSpec.upto treeGoesSpec)) treeGoesUptoCard

/-- THE SECOND FORM's CARD OF 'bloomerylaw05.TreeSums'. -/
def treeSumsUptoCard : Claim7 := { stood := { row := treeSumsUptoRow, standIns := [], harness := (true, "971c6068965595d6fea3515aaf21457a8f139eaa0a0724680141d4e83ff83b49"), looks := false }, kinds := [], alts := [], laidByText := true, laidKinds := [.data, .data, .data, .data, .pinned], laidTests := true, laidLooks := .later }
def TreeSumsUptoCardSaid : Prop := Claim7.holds Tryd.pinned (.plain (OpenSpec.upto treeSumsSpec)) treeSumsUptoCard

/-- THE SECOND FORM's CARD OF 'bloomerylaw05.TreeChecks'. -/
def treeChecksUptoCard : Claim7 := { stood := { row := treeChecksUptoRow, standIns := [], harness := (true, "971c6068965595d6fea3515aaf21457a8f139eaa0a0724680141d4e83ff83b49"), looks := false }, kinds := [], alts := [], laidByText := true, laidKinds := [.data, .pinned], laidTests := true, laidLooks := .later }
def TreeChecksUptoCardSaid : Prop := Claim7.holds Tryd.pinned (.plain (OpenSpec.upto treeChecksSpec)) treeChecksUptoCard

/-- THE SECOND FORM's CARD OF 'bloomerylaw03.PathMay'. -/
def pathMayUptoCard : Claim7 := { stood := { row := pathMayUptoRow, standIns := [], harness := (true, "971c6068965595d6fea3515aaf21457a8f139eaa0a0724680141d4e83ff83b49"), looks := false }, kinds := [], alts := [], laidByText := true, laidKinds := [.data, .pinned], laidTests := true, laidLooks := .later }
def PathMayUptoCardSaid : Prop := Claim7.holds Tryd.pinned (.plain (OpenSpec.upto pathMaySpec)) pathMayUptoCard

/-- THE SECOND FORM's CARD OF 'bloomerylaw03.PathJoins'. -/
def pathJoinsUptoCard : Claim7 := { stood := { row := pathJoinsUptoRow, standIns := [], harness := (true, "971c6068965595d6fea3515aaf21457a8f139eaa0a0724680141d4e83ff83b49"), looks := false }, kinds := [], alts := [], laidByText := true, laidKinds := [.data, .pinned], laidTests := true, laidLooks := .later }
def PathJoinsUptoCardSaid : Prop := Claim7.holds Tryd.pinned (.plain (OpenSpec.upto pathJoinsSpec)) pathJoinsUptoCard

/-- THE SECOND FORM's CARD OF 'bloomerylaw03.PathUnder'. -/
def pathUnderUptoCard : Claim7 := { stood := { row := pathUnderUptoRow, standIns := [], harness := (true, "971c6068965595d6fea3515aaf21457a8f139eaa0a0724680141d4e83ff83b49"), looks := false }, kinds := [], alts := [], laidByText := true, laidKinds := [.data, .pinned], laidTests := true, laidLooks := .later }
def PathUnderUptoCardSaid : Prop := Claim7.holds Tryd.pinned (.plain (OpenSpec.upto pathUnderSpec)) pathUnderUptoCard

/-- THE SECOND FORM's CARD OF 'bloomerylaw03.PathParts'. -/
def pathPartsUptoCard : Claim7 := { stood := { row := pathPartsUptoRow, standIns := [], harness := (true, "971c6068965595d6fea3515aaf21457a8f139eaa0a0724680141d4e83ff83b49"), looks := false }, kinds := [], alts := [], laidByText := true, laidKinds := [.data, .pinned], laidTests := true, laidLooks := .later }
def PathPartsUptoCardSaid : Prop := Claim7.holds Tryd.pinned (.plain (OpenSpec.upto pathPartsSpec)) pathPartsUptoCard

/-- THE SECOND FORM's CARD OF 'bloomerylaw03.PathAbove'. -/
def pathAboveUptoCard : Claim7 := { stood := { row := pathAboveUptoRow, standIns := [], harness := (true, "971c6068965595d6fea3515aaf21457a8f139eaa0a0724680141d4e83ff83b49"), looks := false }, kinds := [], alts := [], laidByText := true, laidKinds := [.data, .pinned], laidTests := true, laidLooks := .later }
def PathAboveUptoCardSaid : Prop := Claim7.holds Tryd.pinned (.plain (OpenSpec.upto pathAboveSpec)) pathAboveUptoCard

/-- THE SECOND FORM's CARD OF 'bloomerylaw05.TreeGets'. -/
def treeGetsUptoCard : Claim7 := { stood := { row := treeGetsUptoRow, standIns := [], harness := (true, "971c6068965595d6fea3515aaf21457a8f139eaa0a0724680141d4e83ff83b49"), looks := false }, kinds := [], alts := [], laidByText := true, laidKinds := [.data, .pinned], laidTests := true, laidLooks := .later }
def TreeGetsUptoCardSaid : Prop := Claim7.holds Tryd.pinned (.plain (OpenSpec.upto treeGetsSpec)) treeGetsUptoCard

/-- THE SECOND FORM's CARD OF 'bloomerylaw05.TreeDiffs'. -/
def treeDiffsUptoCard : Claim7 := { stood := { row := treeDiffsUptoRow, standIns := [], harness := (true, "971c6068965595d6fea3515aaf21457a8f139eaa0a0724680141d4e83ff83b49"), looks := false }, kinds := [], alts := [], laidByText := true, laidKinds := [.data, .pinned], laidTests := true, laidLooks := .later }
def TreeDiffsUptoCardSaid : Prop := Claim7.holds Tryd.pinned (.plain (OpenSpec.upto treeDiffsSpec)) treeDiffsUptoCard

/-- THE SECOND FORM's CARD OF 'bloomerylaw05.TreePuts'. -/
def treePutsUptoCard : Claim7 := { stood := { row := treePutsUptoRow, standIns := [], harness := (true, "971c6068965595d6fea3515aaf21457a8f139eaa0a0724680141d4e83ff83b49"), looks := false }, kinds := [], alts := [], laidByText := true, laidKinds := [.data, .pinned], laidTests := true, laidLooks := .later }
def TreePutsUptoCardSaid : Prop := Claim7.holds Tryd.pinned (.plain (OpenSpec.upto treePutsSpec)) treePutsUptoCard
end Rows
end Go.Proofs.YtjpaajpjajoijaaDoor
