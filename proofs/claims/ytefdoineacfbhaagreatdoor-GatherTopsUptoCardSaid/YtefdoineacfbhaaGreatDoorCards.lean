/-
  DERIVED. GIVEN WITH THE SEED: THE CARDS: each row of YtefdoineacfbhaaGreatDoorRows.lean that lists a variable, with what it lists TIED to the program's text (the seventh form; the later family's looks); each row that meets fmt, with fmt's text TOLD by the authors' own Lean function (tested against real Go, not proved from fmt's source: count such statements apart). THE CARD IS WHAT COUNTS. Prove the row's statement (the work); the ties are given (YtefdoineacfbhaaGreatDoorTie.lean); close each card by the builder's one call (the guide's Derived/Test/ToyasCard.lean, 'card_holds'). Laid BY PROGRAM, IN A SANDBOX (cutbox-door.mjs). By AI agents, Wed Nov 11 2026. No macro, syntax, notation, axiom, sorry.
-/
import Derived.Test.YtefdoineacfbhaaGreatDoorRows
import GoSem.ClaimSeven
namespace Go.Proofs.YtefdoineacfbhaaGreatDoor
namespace Rows

/-- THE TIED CARD OF 'weirlaw22.GatherAll'. -/
def gatherAllCard : Claim7 := { stood := { row := gatherAllRow, standIns := [], harness := (true, "234d39eb8b580e73a30320350aef986f2104e1277759535474784757c0f0eaf4"), looks := false }, kinds := [], alts := [], laidByText := true, laidKinds := [.data, .data, .data, .data, .pinned, .pinned], laidTests := true, laidLooks := .later }
def GatherAllCardSaid : Prop := Claim7.holds Tryz.pinned (.plain (OpenSpec.ofChange gatherAllSpec)) gatherAllCard

/-- THE TIED CARD OF 'weirlaw22.GatherFresh'. -/
def gatherFreshCard : Claim7 := { stood := { row := gatherFreshRow, standIns := [], harness := (true, "234d39eb8b580e73a30320350aef986f2104e1277759535474784757c0f0eaf4"), looks := false }, kinds := [], alts := [], laidByText := true, laidKinds := [.data, .data, .data, .data, .pinned, .pinned], laidTests := true, laidLooks := .later }
def GatherFreshCardSaid : Prop := Claim7.holds Tryz.pinned (.plain (OpenSpec.ofChange gatherFreshSpec)) gatherFreshCard

/-- THE TIED CARD OF 'weirlaw22.GatherParts'. -/
def gatherPartsCard : Claim7 := { stood := { row := gatherPartsRow, standIns := [], harness := (true, "234d39eb8b580e73a30320350aef986f2104e1277759535474784757c0f0eaf4"), looks := false }, kinds := [], alts := [], laidByText := true, laidKinds := [.data, .data, .data, .data, .pinned, .pinned], laidTests := true, laidLooks := .later }
def GatherPartsCardSaid : Prop := Claim7.holds Tryz.pinned (.plain (OpenSpec.ofChange gatherPartsSpec)) gatherPartsCard

/-- THE TIED CARD OF 'weirlaw22.GatherGroups'. -/
def gatherGroupsCard : Claim7 := { stood := { row := gatherGroupsRow, standIns := [], harness := (true, "234d39eb8b580e73a30320350aef986f2104e1277759535474784757c0f0eaf4"), looks := false }, kinds := [], alts := [], laidByText := true, laidKinds := [.data, .data, .data, .data, .pinned, .pinned], laidTests := true, laidLooks := .later }
def GatherGroupsCardSaid : Prop := Claim7.holds Tryz.pinned (.plain (OpenSpec.ofChange gatherGroupsSpec)) gatherGroupsCard

/-- THE TIED CARD OF 'weirlaw22.GatherTops'. -/
def gatherTopsCard : Claim7 := { stood := { row := gatherTopsRow, standIns := [], harness := (true, "234d39eb8b580e73a30320350aef986f2104e1277759535474784757c0f0eaf4"), looks := false }, kinds := [], alts := [], laidByText := true, laidKinds := [.data, .data, .data, .data, .pinned, .pinned], laidTests := true, laidLooks := .later }
def GatherTopsCardSaid : Prop := Claim7.holds Tryz.pinned (.plain (OpenSpec.ofChange gatherTopsSpec)) gatherTopsCard

/-- THE SECOND FORM's CARD OF 'weirlaw22.GatherAll'. -/
def gatherAllUptoCard : Claim7 := { stood := { row := gatherAllUptoRow, standIns := [], harness := (true, "234d39eb8b580e73a30320350aef986f2104e1277759535474784757c0f0eaf4"), looks := false }, kinds := [], alts := [], laidByText := true, laidKinds := [.data, .data, .data, .data, .pinned, .pinned], laidTests := true, laidLooks := .later }
def GatherAllUptoCardSaid : Prop := Claim7.holds Tryz.pinned (.plain (OpenSpec.upto gatherAllSpec)) gatherAllUptoCard

/-- THE SECOND FORM's CARD OF 'weirlaw22.GatherFresh'. -/
def gatherFreshUptoCard : Claim7 := { stood := { row := gatherFreshUptoRow, standIns := [], harness := (true, "234d39eb8b580e73a30320350aef986f2104e1277759535474784757c0f0eaf4"), looks := false }, kinds := [], alts := [], laidByText := true, laidKinds := [.data, .data, .data, .data, .pinned, .pinned], laidTests := true, laidLooks := .later }
def GatherFreshUptoCardSaid : Prop := Claim7.holds Tryz.pinned (.plain (OpenSpec.upto gatherFreshSpec)) gatherFreshUptoCard

/-- THE SECOND FORM's CARD OF 'weirlaw22.GatherParts'. -/
def gatherPartsUptoCard : Claim7 := { stood := { row := gatherPartsUptoRow, standIns := [], harness := (true, "234d39eb8b580e73a30320350aef986f2104e1277759535474784757c0f0eaf4"), looks := false }, kinds := [], alts := [], laidByText := true, laidKinds := [.data, .data, .data, .data, .pinned, .pinned], laidTests := true, laidLooks := .later }
def GatherPartsUptoCardSaid : Prop := Claim7.holds Tryz.pinned (.plain (OpenSpec.upto gatherPartsSpec)) gatherPartsUptoCard

/-- THE SECOND FORM's CARD OF 'weirlaw22.GatherGroups'. -/
def gatherGroupsUptoCard : Claim7 := { stood := { row := gatherGroupsUptoRow, standIns := [], harness := (true, "234d39eb8b580e73a30320350aef986f2104e1277759535474784757c0f0eaf4"), looks := false }, kinds := [], alts := [], laidByText := true, laidKinds := [.data, .data, .data, .data, .pinned, .pinned], laidTests := true, laidLooks := .later }
def GatherGroupsUptoCardSaid : Prop := Claim7.holds Tryz.pinned (.plain (OpenSpec.upto gatherGroupsSpec)) gatherGroupsUptoCard

/-- THE SECOND FORM's CARD OF 'weirlaw22.GatherTops'. -/
def gatherTopsUptoCard : Claim7 := { stood := { row := gatherTopsUptoRow, standIns := [], harness := (true, "234d39eb8b580e73a30320350aef986f2104e1277759535474784757c0f0eaf4"), looks := false }, kinds := [], alts := [], laidByText := true, laidKinds := [.data, .data, .data, .data, .pinned, .pinned], laidTests := true, laidLooks := .later }
def GatherTopsUptoCardSaid : Prop := Claim7.holds Tryz.pinned (.plain (OpenSpec.upto gatherTopsSpec)) gatherTopsUptoCard
end Rows
end Go.Proofs.YtefdoineacfbhaaGreatDoor
