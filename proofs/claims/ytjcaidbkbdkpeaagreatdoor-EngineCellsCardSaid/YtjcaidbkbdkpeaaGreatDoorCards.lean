/-
  DERIVED. GIVEN WITH THE SEED: THE CARDS: each row of YtjcaidbkbdkpeaaGreatDoorRows.lean that lists a variable, with what it lists TIED to the program's text (the seventh form; the later family's looks); each row that meets fmt, with fmt's text TOLD by the authors' own Lean function (tested against real Go, not proved from fmt's source: count such statements apart). THE CARD IS WHAT COUNTS. Prove the row's statement (the work); the ties are given (YtjcaidbkbdkpeaaGreatDoorTie.lean); close each card by the builder's one call (the guide's Derived/Test/ToyasCard.lean, 'card_holds'). Laid BY PROGRAM, IN A SANDBOX (cutbox-door.mjs). By AI agents, Wed Nov 11 2026. No macro, syntax, notation, axiom, sorry.
-/
import Derived.Test.YtjcaidbkbdkpeaaGreatDoorRows
import GoSem.ClaimSeven
namespace Go.Proofs.YtjcaidbkbdkpeaaGreatDoor
namespace Rows

/-- THE TIED CARD OF 'rhytonlaw15.EngineCells'. -/
def engineCellsCard : Claim7 := { stood := { row := engineCellsRow, standIns := [], harness := (true, "35db2092aedd6a5cda3015d4ad0ce36065098a63244b825d3a6b2c5ceda3a062"), looks := false }, kinds := [], alts := [], laidByText := true, laidKinds := [.data, .data, .data, .data, .pinned], laidTests := true, laidLooks := .later }
def EngineCellsCardSaid : Prop := Claim7.holds Tryz.pinned (.plain (OpenSpec.ofChange engineCellsSpec)) engineCellsCard

/-- THE TIED CARD OF 'rhytonlaw15.EngineBranches'. -/
def engineBranchesCard : Claim7 := { stood := { row := engineBranchesRow, standIns := [], harness := (true, "35db2092aedd6a5cda3015d4ad0ce36065098a63244b825d3a6b2c5ceda3a062"), looks := false }, kinds := [], alts := [], laidByText := true, laidKinds := [.data, .data, .data, .data, .pinned], laidTests := true, laidLooks := .later }
def EngineBranchesCardSaid : Prop := Claim7.holds Tryz.pinned (.plain (OpenSpec.ofChange engineBranchesSpec)) engineBranchesCard

/-- THE TIED CARD OF 'rhytonlaw15.EngineDeep'. -/
def engineDeepCard : Claim7 := { stood := { row := engineDeepRow, standIns := [], harness := (true, "35db2092aedd6a5cda3015d4ad0ce36065098a63244b825d3a6b2c5ceda3a062"), looks := false }, kinds := [], alts := [], laidByText := true, laidKinds := [.data, .data, .data, .data, .pinned], laidTests := true, laidLooks := .later }
def EngineDeepCardSaid : Prop := Claim7.holds Tryz.pinned (.plain (OpenSpec.ofChange engineDeepSpec)) engineDeepCard

/-- THE TIED CARD OF 'rhytonlaw15.EngineCatches'. -/
def engineCatchesCard : Claim7 := { stood := { row := engineCatchesRow, standIns := [], harness := (true, "35db2092aedd6a5cda3015d4ad0ce36065098a63244b825d3a6b2c5ceda3a062"), looks := false }, kinds := [], alts := [], laidByText := true, laidKinds := [.data, .data, .data, .data, .pinned], laidTests := true, laidLooks := .later }
def EngineCatchesCardSaid : Prop := Claim7.holds Tryz.pinned (.plain (OpenSpec.ofChange engineCatchesSpec)) engineCatchesCard

/-- THE SECOND FORM's CARD OF 'rhytonlaw15.EngineCells'. -/
def engineCellsUptoCard : Claim7 := { stood := { row := engineCellsUptoRow, standIns := [], harness := (true, "35db2092aedd6a5cda3015d4ad0ce36065098a63244b825d3a6b2c5ceda3a062"), looks := false }, kinds := [], alts := [], laidByText := true, laidKinds := [.data, .data, .data, .data, .pinned], laidTests := true, laidLooks := .later }
def EngineCellsUptoCardSaid : Prop := Claim7.holds Tryz.pinned (.plain (OpenSpec.upto engineCellsSpec)) engineCellsUptoCard

/-- THE SECOND FORM's CARD OF 'rhytonlaw15.EngineBranches'. -/
def engineBranchesUptoCard : Claim7 := { stood := { row := engineBranchesUptoRow, standIns := [], harness := (true, "35db2092aedd6a5cda3015d4ad0ce36065098a63244b825d3a6b2c5ceda3a062"), looks := false }, kinds := [], alts := [], laidByText := true, laidKinds := [.data, .data, .data, .data, .pinned], laidTests := true, laidLooks := .later }
def EngineBranchesUptoCardSaid : Prop := Claim7.holds Tryz.pinned (.plain (OpenSpec.upto engineBranchesSpec)) engineBranchesUptoCard

/-- THE SECOND FORM's CARD OF 'rhytonlaw15.EngineDeep'. -/
def engineDeepUptoCard : Claim7 := { stood := { row := engineDeepUptoRow, standIns := [], harness := (true, "35db2092aedd6a5cda3015d4ad0ce36065098a63244b825d3a6b2c5ceda3a062"), looks := false }, kinds := [], alts := [], laidByText := true, laidKinds := [.data, .data, .data, .data, .pinned], laidTests := true, laidLooks := .later }
def EngineDeepUptoCardSaid : Prop := Claim7.holds Tryz.pinned (.plain (OpenSpec.upto engineDeepSpec)) engineDeepUptoCard

/-- THE SECOND FORM's CARD OF 'rhytonlaw15.EngineCatches'. -/
def engineCatchesUptoCard : Claim7 := { stood := { row := engineCatchesUptoRow, standIns := [], harness := (true, "35db2092aedd6a5cda3015d4ad0ce36065098a63244b825d3a6b2c5ceda3a062"), looks := false }, kinds := [], alts := [], laidByText := true, laidKinds := [.data, .data, .data, .data, .pinned], laidTests := true, laidLooks := .later }
def EngineCatchesUptoCardSaid : Prop := Claim7.holds Tryz.pinned (.plain (OpenSpec.upto engineCatchesSpec)) engineCatchesUptoCard
end Rows
end Go.Proofs.YtjcaidbkbdkpeaaGreatDoor
