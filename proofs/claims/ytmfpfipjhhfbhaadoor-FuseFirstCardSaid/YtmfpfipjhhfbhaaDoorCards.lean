/-
  DERIVED. GIVEN WITH THE SEED: THE CARDS: each row of YtmfpfipjhhfbhaaDoorRows.lean that lists a variable, with what it lists TIED to the program's text (the seventh form; the later family's looks); each row that meets fmt, with fmt's text TOLD by the authors' own Lean function (tested against real Go, not proved from fmt's source: count such statements apart). THE CARD IS WHAT COUNTS. Prove the row's statement (the work); the ties are given (YtmfpfipjhhfbhaaDoorTie.lean); close each card by the builder's one call (the guide's Derived/Test/ToyasCard.lean, 'card_holds'). Laid BY PROGRAM, IN A SANDBOX (cutbox-door.mjs). By AI agents, Wed Nov 11 2026. No macro, syntax, notation, axiom, sorry.
-/
import Derived.Test.YtmfpfipjhhfbhaaDoorRows
import GoSem.ClaimSeven
namespace Go.Proofs.YtmfpfipjhhfbhaaDoor
namespace Rows

/-- THE TIED CARD OF 'epitomelaw12.UnderTie'. -/
def underTieCard : Claim7 := { stood := { row := underTieRow, standIns := [], harness := (true, "27173916838e38bd93e397dd4929fc819c5edff2c93ac9f0bbbcf61e65b35820"), looks := false }, kinds := [], alts := [], laidByText := true, laidKinds := [.data, .data, .pinned], laidTests := true, laidLooks := .later }
def UnderTieCardSaid : Prop := Claim7.holds Tryd.pinned (.plain (OpenSpec.ofChange underTieSpec)) underTieCard

/-- THE TIED CARD OF 'epitomelaw12.UnderAll'. -/
def underAllCard : Claim7 := { stood := { row := underAllRow, standIns := [], harness := (true, "27173916838e38bd93e397dd4929fc819c5edff2c93ac9f0bbbcf61e65b35820"), looks := false }, kinds := [], alts := [], laidByText := true, laidKinds := [.data, .data, .pinned], laidTests := true, laidLooks := .later }
def UnderAllCardSaid : Prop := Claim7.holds Tryd.pinned (.plain (OpenSpec.ofChange underAllSpec)) underAllCard

/-- THE TIED CARD OF 'epitomelaw12.UnderDrops'. -/
def underDropsCard : Claim7 := { stood := { row := underDropsRow, standIns := [], harness := (true, "27173916838e38bd93e397dd4929fc819c5edff2c93ac9f0bbbcf61e65b35820"), looks := false }, kinds := [], alts := [], laidByText := true, laidKinds := [.data, .data, .pinned], laidTests := true, laidLooks := .later }
def UnderDropsCardSaid : Prop := Claim7.holds Tryd.pinned (.plain (OpenSpec.ofChange underDropsSpec)) underDropsCard

/-- THE TIED CARD OF 'epitomelaw11.OverGaps'. -/
def overGapsCard : Claim7 := { stood := { row := overGapsRow, standIns := [], harness := (true, "27173916838e38bd93e397dd4929fc819c5edff2c93ac9f0bbbcf61e65b35820"), looks := false }, kinds := [], alts := [], laidByText := true, laidKinds := [.data, .data, .pinned], laidTests := true, laidLooks := .later }
def OverGapsCardSaid : Prop := Claim7.holds Tryd.pinned (.plain (OpenSpec.ofChange overGapsSpec)) overGapsCard

/-- THE TIED CARD OF 'epitomelaw12.UnderKeeps'. -/
def underKeepsCard : Claim7 := { stood := { row := underKeepsRow, standIns := [], harness := (true, "27173916838e38bd93e397dd4929fc819c5edff2c93ac9f0bbbcf61e65b35820"), looks := false }, kinds := [], alts := [], laidByText := true, laidKinds := [.data, .data, .pinned], laidTests := true, laidLooks := .later }
def UnderKeepsCardSaid : Prop := Claim7.holds Tryd.pinned (.plain (OpenSpec.ofChange underKeepsSpec)) underKeepsCard

/-- THE TIED CARD OF 'epitomelaw11.OverOne'. -/
def overOneCard : Claim7 := { stood := { row := overOneRow, standIns := [], harness := (true, "27173916838e38bd93e397dd4929fc819c5edff2c93ac9f0bbbcf61e65b35820"), looks := false }, kinds := [], alts := [], laidByText := true, laidKinds := [.data, .data, .pinned], laidTests := true, laidLooks := .later }
def OverOneCardSaid : Prop := Claim7.holds Tryd.pinned (.plain (OpenSpec.ofChange overOneSpec)) overOneCard

/-- THE TIED CARD OF 'epitomelaw10.FuseAll'. -/
def fuseAllCard : Claim7 := { stood := { row := fuseAllRow, standIns := [], harness := (true, "27173916838e38bd93e397dd4929fc819c5edff2c93ac9f0bbbcf61e65b35820"), looks := false }, kinds := [], alts := [], laidByText := true, laidKinds := [.data, .data, .pinned], laidTests := true, laidLooks := .later }
def FuseAllCardSaid : Prop := Claim7.holds Tryd.pinned (.plain (OpenSpec.ofChange fuseAllSpec)) fuseAllCard

/-- THE TIED CARD OF 'epitomelaw10.FuseParts'. -/
def fusePartsCard : Claim7 := { stood := { row := fusePartsRow, standIns := [], harness := (true, "27173916838e38bd93e397dd4929fc819c5edff2c93ac9f0bbbcf61e65b35820"), looks := false }, kinds := [], alts := [], laidByText := true, laidKinds := [.data, .data, .pinned], laidTests := true, laidLooks := .later }
def FusePartsCardSaid : Prop := Claim7.holds Tryd.pinned (.plain (OpenSpec.ofChange fusePartsSpec)) fusePartsCard

/-- THE TIED CARD OF 'epitomelaw10.FuseCancels'. -/
def fuseCancelsCard : Claim7 := { stood := { row := fuseCancelsRow, standIns := [], harness := (true, "27173916838e38bd93e397dd4929fc819c5edff2c93ac9f0bbbcf61e65b35820"), looks := false }, kinds := [], alts := [], laidByText := true, laidKinds := [.data, .data, .pinned], laidTests := true, laidLooks := .later }
def FuseCancelsCardSaid : Prop := Claim7.holds Tryd.pinned (.plain (OpenSpec.ofChange fuseCancelsSpec)) fuseCancelsCard

/-- THE TIED CARD OF 'epitomelaw10.FuseOne'. -/
def fuseOneCard : Claim7 := { stood := { row := fuseOneRow, standIns := [], harness := (true, "27173916838e38bd93e397dd4929fc819c5edff2c93ac9f0bbbcf61e65b35820"), looks := false }, kinds := [], alts := [], laidByText := true, laidKinds := [.data, .data, .pinned], laidTests := true, laidLooks := .later }
def FuseOneCardSaid : Prop := Claim7.holds Tryd.pinned (.plain (OpenSpec.ofChange fuseOneSpec)) fuseOneCard

/-- THE TIED CARD OF 'epitomelaw10.FuseFirst'. -/
def fuseFirstCard : Claim7 := { stood := { row := fuseFirstRow, standIns := [], harness := (true, "27173916838e38bd93e397dd4929fc819c5edff2c93ac9f0bbbcf61e65b35820"), looks := false }, kinds := [], alts := [], laidByText := true, laidKinds := [.data, .data, .pinned], laidTests := true, laidLooks := .later }
def FuseFirstCardSaid : Prop := Claim7.holds Tryd.pinned (.plain (OpenSpec.ofChange fuseFirstSpec)) fuseFirstCard

/-- THE TIED CARD OF 'epitomelaw09.ComposeDoes'. -/
def composeDoesCard : Claim7 := { stood := { row := composeDoesRow, standIns := [], harness := (true, "27173916838e38bd93e397dd4929fc819c5edff2c93ac9f0bbbcf61e65b35820"), looks := false }, kinds := [], alts := [], laidByText := true, laidKinds := [.data, .data, .pinned], laidTests := true, laidLooks := .later }
def ComposeDoesCardSaid : Prop := Claim7.holds Tryd.pinned (.plain (OpenSpec.ofChange composeDoesSpec)) composeDoesCard

/-- THE SECOND FORM's CARD OF 'epitomelaw12.UnderTie'. -/
def underTieUptoCard : Claim7 := { stood := { row := underTieUptoRow, standIns := [], harness := (true, "27173916838e38bd93e397dd4929fc819c5edff2c93ac9f0bbbcf61e65b35820"), looks := false }, kinds := [], alts := [], laidByText := true, laidKinds := [.data, .data, .pinned], laidTests := true, laidLooks := .later }
def UnderTieUptoCardSaid : Prop := Claim7.holds Tryd.pinned (.plain (OpenSpec.upto underTieSpec)) underTieUptoCard

/-- THE SECOND FORM's CARD OF 'epitomelaw12.UnderAll'. -/
def underAllUptoCard : Claim7 := { stood := { row := underAllUptoRow, standIns := [], harness := (true, "27173916838e38bd93e397dd4929fc819c5edff2c93ac9f0bbbcf61e65b35820"), looks := false }, kinds := [], alts := [], laidByText := true, laidKinds := [.data, .data, .pinned], laidTests := true, laidLooks := .later }
def UnderAllUptoCardSaid : Prop := Claim7.holds Tryd.pinned (.plain (OpenSpec.upto underAllSpec)) underAllUptoCard

/-- THE SECOND FORM's CARD OF 'epitomelaw12.UnderDrops'. -/
def underDropsUptoCard : Claim7 := { stood := { row := underDropsUptoRow, standIns := [], harness := (true, "27173916838e38bd93e397dd4929fc819c5edff2c93ac9f0bbbcf61e65b35820"), looks := false }, kinds := [], alts := [], laidByText := true, laidKinds := [.data, .data, .pinned], laidTests := true, laidLooks := .later }
def UnderDropsUptoCardSaid : Prop := Claim7.holds Tryd.pinned (.plain (OpenSpec.upto underDropsSpec)) underDropsUptoCard

/-- THE SECOND FORM's CARD OF 'epitomelaw11.OverGaps'. -/
def overGapsUptoCard : Claim7 := { stood := { row := overGapsUptoRow, standIns := [], harness := (true, "27173916838e38bd93e397dd4929fc819c5edff2c93ac9f0bbbcf61e65b35820"), looks := false }, kinds := [], alts := [], laidByText := true, laidKinds := [.data, .data, .pinned], laidTests := true, laidLooks := .later }
def OverGapsUptoCardSaid : Prop := Claim7.holds Tryd.pinned (.plain (OpenSpec.upto overGapsSpec)) overGapsUptoCard

/-- THE SECOND FORM's CARD OF 'epitomelaw12.UnderKeeps'. -/
def underKeepsUptoCard : Claim7 := { stood := { row := underKeepsUptoRow, standIns := [], harness := (true, "27173916838e38bd93e397dd4929fc819c5edff2c93ac9f0bbbcf61e65b35820"), looks := false }, kinds := [], alts := [], laidByText := true, laidKinds := [.data, .data, .pinned], laidTests := true, laidLooks := .later }
def UnderKeepsUptoCardSaid : Prop := Claim7.holds Tryd.pinned (.plain (OpenSpec.upto underKeepsSpec)) underKeepsUptoCard

/-- THE SECOND FORM's CARD OF 'epitomelaw11.OverOne'. -/
def overOneUptoCard : Claim7 := { stood := { row := overOneUptoRow, standIns := [], harness := (true, "27173916838e38bd93e397dd4929fc819c5edff2c93ac9f0bbbcf61e65b35820"), looks := false }, kinds := [], alts := [], laidByText := true, laidKinds := [.data, .data, .pinned], laidTests := true, laidLooks := .later }
def OverOneUptoCardSaid : Prop := Claim7.holds Tryd.pinned (.plain (OpenSpec.upto overOneSpec)) overOneUptoCard

/-- THE SECOND FORM's CARD OF 'epitomelaw10.FuseAll'. -/
def fuseAllUptoCard : Claim7 := { stood := { row := fuseAllUptoRow, standIns := [], harness := (true, "27173916838e38bd93e397dd4929fc819c5edff2c93ac9f0bbbcf61e65b35820"), looks := false }, kinds := [], alts := [], laidByText := true, laidKinds := [.data, .data, .pinned], laidTests := true, laidLooks := .later }
def FuseAllUptoCardSaid : Prop := Claim7.holds Tryd.pinned (.plain (OpenSpec.upto fuseAllSpec)) fuseAllUptoCard

/-- THE SECOND FORM's CARD OF 'epitomelaw10.FuseParts'. -/
def fusePartsUptoCard : Claim7 := { stood := { row := fusePartsUptoRow, standIns := [], harness := (true, "27173916838e38bd93e397dd4929fc819c5edff2c93ac9f0bbbcf61e65b35820"), looks := false }, kinds := [], alts := [], laidByText := true, laidKinds := [.data, .data, .pinned], laidTests := true, laidLooks := .later }
def FusePartsUptoCardSaid : Prop := Claim7.holds Tryd.pinned (.plain (OpenSpec.upto fusePartsSpec)) fusePartsUptoCard

/-- THE SECOND FORM's CARD OF 'epitomelaw10.FuseCancels'. -/
def fuseCancelsUptoCard : Claim7 := { stood := { row := fuseCancelsUptoRow, standIns := [], harness := (true, "27173916838e38bd93e397dd4929fc819c5edff2c93ac9f0bbbcf61e65b35820"), looks := false }, kinds := [], alts := [], laidByText := true, laidKinds := [.data, .data, .pinned], laidTests := true, laidLooks := .later }
def FuseCancelsUptoCardSaid : Prop := Claim7.holds Tryd.pinned (.plain (OpenSpec.upto fuseCancelsSpec)) fuseCancelsUptoCard

/-- THE SECOND FORM's CARD OF 'epitomelaw10.FuseOne'. -/
def fuseOneUptoCard : Claim7 := { stood := { row := fuseOneUptoRow, standIns := [], harness := (true, "27173916838e38bd93e397dd4929fc819c5edff2c93ac9f0bbbcf61e65b35820"), looks := false }, kinds := [], alts := [], laidByText := true, laidKinds := [.data, .data, .pinned], laidTests := true, laidLooks := .later }
def FuseOneUptoCardSaid : Prop := Claim7.holds Tryd.pinned (.plain (OpenSpec.upto fuseOneSpec)) fuseOneUptoCard

/-- THE SECOND FORM's CARD OF 'epitomelaw10.FuseFirst'. -/
def fuseFirstUptoCard : Claim7 := { stood := { row := fuseFirstUptoRow, standIns := [], harness := (true, "27173916838e38bd93e397dd4929fc819c5edff2c93ac9f0bbbcf61e65b35820"), looks := false }, kinds := [], alts := [], laidByText := true, laidKinds := [.data, .data, .pinned], laidTests := true, laidLooks := .later }
def FuseFirstUptoCardSaid : Prop := Claim7.holds Tryd.pinned (.plain (OpenSpec.upto fuseFirstSpec)) fuseFirstUptoCard

/-- THE SECOND FORM's CARD OF 'epitomelaw09.ComposeDoes'. -/
def composeDoesUptoCard : Claim7 := { stood := { row := composeDoesUptoRow, standIns := [], harness := (true, "27173916838e38bd93e397dd4929fc819c5edff2c93ac9f0bbbcf61e65b35820"), looks := false }, kinds := [], alts := [], laidByText := true, laidKinds := [.data, .data, .pinned], laidTests := true, laidLooks := .later }
def ComposeDoesUptoCardSaid : Prop := Claim7.holds Tryd.pinned (.plain (OpenSpec.upto composeDoesSpec)) composeDoesUptoCard
end Rows
end Go.Proofs.YtmfpfipjhhfbhaaDoor
