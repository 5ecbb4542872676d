/-
  DERIVED. GIVEN WITH THE SEED: THE CARDS: each row of YtjnpmabnnbngeaaDoorRows.lean that lists a variable, with what it lists TIED to the program's text (the seventh form; the later family's looks); each row that meets fmt, with fmt's text TOLD by the authors' own Lean function (tested against real Go, not proved from fmt's source: count such statements apart). THE CARD IS WHAT COUNTS. Prove the row's statement (the work); the ties are given (YtjnpmabnnbngeaaDoorTie.lean); close each card by the builder's one call (the guide's Derived/Test/ToyasCard.lean, 'card_holds'). Laid BY PROGRAM, IN A SANDBOX (cutbox-door.mjs). By AI agents, Wed Nov 11 2026. No macro, syntax, notation, axiom, sorry.
-/
import Derived.Test.YtjnpmabnnbngeaaDoorRows
import GoSem.ClaimSeven
namespace Go.Proofs.YtjnpmabnnbngeaaDoor
namespace Rows

/-- THE TIED CARD OF 'darnerlaw07.PathClashes'. -/
def pathClashesCard : Claim7 := { stood := { row := pathClashesRow, standIns := [], harness := (true, "a70031a90f427ffe269c286e39947094d33a85ea90801d62eebaca740ffe0549"), looks := true }, kinds := [], alts := [], laidByText := true, laidKinds := [.data, .pinned], laidTests := true, laidLooks := .later }
def PathClashesCardSaid : Prop := Claim7.holds Tryd.pinned (.plain (OpenSpec.ofChange pathClashesSpec)) pathClashesCard

/-- THE TIED CARD OF 'darnerlaw07.PathFirsts'. -/
def pathFirstsCard : Claim7 := { stood := { row := pathFirstsRow, standIns := [], harness := (true, "a70031a90f427ffe269c286e39947094d33a85ea90801d62eebaca740ffe0549"), looks := true }, kinds := [], alts := [], laidByText := true, laidKinds := [.data, .pinned], laidTests := true, laidLooks := .later }
def PathFirstsCardSaid : Prop := Claim7.holds Tryd.pinned (.plain (OpenSpec.ofChange pathFirstsSpec)) pathFirstsCard

/-- THE TIED CARD OF 'darnerlaw07.PathKinds'. -/
def pathKindsCard : Claim7 := { stood := { row := pathKindsRow, standIns := [], harness := (true, "a70031a90f427ffe269c286e39947094d33a85ea90801d62eebaca740ffe0549"), looks := true }, kinds := [], alts := [], laidByText := true, laidKinds := [.data, .pinned], laidTests := true, laidLooks := .later }
def PathKindsCardSaid : Prop := Claim7.holds Tryd.pinned (.plain (OpenSpec.ofChange pathKindsSpec)) pathKindsCard

/-- THE TIED CARD OF 'darnerlaw08.DiskMoves'. -/
def diskMovesCard : Claim7 := { stood := { row := diskMovesRow, standIns := [], harness := (true, "a70031a90f427ffe269c286e39947094d33a85ea90801d62eebaca740ffe0549"), looks := true }, kinds := [], alts := [], laidByText := true, laidKinds := [.data, .pinned], laidTests := true, laidLooks := .later }
def DiskMovesCardSaid : Prop := Claim7.holds Tryd.pinned (.plain (OpenSpec.ofChange diskMovesSpec)) diskMovesCard

/-- THE TIED CARD OF 'darnerlaw07.PathMakes'. -/
def pathMakesCard : Claim7 := { stood := { row := pathMakesRow, standIns := [], harness := (true, "a70031a90f427ffe269c286e39947094d33a85ea90801d62eebaca740ffe0549"), looks := true }, kinds := [], alts := [], laidByText := true, laidKinds := [.data, .data, .data, .data, .pinned], laidTests := true, laidLooks := .later }
def PathMakesCardSaid : Prop := Claim7.holds Tryd.pinned (.plain (OpenSpec.ofChange pathMakesSpec)) pathMakesCard

/-- THE TIED CARD OF 'darnerlaw07.PathSides'. -/
def pathSidesCard : Claim7 := { stood := { row := pathSidesRow, standIns := [], harness := (true, "a70031a90f427ffe269c286e39947094d33a85ea90801d62eebaca740ffe0549"), looks := true }, kinds := [], alts := [], laidByText := true, laidKinds := [.data, .data, .data, .data, .pinned], laidTests := true, laidLooks := .later }
def PathSidesCardSaid : Prop := Claim7.holds Tryd.pinned (.plain (OpenSpec.ofChange pathSidesSpec)) pathSidesCard

/-- THE TIED CARD OF 'darnerlaw08.DiskRooms'. -/
def diskRoomsCard : Claim7 := { stood := { row := diskRoomsRow, standIns := [], harness := (true, "a70031a90f427ffe269c286e39947094d33a85ea90801d62eebaca740ffe0549"), looks := true }, kinds := [], alts := [], laidByText := true, laidKinds := [.data, .pinned], laidTests := true, laidLooks := .later }
def DiskRoomsCardSaid : Prop := Claim7.holds Tryd.pinned (.plain (OpenSpec.ofChange diskRoomsSpec)) diskRoomsCard

/-- THE TIED CARD OF 'darnerlaw14.LaneOrders'. -/
def laneOrdersCard : Claim7 := { stood := { row := laneOrdersRow, standIns := [], harness := (true, "a70031a90f427ffe269c286e39947094d33a85ea90801d62eebaca740ffe0549"), looks := true }, kinds := [], alts := [], laidByText := true, laidKinds := [.data, .pinned], laidTests := true, laidLooks := .later }
def LaneOrdersCardSaid : Prop := Claim7.holds Tryd.pinned (.plain (OpenSpec.ofChange laneOrdersSpec)) laneOrdersCard

/-- THE TIED CARD OF 'darnerlaw08.DiskPlays'. -/
def diskPlaysCard : Claim7 := { stood := { row := diskPlaysRow, standIns := [], harness := (true, "a70031a90f427ffe269c286e39947094d33a85ea90801d62eebaca740ffe0549"), looks := true }, kinds := [], alts := [], laidByText := true, laidKinds := [.data, .pinned], laidTests := true, laidLooks := .later }
def DiskPlaysCardSaid : Prop := Claim7.holds Tryd.pinned (.plain (OpenSpec.ofChange diskPlaysSpec)) diskPlaysCard

/-- THE TIED CARD OF 'darnerlaw08.DiskSafe'. -/
def diskSafeCard : Claim7 := { stood := { row := diskSafeRow, standIns := [], harness := (true, "a70031a90f427ffe269c286e39947094d33a85ea90801d62eebaca740ffe0549"), looks := true }, kinds := [], alts := [], laidByText := true, laidKinds := [.data, .pinned], laidTests := true, laidLooks := .later }
def DiskSafeCardSaid : Prop := Claim7.holds Tryd.pinned (.plain (OpenSpec.ofChange diskSafeSpec)) diskSafeCard

/-- THE TIED CARD OF 'darnerlaw14.LanePlays'. -/
def lanePlaysCard : Claim7 := { stood := { row := lanePlaysRow, standIns := [], harness := (true, "a70031a90f427ffe269c286e39947094d33a85ea90801d62eebaca740ffe0549"), looks := true }, kinds := [], alts := [], laidByText := true, laidKinds := [.data, .pinned], laidTests := true, laidLooks := .later }
def LanePlaysCardSaid : Prop := Claim7.holds Tryd.pinned (.plain (OpenSpec.ofChange lanePlaysSpec)) lanePlaysCard

/-- THE TIED CARD OF 'darnerlaw14.LaneBound'. -/
def laneBoundCard : Claim7 := { stood := { row := laneBoundRow, standIns := [], harness := (true, "a70031a90f427ffe269c286e39947094d33a85ea90801d62eebaca740ffe0549"), looks := true }, kinds := [], alts := [], laidByText := true, laidKinds := [.data, .pinned], laidTests := true, laidLooks := .later }
def LaneBoundCardSaid : Prop := Claim7.holds Tryd.pinned (.plain (OpenSpec.ofChange laneBoundSpec)) laneBoundCard

/-- THE SECOND FORM's CARD OF 'darnerlaw07.PathClashes'. -/
def pathClashesUptoCard : Claim7 := { stood := { row := pathClashesUptoRow, standIns := [], harness := (true, "a70031a90f427ffe269c286e39947094d33a85ea90801d62eebaca740ffe0549"), looks := true }, kinds := [], alts := [], laidByText := true, laidKinds := [.data, .pinned], laidTests := true, laidLooks := .later }
def PathClashesUptoCardSaid : Prop := Claim7.holds Tryd.pinned (.plain (OpenSpec.upto pathClashesSpec)) pathClashesUptoCard

/-- THE SECOND FORM's CARD OF 'darnerlaw07.PathFirsts'. -/
def pathFirstsUptoCard : Claim7 := { stood := { row := pathFirstsUptoRow, standIns := [], harness := (true, "a70031a90f427ffe269c286e39947094d33a85ea90801d62eebaca740ffe0549"), looks := true }, kinds := [], alts := [], laidByText := true, laidKinds := [.data, .pinned], laidTests := true, laidLooks := .later }
def PathFirstsUptoCardSaid : Prop := Claim7.holds Tryd.pinned (.plain (OpenSpec.upto pathFirstsSpec)) pathFirstsUptoCard

/-- THE SECOND FORM's CARD OF 'darnerlaw07.PathKinds'. -/
def pathKindsUptoCard : Claim7 := { stood := { row := pathKindsUptoRow, standIns := [], harness := (true, "a70031a90f427ffe269c286e39947094d33a85ea90801d62eebaca740ffe0549"), looks := true }, kinds := [], alts := [], laidByText := true, laidKinds := [.data, .pinned], laidTests := true, laidLooks := .later }
def PathKindsUptoCardSaid : Prop := Claim7.holds Tryd.pinned (.plain (OpenSpec.upto pathKindsSpec)) pathKindsUptoCard

/-- THE SECOND FORM's CARD OF 'darnerlaw08.DiskMoves'. -/
def diskMovesUptoCard : Claim7 := { stood := { row := diskMovesUptoRow, standIns := [], harness := (true, "a70031a90f427ffe269c286e39947094d33a85ea90801d62eebaca740ffe0549"), looks := true }, kinds := [], alts := [], laidByText := true, laidKinds := [.data, .pinned], laidTests := true, laidLooks := .later }
def DiskMovesUptoCardSaid : Prop := Claim7.holds Tryd.pinned (.plain (OpenSpec.upto diskMovesSpec)) diskMovesUptoCard

/-- THE SECOND FORM's CARD OF 'darnerlaw07.PathMakes'. -/
def pathMakesUptoCard : Claim7 := { stood := { row := pathMakesUptoRow, standIns := [], harness := (true, "a70031a90f427ffe269c286e39947094d33a85ea90801d62eebaca740ffe0549"), looks := true }, kinds := [], alts := [], laidByText := true, laidKinds := [.data, .data, .data, .data, .pinned], laidTests := true, laidLooks := .later }
def PathMakesUptoCardSaid : Prop := Claim7.holds Tryd.pinned (.plain (OpenSpec.upto pathMakesSpec)) pathMakesUptoCard

/-- THE SECOND FORM's CARD OF 'darnerlaw07.PathSides'. -/
def pathSidesUptoCard : Claim7 := { stood := { row := pathSidesUptoRow, standIns := [], harness := (true, "a70031a90f427ffe269c286e39947094d33a85ea90801d62eebaca740ffe0549"), looks := true }, kinds := [], alts := [], laidByText := true, laidKinds := [.data, .data, .data, .data, .pinned], laidTests := true, laidLooks := .later }
def PathSidesUptoCardSaid : Prop := Claim7.holds Tryd.pinned (.plain (OpenSpec.upto pathSidesSpec)) pathSidesUptoCard

/-- THE SECOND FORM's CARD OF 'darnerlaw08.DiskRooms'. -/
def diskRoomsUptoCard : Claim7 := { stood := { row := diskRoomsUptoRow, standIns := [], harness := (true, "a70031a90f427ffe269c286e39947094d33a85ea90801d62eebaca740ffe0549"), looks := true }, kinds := [], alts := [], laidByText := true, laidKinds := [.data, .pinned], laidTests := true, laidLooks := .later }
def DiskRoomsUptoCardSaid : Prop := Claim7.holds Tryd.pinned (.plain (OpenSpec.upto diskRoomsSpec)) diskRoomsUptoCard

/-- THE SECOND FORM's CARD OF 'darnerlaw14.LaneOrders'. -/
def laneOrdersUptoCard : Claim7 := { stood := { row := laneOrdersUptoRow, standIns := [], harness := (true, "a70031a90f427ffe269c286e39947094d33a85ea90801d62eebaca740ffe0549"), looks := true }, kinds := [], alts := [], laidByText := true, laidKinds := [.data, .pinned], laidTests := true, laidLooks := .later }
def LaneOrdersUptoCardSaid : Prop := Claim7.holds Tryd.pinned (.plain (OpenSpec.upto laneOrdersSpec)) laneOrdersUptoCard

/-- THE SECOND FORM's CARD OF 'darnerlaw08.DiskPlays'. -/
def diskPlaysUptoCard : Claim7 := { stood := { row := diskPlaysUptoRow, standIns := [], harness := (true, "a70031a90f427ffe269c286e39947094d33a85ea90801d62eebaca740ffe0549"), looks := true }, kinds := [], alts := [], laidByText := true, laidKinds := [.data, .pinned], laidTests := true, laidLooks := .later }
def DiskPlaysUptoCardSaid : Prop := Claim7.holds Tryd.pinned (.plain (OpenSpec.upto diskPlaysSpec)) diskPlaysUptoCard

/-- THE SECOND FORM's CARD OF 'darnerlaw08.DiskSafe'. -/
def diskSafeUptoCard : Claim7 := { stood := { row := diskSafeUptoRow, standIns := [], harness := (true, "a70031a90f427ffe269c286e39947094d33a85ea90801d62eebaca740ffe0549"), looks := true }, kinds := [], alts := [], laidByText := true, laidKinds := [.data, .pinned], laidTests := true, laidLooks := .later }
def DiskSafeUptoCardSaid : Prop := Claim7.holds Tryd.pinned (.plain (OpenSpec.upto diskSafeSpec)) diskSafeUptoCard

/-- THE SECOND FORM's CARD OF 'darnerlaw14.LanePlays'. -/
def lanePlaysUptoCard : Claim7 := { stood := { row := lanePlaysUptoRow, standIns := [], harness := (true, "a70031a90f427ffe269c286e39947094d33a85ea90801d62eebaca740ffe0549"), looks := true }, kinds := [], alts := [], laidByText := true, laidKinds := [.data, .pinned], laidTests := true, laidLooks := .later }
def LanePlaysUptoCardSaid : Prop := Claim7.holds Tryd.pinned (.plain (OpenSpec.upto lanePlaysSpec)) lanePlaysUptoCard

/-- THE SECOND FORM's CARD OF 'darnerlaw14.LaneBound'. -/
def laneBoundUptoCard : Claim7 := { stood := { row := laneBoundUptoRow, standIns := [], harness := (true, "a70031a90f427ffe269c286e39947094d33a85ea90801d62eebaca740ffe0549"), looks := true }, kinds := [], alts := [], laidByText := true, laidKinds := [.data, .pinned], laidTests := true, laidLooks := .later }
def LaneBoundUptoCardSaid : Prop := Claim7.holds Tryd.pinned (.plain (OpenSpec.upto laneBoundSpec)) laneBoundUptoCard
end Rows
end Go.Proofs.YtjnpmabnnbngeaaDoor
