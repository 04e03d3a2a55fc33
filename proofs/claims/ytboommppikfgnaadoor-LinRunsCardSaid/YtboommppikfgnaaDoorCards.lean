/-
  DERIVED. GIVEN WITH THE SEED: THE CARDS: each row of YtboommppikfgnaaDoorRows.lean that lists a variable, with what it lists TIED to the program's text (the seventh form; the later family's looks); each row that meets fmt, with fmt's text TOLD by the authors' own Lean function (tested against real Go, not proved from fmt's source: count such statements apart). THE CARD IS WHAT COUNTS. Prove the row's statement (the work); the ties are given (YtboommppikfgnaaDoorTie.lean); close each card by the builder's one call (the guide's Derived/Test/ToyasCard.lean, 'card_holds'). Laid BY PROGRAM, IN A SANDBOX (cutbox-door.mjs). By AI agents, Wed Nov 11 2026. No macro, syntax, notation, axiom, sorry.
-/
import Derived.Test.YtboommppikfgnaaDoorRows
import GoSem.ClaimSeven
namespace Go.Proofs.YtboommppikfgnaaDoor
namespace Rows

/-- THE TIED CARD OF 'sherpalaw09.LinOrders'. -/
def linOrdersCard : Claim7 := { stood := { row := linOrdersRow, standIns := [], harness := (true, "4009778124cfc585dccf9d5651345fc13c1ac5e0b3d0c68f7ba0000705d0707a"), looks := false }, kinds := [], alts := [], laidByText := true, laidKinds := [.data, .data, .data], laidTests := true, laidLooks := .later }
def LinOrdersCardSaid : Prop := Claim7.holds Tryd.pinned (.plain (OpenSpec.ofChange linOrdersSpec)) linOrdersCard

/-- THE TIED CARD OF 'sherpalaw09.LinAlone'. -/
def linAloneCard : Claim7 := { stood := { row := linAloneRow, standIns := [], harness := (true, "4009778124cfc585dccf9d5651345fc13c1ac5e0b3d0c68f7ba0000705d0707a"), looks := false }, kinds := [], alts := [], laidByText := true, laidKinds := [.data, .data, .data], laidTests := true, laidLooks := .later }
def LinAloneCardSaid : Prop := Claim7.holds Tryd.pinned (.plain (OpenSpec.ofChange linAloneSpec)) linAloneCard

/-- THE TIED CARD OF 'sherpalaw09.LinLegal'. -/
def linLegalCard : Claim7 := { stood := { row := linLegalRow, standIns := [], harness := (true, "4009778124cfc585dccf9d5651345fc13c1ac5e0b3d0c68f7ba0000705d0707a"), looks := false }, kinds := [], alts := [], laidByText := true, laidKinds := [.data, .data, .data], laidTests := true, laidLooks := .later }
def LinLegalCardSaid : Prop := Claim7.holds Tryd.pinned (.plain (OpenSpec.ofChange linLegalSpec)) linLegalCard

/-- THE TIED CARD OF 'sherpalaw09.LinRuns'. -/
def linRunsCard : Claim7 := { stood := { row := linRunsRow, standIns := [], harness := (true, "4009778124cfc585dccf9d5651345fc13c1ac5e0b3d0c68f7ba0000705d0707a"), looks := false }, kinds := [], alts := [], laidByText := true, laidKinds := [.data, .data, .data], laidTests := true, laidLooks := .later }
def LinRunsCardSaid : Prop := Claim7.holds Tryd.pinned (.plain (OpenSpec.ofChange linRunsSpec)) linRunsCard

/-- THE TIED CARD OF 'sherpalaw09.LinLong'. -/
def linLongCard : Claim7 := { stood := { row := linLongRow, standIns := [], harness := (true, "4009778124cfc585dccf9d5651345fc13c1ac5e0b3d0c68f7ba0000705d0707a"), looks := false }, kinds := [], alts := [], laidByText := true, laidKinds := [.data, .data, .data], laidTests := true, laidLooks := .later }
def LinLongCardSaid : Prop := Claim7.holds Tryd.pinned (.plain (OpenSpec.ofChange linLongSpec)) linLongCard

/-- THE SECOND FORM's CARD OF 'sherpalaw09.LinOrders'. -/
def linOrdersUptoCard : Claim7 := { stood := { row := linOrdersUptoRow, standIns := [], harness := (true, "4009778124cfc585dccf9d5651345fc13c1ac5e0b3d0c68f7ba0000705d0707a"), looks := false }, kinds := [], alts := [], laidByText := true, laidKinds := [.data, .data, .data], laidTests := true, laidLooks := .later }
def LinOrdersUptoCardSaid : Prop := Claim7.holds Tryd.pinned (.plain (OpenSpec.upto linOrdersSpec)) linOrdersUptoCard

/-- THE SECOND FORM's CARD OF 'sherpalaw09.LinAlone'. -/
def linAloneUptoCard : Claim7 := { stood := { row := linAloneUptoRow, standIns := [], harness := (true, "4009778124cfc585dccf9d5651345fc13c1ac5e0b3d0c68f7ba0000705d0707a"), looks := false }, kinds := [], alts := [], laidByText := true, laidKinds := [.data, .data, .data], laidTests := true, laidLooks := .later }
def LinAloneUptoCardSaid : Prop := Claim7.holds Tryd.pinned (.plain (OpenSpec.upto linAloneSpec)) linAloneUptoCard

/-- THE SECOND FORM's CARD OF 'sherpalaw09.LinLegal'. -/
def linLegalUptoCard : Claim7 := { stood := { row := linLegalUptoRow, standIns := [], harness := (true, "4009778124cfc585dccf9d5651345fc13c1ac5e0b3d0c68f7ba0000705d0707a"), looks := false }, kinds := [], alts := [], laidByText := true, laidKinds := [.data, .data, .data], laidTests := true, laidLooks := .later }
def LinLegalUptoCardSaid : Prop := Claim7.holds Tryd.pinned (.plain (OpenSpec.upto linLegalSpec)) linLegalUptoCard

/-- THE SECOND FORM's CARD OF 'sherpalaw09.LinRuns'. -/
def linRunsUptoCard : Claim7 := { stood := { row := linRunsUptoRow, standIns := [], harness := (true, "4009778124cfc585dccf9d5651345fc13c1ac5e0b3d0c68f7ba0000705d0707a"), looks := false }, kinds := [], alts := [], laidByText := true, laidKinds := [.data, .data, .data], laidTests := true, laidLooks := .later }
def LinRunsUptoCardSaid : Prop := Claim7.holds Tryd.pinned (.plain (OpenSpec.upto linRunsSpec)) linRunsUptoCard

/-- THE SECOND FORM's CARD OF 'sherpalaw09.LinLong'. -/
def linLongUptoCard : Claim7 := { stood := { row := linLongUptoRow, standIns := [], harness := (true, "4009778124cfc585dccf9d5651345fc13c1ac5e0b3d0c68f7ba0000705d0707a"), looks := false }, kinds := [], alts := [], laidByText := true, laidKinds := [.data, .data, .data], laidTests := true, laidLooks := .later }
def LinLongUptoCardSaid : Prop := Claim7.holds Tryd.pinned (.plain (OpenSpec.upto linLongSpec)) linLongUptoCard
end Rows
end Go.Proofs.YtboommppikfgnaaDoor
