/-
  DERIVED. GIVEN WITH THE SEED: THE CARDS: each row of YtiihhpmgfmiacaaDoorRows.lean that lists a variable, with what it lists TIED to the program's text (the seventh form; the later family's looks); each row that meets fmt, with fmt's text TOLD by the authors' own Lean function (tested against real Go, not proved from fmt's source: count such statements apart). THE CARD IS WHAT COUNTS. Prove the row's statement (the work); the ties are given (YtiihhpmgfmiacaaDoorTie.lean); close each card by the builder's one call (the guide's Derived/Test/ToyasCard.lean, 'card_holds'). Laid BY PROGRAM, IN A SANDBOX (cutbox-door.mjs). By AI agents, Wed Nov 11 2026. No macro, syntax, notation, axiom, sorry.
-/
import Derived.Test.YtiihhpmgfmiacaaDoorRows
import GoSem.ClaimSeven
namespace Go.Proofs.YtiihhpmgfmiacaaDoor
namespace Rows

/-- THE TIED CARD OF 'sherpalaw20.SchedParses'. -/
def schedParsesCard : Claim7 := { stood := { row := schedParsesRow, standIns := [], harness := (true, "7a4655841330fa9c644cb9dd68340429ca4d222f7691638607aa63b7f6b4cac8"), looks := false }, kinds := [], alts := [], laidByText := true, laidKinds := [.data, .data, .data, .data, .pinned], laidTests := true, laidLooks := .later }
def SchedParsesCardSaid : Prop := Claim7.holds Tryd.pinned (.plain (OpenSpec.ofChange schedParsesSpec)) schedParsesCard

/-- THE TIED CARD OF 'sherpalaw20.SchedTexts'. -/
def schedTextsCard : Claim7 := { stood := { row := schedTextsRow, standIns := [], harness := (true, "7a4655841330fa9c644cb9dd68340429ca4d222f7691638607aa63b7f6b4cac8"), looks := false }, kinds := [], alts := [], laidByText := true, laidKinds := [.data, .data, .data, .data, .pinned], laidTests := true, laidLooks := .later }
def SchedTextsCardSaid : Prop := Claim7.holds Tryd.pinned (.plain (OpenSpec.ofChange schedTextsSpec)) schedTextsCard

/-- THE TIED CARD OF 'sherpalaw20.SchedAll'. -/
def schedAllCard : Claim7 := { stood := { row := schedAllRow, standIns := [], harness := (true, "7a4655841330fa9c644cb9dd68340429ca4d222f7691638607aa63b7f6b4cac8"), looks := false }, kinds := [], alts := [], laidByText := true, laidKinds := [.data, .data, .data, .data, .pinned], laidTests := true, laidLooks := .later }
def SchedAllCardSaid : Prop := Claim7.holds Tryd.pinned (.plain (OpenSpec.ofChange schedAllSpec)) schedAllCard

/-- THE TIED CARD OF 'sherpalaw20.SchedBlanks'. -/
def schedBlanksCard : Claim7 := { stood := { row := schedBlanksRow, standIns := [], harness := (true, "7a4655841330fa9c644cb9dd68340429ca4d222f7691638607aa63b7f6b4cac8"), looks := false }, kinds := [], alts := [], laidByText := true, laidKinds := [.data, .data, .data, .data, .pinned], laidTests := true, laidLooks := .later }
def SchedBlanksCardSaid : Prop := Claim7.holds Tryd.pinned (.plain (OpenSpec.ofChange schedBlanksSpec)) schedBlanksCard

/-- THE TIED CARD OF 'sherpalaw20.SchedEach'. -/
def schedEachCard : Claim7 := { stood := { row := schedEachRow, standIns := [], harness := (true, "7a4655841330fa9c644cb9dd68340429ca4d222f7691638607aa63b7f6b4cac8"), looks := false }, kinds := [], alts := [], laidByText := true, laidKinds := [.data, .data, .data, .data, .pinned], laidTests := true, laidLooks := .later }
def SchedEachCardSaid : Prop := Claim7.holds Tryd.pinned (.plain (OpenSpec.ofChange schedEachSpec)) schedEachCard

/-- THE TIED CARD OF 'sherpalaw20.SchedJoins'. -/
def schedJoinsCard : Claim7 := { stood := { row := schedJoinsRow, standIns := [], harness := (true, "7a4655841330fa9c644cb9dd68340429ca4d222f7691638607aa63b7f6b4cac8"), looks := false }, kinds := [], alts := [], laidByText := true, laidKinds := [.data, .data, .data, .data, .pinned], laidTests := true, laidLooks := .later }
def SchedJoinsCardSaid : Prop := Claim7.holds Tryd.pinned (.plain (OpenSpec.ofChange schedJoinsSpec)) schedJoinsCard

/-- THE TIED CARD OF 'sherpalaw20.SchedRounds'. -/
def schedRoundsCard : Claim7 := { stood := { row := schedRoundsRow, standIns := [], harness := (true, "7a4655841330fa9c644cb9dd68340429ca4d222f7691638607aa63b7f6b4cac8"), looks := false }, kinds := [], alts := [], laidByText := true, laidKinds := [.data, .data, .data, .data, .pinned], laidTests := true, laidLooks := .later }
def SchedRoundsCardSaid : Prop := Claim7.holds Tryd.pinned (.plain (OpenSpec.ofChange schedRoundsSpec)) schedRoundsCard

/-- THE SECOND FORM's CARD OF 'sherpalaw20.SchedParses'. -/
def schedParsesUptoCard : Claim7 := { stood := { row := schedParsesUptoRow, standIns := [], harness := (true, "7a4655841330fa9c644cb9dd68340429ca4d222f7691638607aa63b7f6b4cac8"), looks := false }, kinds := [], alts := [], laidByText := true, laidKinds := [.data, .data, .data, .data, .pinned], laidTests := true, laidLooks := .later }
def SchedParsesUptoCardSaid : Prop := Claim7.holds Tryd.pinned (.plain (OpenSpec.upto schedParsesSpec)) schedParsesUptoCard

/-- THE SECOND FORM's CARD OF 'sherpalaw20.SchedTexts'. -/
def schedTextsUptoCard : Claim7 := { stood := { row := schedTextsUptoRow, standIns := [], harness := (true, "7a4655841330fa9c644cb9dd68340429ca4d222f7691638607aa63b7f6b4cac8"), looks := false }, kinds := [], alts := [], laidByText := true, laidKinds := [.data, .data, .data, .data, .pinned], laidTests := true, laidLooks := .later }
def SchedTextsUptoCardSaid : Prop := Claim7.holds Tryd.pinned (.plain (OpenSpec.upto schedTextsSpec)) schedTextsUptoCard

/-- THE SECOND FORM's CARD OF 'sherpalaw20.SchedAll'. -/
def schedAllUptoCard : Claim7 := { stood := { row := schedAllUptoRow, standIns := [], harness := (true, "7a4655841330fa9c644cb9dd68340429ca4d222f7691638607aa63b7f6b4cac8"), looks := false }, kinds := [], alts := [], laidByText := true, laidKinds := [.data, .data, .data, .data, .pinned], laidTests := true, laidLooks := .later }
def SchedAllUptoCardSaid : Prop := Claim7.holds Tryd.pinned (.plain (OpenSpec.upto schedAllSpec)) schedAllUptoCard

/-- THE SECOND FORM's CARD OF 'sherpalaw20.SchedBlanks'. -/
def schedBlanksUptoCard : Claim7 := { stood := { row := schedBlanksUptoRow, standIns := [], harness := (true, "7a4655841330fa9c644cb9dd68340429ca4d222f7691638607aa63b7f6b4cac8"), looks := false }, kinds := [], alts := [], laidByText := true, laidKinds := [.data, .data, .data, .data, .pinned], laidTests := true, laidLooks := .later }
def SchedBlanksUptoCardSaid : Prop := Claim7.holds Tryd.pinned (.plain (OpenSpec.upto schedBlanksSpec)) schedBlanksUptoCard

/-- THE SECOND FORM's CARD OF 'sherpalaw20.SchedEach'. -/
def schedEachUptoCard : Claim7 := { stood := { row := schedEachUptoRow, standIns := [], harness := (true, "7a4655841330fa9c644cb9dd68340429ca4d222f7691638607aa63b7f6b4cac8"), looks := false }, kinds := [], alts := [], laidByText := true, laidKinds := [.data, .data, .data, .data, .pinned], laidTests := true, laidLooks := .later }
def SchedEachUptoCardSaid : Prop := Claim7.holds Tryd.pinned (.plain (OpenSpec.upto schedEachSpec)) schedEachUptoCard

/-- THE SECOND FORM's CARD OF 'sherpalaw20.SchedJoins'. -/
def schedJoinsUptoCard : Claim7 := { stood := { row := schedJoinsUptoRow, standIns := [], harness := (true, "7a4655841330fa9c644cb9dd68340429ca4d222f7691638607aa63b7f6b4cac8"), looks := false }, kinds := [], alts := [], laidByText := true, laidKinds := [.data, .data, .data, .data, .pinned], laidTests := true, laidLooks := .later }
def SchedJoinsUptoCardSaid : Prop := Claim7.holds Tryd.pinned (.plain (OpenSpec.upto schedJoinsSpec)) schedJoinsUptoCard

/-- THE SECOND FORM's CARD OF 'sherpalaw20.SchedRounds'. -/
def schedRoundsUptoCard : Claim7 := { stood := { row := schedRoundsUptoRow, standIns := [], harness := (true, "7a4655841330fa9c644cb9dd68340429ca4d222f7691638607aa63b7f6b4cac8"), looks := false }, kinds := [], alts := [], laidByText := true, laidKinds := [.data, .data, .data, .data, .pinned], laidTests := true, laidLooks := .later }
def SchedRoundsUptoCardSaid : Prop := Claim7.holds Tryd.pinned (.plain (OpenSpec.upto schedRoundsSpec)) schedRoundsUptoCard
end Rows
end Go.Proofs.YtiihhpmgfmiacaaDoor
