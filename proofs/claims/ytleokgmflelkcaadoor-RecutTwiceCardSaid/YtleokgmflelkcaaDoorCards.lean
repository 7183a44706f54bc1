/-
  DERIVED. GIVEN WITH THE SEED: THE CARDS: each row of YtleokgmflelkcaaDoorRows.lean that lists a variable, with what it lists TIED to the program's text (the seventh form; the later family's looks); each row that meets fmt, with fmt's text TOLD by the authors' own Lean function (tested against real Go, not proved from fmt's source: count such statements apart). THE CARD IS WHAT COUNTS. Prove the row's statement (the work); the ties are given (YtleokgmflelkcaaDoorTie.lean); close each card by the builder's one call (the guide's Derived/Test/ToyasCard.lean, 'card_holds'). Laid BY PROGRAM, IN A SANDBOX (cutbox-door.mjs). By AI agents, Wed Nov 11 2026. No macro, syntax, notation, axiom, sorry.
-/
import Derived.Test.YtleokgmflelkcaaDoorRows
import GoSem.ClaimSeven
namespace Go.Proofs.YtleokgmflelkcaaDoor
namespace Rows

/-- THE TIED CARD OF 'mosaiclaw11.RecutCuts'. -/
def recutCutsCard : Claim7 := { stood := { row := recutCutsRow, standIns := [], harness := (true, "390b506eab238ad88a95ba512d4f6c8e36d0290cbc60adfd40598f8ebf161a14"), looks := false }, kinds := [], alts := [], laidByText := true, laidKinds := [.data], laidTests := true, laidLooks := .later }
def RecutCutsCardSaid : Prop := Claim7.holds Tryd.pinned (.plain (OpenSpec.ofChange recutCutsSpec)) recutCutsCard

/-- THE TIED CARD OF 'mosaiclaw11.RecutAsks'. -/
def recutAsksCard : Claim7 := { stood := { row := recutAsksRow, standIns := [], harness := (true, "390b506eab238ad88a95ba512d4f6c8e36d0290cbc60adfd40598f8ebf161a14"), looks := false }, kinds := [], alts := [], laidByText := true, laidKinds := [.data], laidTests := true, laidLooks := .later }
def RecutAsksCardSaid : Prop := Claim7.holds Tryd.pinned (.plain (OpenSpec.ofChange recutAsksSpec)) recutAsksCard

/-- THE TIED CARD OF 'mosaiclaw11.RecutJoins'. -/
def recutJoinsCard : Claim7 := { stood := { row := recutJoinsRow, standIns := [], harness := (true, "390b506eab238ad88a95ba512d4f6c8e36d0290cbc60adfd40598f8ebf161a14"), looks := false }, kinds := [], alts := [], laidByText := true, laidKinds := [.data], laidTests := true, laidLooks := .later }
def RecutJoinsCardSaid : Prop := Claim7.holds Tryd.pinned (.plain (OpenSpec.ofChange recutJoinsSpec)) recutJoinsCard

/-- THE TIED CARD OF 'mosaiclaw11.RecutBack'. -/
def recutBackCard : Claim7 := { stood := { row := recutBackRow, standIns := [], harness := (true, "390b506eab238ad88a95ba512d4f6c8e36d0290cbc60adfd40598f8ebf161a14"), looks := false }, kinds := [], alts := [], laidByText := true, laidKinds := [.data], laidTests := true, laidLooks := .later }
def RecutBackCardSaid : Prop := Claim7.holds Tryd.pinned (.plain (OpenSpec.ofChange recutBackSpec)) recutBackCard

/-- THE TIED CARD OF 'mosaiclaw11.RecutTwice'. -/
def recutTwiceCard : Claim7 := { stood := { row := recutTwiceRow, standIns := [], harness := (true, "390b506eab238ad88a95ba512d4f6c8e36d0290cbc60adfd40598f8ebf161a14"), looks := false }, kinds := [], alts := [], laidByText := true, laidKinds := [.data], laidTests := true, laidLooks := .later }
def RecutTwiceCardSaid : Prop := Claim7.holds Tryd.pinned (.plain (OpenSpec.ofChange recutTwiceSpec)) recutTwiceCard

/-- THE TIED CARD OF 'mosaiclaw11.RecutFew'. -/
def recutFewCard : Claim7 := { stood := { row := recutFewRow, standIns := [], harness := (true, "390b506eab238ad88a95ba512d4f6c8e36d0290cbc60adfd40598f8ebf161a14"), looks := false }, kinds := [], alts := [], laidByText := true, laidKinds := [.data], laidTests := true, laidLooks := .later }
def RecutFewCardSaid : Prop := Claim7.holds Tryd.pinned (.plain (OpenSpec.ofChange recutFewSpec)) recutFewCard

/-- THE TIED CARD OF 'mosaiclaw11.RecutRefuses'. -/
def recutRefusesCard : Claim7 := { stood := { row := recutRefusesRow, standIns := [], harness := (true, "390b506eab238ad88a95ba512d4f6c8e36d0290cbc60adfd40598f8ebf161a14"), looks := false }, kinds := [], alts := [], laidByText := true, laidKinds := [.data], laidTests := true, laidLooks := .later }
def RecutRefusesCardSaid : Prop := Claim7.holds Tryd.pinned (.plain (OpenSpec.ofChange recutRefusesSpec)) recutRefusesCard

/-- THE TIED CARD OF 'mosaiclaw11.RecutKeeps'. -/
def recutKeepsCard : Claim7 := { stood := { row := recutKeepsRow, standIns := [], harness := (true, "390b506eab238ad88a95ba512d4f6c8e36d0290cbc60adfd40598f8ebf161a14"), looks := false }, kinds := [], alts := [], laidByText := true, laidKinds := [.data], laidTests := true, laidLooks := .later }
def RecutKeepsCardSaid : Prop := Claim7.holds Tryd.pinned (.plain (OpenSpec.ofChange recutKeepsSpec)) recutKeepsCard

/-- THE SECOND FORM's CARD OF 'mosaiclaw11.RecutCuts'. -/
def recutCutsUptoCard : Claim7 := { stood := { row := recutCutsUptoRow, standIns := [], harness := (true, "390b506eab238ad88a95ba512d4f6c8e36d0290cbc60adfd40598f8ebf161a14"), looks := false }, kinds := [], alts := [], laidByText := true, laidKinds := [.data], laidTests := true, laidLooks := .later }
def RecutCutsUptoCardSaid : Prop := Claim7.holds Tryd.pinned (.plain (OpenSpec.upto recutCutsSpec)) recutCutsUptoCard

/-- THE SECOND FORM's CARD OF 'mosaiclaw11.RecutAsks'. -/
def recutAsksUptoCard : Claim7 := { stood := { row := recutAsksUptoRow, standIns := [], harness := (true, "390b506eab238ad88a95ba512d4f6c8e36d0290cbc60adfd40598f8ebf161a14"), looks := false }, kinds := [], alts := [], laidByText := true, laidKinds := [.data], laidTests := true, laidLooks := .later }
def RecutAsksUptoCardSaid : Prop := Claim7.holds Tryd.pinned (.plain (OpenSpec.upto recutAsksSpec)) recutAsksUptoCard

/-- THE SECOND FORM's CARD OF 'mosaiclaw11.RecutJoins'. -/
def recutJoinsUptoCard : Claim7 := { stood := { row := recutJoinsUptoRow, standIns := [], harness := (true, "390b506eab238ad88a95ba512d4f6c8e36d0290cbc60adfd40598f8ebf161a14"), looks := false }, kinds := [], alts := [], laidByText := true, laidKinds := [.data], laidTests := true, laidLooks := .later }
def RecutJoinsUptoCardSaid : Prop := Claim7.holds Tryd.pinned (.plain (OpenSpec.upto recutJoinsSpec)) recutJoinsUptoCard

/-- THE SECOND FORM's CARD OF 'mosaiclaw11.RecutBack'. -/
def recutBackUptoCard : Claim7 := { stood := { row := recutBackUptoRow, standIns := [], harness := (true, "390b506eab238ad88a95ba512d4f6c8e36d0290cbc60adfd40598f8ebf161a14"), looks := false }, kinds := [], alts := [], laidByText := true, laidKinds := [.data], laidTests := true, laidLooks := .later }
def RecutBackUptoCardSaid : Prop := Claim7.holds Tryd.pinned (.plain (OpenSpec.upto recutBackSpec)) recutBackUptoCard

/-- THE SECOND FORM's CARD OF 'mosaiclaw11.RecutTwice'. -/
def recutTwiceUptoCard : Claim7 := { stood := { row := recutTwiceUptoRow, standIns := [], harness := (true, "390b506eab238ad88a95ba512d4f6c8e36d0290cbc60adfd40598f8ebf161a14"), looks := false }, kinds := [], alts := [], laidByText := true, laidKinds := [.data], laidTests := true, laidLooks := .later }
def RecutTwiceUptoCardSaid : Prop := Claim7.holds Tryd.pinned (.plain (OpenSpec.upto recutTwiceSpec)) recutTwiceUptoCard

/-- THE SECOND FORM's CARD OF 'mosaiclaw11.RecutFew'. -/
def recutFewUptoCard : Claim7 := { stood := { row := recutFewUptoRow, standIns := [], harness := (true, "390b506eab238ad88a95ba512d4f6c8e36d0290cbc60adfd40598f8ebf161a14"), looks := false }, kinds := [], alts := [], laidByText := true, laidKinds := [.data], laidTests := true, laidLooks := .later }
def RecutFewUptoCardSaid : Prop := Claim7.holds Tryd.pinned (.plain (OpenSpec.upto recutFewSpec)) recutFewUptoCard

/-- THE SECOND FORM's CARD OF 'mosaiclaw11.RecutRefuses'. -/
def recutRefusesUptoCard : Claim7 := { stood := { row := recutRefusesUptoRow, standIns := [], harness := (true, "390b506eab238ad88a95ba512d4f6c8e36d0290cbc60adfd40598f8ebf161a14"), looks := false }, kinds := [], alts := [], laidByText := true, laidKinds := [.data], laidTests := true, laidLooks := .later }
def RecutRefusesUptoCardSaid : Prop := Claim7.holds Tryd.pinned (.plain (OpenSpec.upto recutRefusesSpec)) recutRefusesUptoCard

/-- THE SECOND FORM's CARD OF 'mosaiclaw11.RecutKeeps'. -/
def recutKeepsUptoCard : Claim7 := { stood := { row := recutKeepsUptoRow, standIns := [], harness := (true, "390b506eab238ad88a95ba512d4f6c8e36d0290cbc60adfd40598f8ebf161a14"), looks := false }, kinds := [], alts := [], laidByText := true, laidKinds := [.data], laidTests := true, laidLooks := .later }
def RecutKeepsUptoCardSaid : Prop := Claim7.holds Tryd.pinned (.plain (OpenSpec.upto recutKeepsSpec)) recutKeepsUptoCard
end Rows
end Go.Proofs.YtleokgmflelkcaaDoor
