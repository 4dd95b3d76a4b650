/-
  DERIVED. GIVEN WITH THE SEED: THE CARDS: each row of YteajgkjiappkiaaDoorRows.lean that lists a variable, with what it lists TIED to the program's text (the seventh form; the later family's looks); each row that meets fmt, with fmt's text TOLD by the authors' own Lean function (tested against real Go, not proved from fmt's source: count such statements apart). THE CARD IS WHAT COUNTS. Prove the row's statement (the work); the ties are given (YteajgkjiappkiaaDoorTie.lean); close each card by the builder's one call (the guide's Derived/Test/ToyasCard.lean, 'card_holds'). Laid BY PROGRAM, IN A SANDBOX (cutbox-door.mjs). By AI agents, Wed Nov 11 2026. No macro, syntax, notation, axiom, sorry.
-/
import Derived.Test.YteajgkjiappkiaaDoorRows
import GoSem.ClaimSeven
namespace Go.Proofs.YteajgkjiappkiaaDoor
namespace Rows

/-- THE TIED CARD OF 'chancerylaw1.OctetOrder'. -/
def octetOrderCard : Claim7 := { stood := { row := octetOrderRow, standIns := [], harness := (true, "5706351fd38e2a77bd39fb0cc635f973cd3b6794aecb9a5ef680f083a26a36a7"), looks := false }, kinds := [], alts := [], laidByText := true, laidKinds := [.data, .pinned], laidTests := true, laidLooks := .later }
def OctetOrderCardSaid : Prop := Claim7.holds Tryd.pinned (.plain (OpenSpec.ofChange octetOrderSpec)) octetOrderCard

/-- THE TIED CARD OF 'chancerylaw1.OctetSums'. -/
def octetSumsCard : Claim7 := { stood := { row := octetSumsRow, standIns := [], harness := (true, "5706351fd38e2a77bd39fb0cc635f973cd3b6794aecb9a5ef680f083a26a36a7"), looks := false }, kinds := [], alts := [], laidByText := true, laidKinds := [.data, .pinned], laidTests := true, laidLooks := .later }
def OctetSumsCardSaid : Prop := Claim7.holds Tryd.pinned (.plain (OpenSpec.ofChange octetSumsSpec)) octetSumsCard

/-- THE TIED CARD OF 'chancerylaw1.OctetNumbers'. -/
def octetNumbersCard : Claim7 := { stood := { row := octetNumbersRow, standIns := [], harness := (true, "5706351fd38e2a77bd39fb0cc635f973cd3b6794aecb9a5ef680f083a26a36a7"), looks := false }, kinds := [], alts := [], laidByText := true, laidKinds := [.data, .pinned], laidTests := true, laidLooks := .later }
def OctetNumbersCardSaid : Prop := Claim7.holds Tryd.pinned (.plain (OpenSpec.ofChange octetNumbersSpec)) octetNumbersCard

/-- THE TIED CARD OF 'chancerylaw1.OctetHexes'. -/
def octetHexesCard : Claim7 := { stood := { row := octetHexesRow, standIns := [], harness := (true, "5706351fd38e2a77bd39fb0cc635f973cd3b6794aecb9a5ef680f083a26a36a7"), looks := false }, kinds := [], alts := [], laidByText := true, laidKinds := [.data, .pinned], laidTests := true, laidLooks := .later }
def OctetHexesCardSaid : Prop := Claim7.holds Tryd.pinned (.plain (OpenSpec.ofChange octetHexesSpec)) octetHexesCard

/-- THE TIED CARD OF 'chancerylaw1.OctetGo'. -/
def octetGoCard : Claim7 := { stood := { row := octetGoRow, standIns := [], harness := (true, "5706351fd38e2a77bd39fb0cc635f973cd3b6794aecb9a5ef680f083a26a36a7"), looks := false }, kinds := [], alts := [], laidByText := true, laidKinds := [.data, .pinned], laidTests := true, laidLooks := .later }
def OctetGoCardSaid : Prop := Claim7.holds Tryd.pinned (.plain (OpenSpec.ofChange octetGoSpec)) octetGoCard

/-- THE TIED CARD OF 'chancerylaw1.OctetRunes'. -/
def octetRunesCard : Claim7 := { stood := { row := octetRunesRow, standIns := [], harness := (true, "5706351fd38e2a77bd39fb0cc635f973cd3b6794aecb9a5ef680f083a26a36a7"), looks := false }, kinds := [], alts := [], laidByText := true, laidKinds := [.data, .pinned], laidTests := true, laidLooks := .later }
def OctetRunesCardSaid : Prop := Claim7.holds Tryd.pinned (.plain (OpenSpec.ofChange octetRunesSpec)) octetRunesCard

/-- THE TIED CARD OF 'chancerylaw1.OctetBack'. -/
def octetBackCard : Claim7 := { stood := { row := octetBackRow, standIns := [], harness := (true, "5706351fd38e2a77bd39fb0cc635f973cd3b6794aecb9a5ef680f083a26a36a7"), looks := false }, kinds := [], alts := [], laidByText := true, laidKinds := [.data, .pinned], laidTests := true, laidLooks := .later }
def OctetBackCardSaid : Prop := Claim7.holds Tryd.pinned (.plain (OpenSpec.ofChange octetBackSpec)) octetBackCard

/-- THE SECOND FORM's CARD OF 'chancerylaw1.OctetOrder'. -/
def octetOrderUptoCard : Claim7 := { stood := { row := octetOrderUptoRow, standIns := [], harness := (true, "5706351fd38e2a77bd39fb0cc635f973cd3b6794aecb9a5ef680f083a26a36a7"), looks := false }, kinds := [], alts := [], laidByText := true, laidKinds := [.data, .pinned], laidTests := true, laidLooks := .later }
def OctetOrderUptoCardSaid : Prop := Claim7.holds Tryd.pinned (.plain (OpenSpec.upto octetOrderSpec)) octetOrderUptoCard

/-- THE SECOND FORM's CARD OF 'chancerylaw1.OctetSums'. -/
def octetSumsUptoCard : Claim7 := { stood := { row := octetSumsUptoRow, standIns := [], harness := (true, "5706351fd38e2a77bd39fb0cc635f973cd3b6794aecb9a5ef680f083a26a36a7"), looks := false }, kinds := [], alts := [], laidByText := true, laidKinds := [.data, .pinned], laidTests := true, laidLooks := .later }
def OctetSumsUptoCardSaid : Prop := Claim7.holds Tryd.pinned (.plain (OpenSpec.upto octetSumsSpec)) octetSumsUptoCard

/-- THE SECOND FORM's CARD OF 'chancerylaw1.OctetNumbers'. -/
def octetNumbersUptoCard : Claim7 := { stood := { row := octetNumbersUptoRow, standIns := [], harness := (true, "5706351fd38e2a77bd39fb0cc635f973cd3b6794aecb9a5ef680f083a26a36a7"), looks := false }, kinds := [], alts := [], laidByText := true, laidKinds := [.data, .pinned], laidTests := true, laidLooks := .later }
def OctetNumbersUptoCardSaid : Prop := Claim7.holds Tryd.pinned (.plain (OpenSpec.upto octetNumbersSpec)) octetNumbersUptoCard

/-- THE SECOND FORM's CARD OF 'chancerylaw1.OctetHexes'. -/
def octetHexesUptoCard : Claim7 := { stood := { row := octetHexesUptoRow, standIns := [], harness := (true, "5706351fd38e2a77bd39fb0cc635f973cd3b6794aecb9a5ef680f083a26a36a7"), looks := false }, kinds := [], alts := [], laidByText := true, laidKinds := [.data, .pinned], laidTests := true, laidLooks := .later }
def OctetHexesUptoCardSaid : Prop := Claim7.holds Tryd.pinned (.plain (OpenSpec.upto octetHexesSpec)) octetHexesUptoCard

/-- THE SECOND FORM's CARD OF 'chancerylaw1.OctetGo'. -/
def octetGoUptoCard : Claim7 := { stood := { row := octetGoUptoRow, standIns := [], harness := (true, "5706351fd38e2a77bd39fb0cc635f973cd3b6794aecb9a5ef680f083a26a36a7"), looks := false }, kinds := [], alts := [], laidByText := true, laidKinds := [.data, .pinned], laidTests := true, laidLooks := .later }
def OctetGoUptoCardSaid : Prop := Claim7.holds Tryd.pinned (.plain (OpenSpec.upto octetGoSpec)) octetGoUptoCard

/-- THE SECOND FORM's CARD OF 'chancerylaw1.OctetRunes'. -/
def octetRunesUptoCard : Claim7 := { stood := { row := octetRunesUptoRow, standIns := [], harness := (true, "5706351fd38e2a77bd39fb0cc635f973cd3b6794aecb9a5ef680f083a26a36a7"), looks := false }, kinds := [], alts := [], laidByText := true, laidKinds := [.data, .pinned], laidTests := true, laidLooks := .later }
def OctetRunesUptoCardSaid : Prop := Claim7.holds Tryd.pinned (.plain (OpenSpec.upto octetRunesSpec)) octetRunesUptoCard

/-- THE SECOND FORM's CARD OF 'chancerylaw1.OctetBack'. -/
def octetBackUptoCard : Claim7 := { stood := { row := octetBackUptoRow, standIns := [], harness := (true, "5706351fd38e2a77bd39fb0cc635f973cd3b6794aecb9a5ef680f083a26a36a7"), looks := false }, kinds := [], alts := [], laidByText := true, laidKinds := [.data, .pinned], laidTests := true, laidLooks := .later }
def OctetBackUptoCardSaid : Prop := Claim7.holds Tryd.pinned (.plain (OpenSpec.upto octetBackSpec)) octetBackUptoCard
end Rows
end Go.Proofs.YteajgkjiappkiaaDoor
