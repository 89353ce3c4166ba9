/-
  DERIVED. GIVEN WITH THE SEED: THE CARDS: each row of YthlfbdkhcejlmaaDoorRows.lean that lists a variable, with what it lists TIED to the program's text (the seventh form; the later family's looks); each row that meets fmt, with fmt's text TOLD by the authors' own Lean function (tested against real Go, not proved from fmt's source: count such statements apart). THE CARD IS WHAT COUNTS. Prove the row's statement (the work); the ties are given (YthlfbdkhcejlmaaDoorTie.lean); close each card by the builder's one call (the guide's Derived/Test/ToyasCard.lean, 'card_holds'). Laid BY PROGRAM, IN A SANDBOX (cutbox-door.mjs). By AI agents, Wed Nov 11 2026. No macro, syntax, notation, axiom, sorry.
-/
import Derived.Test.YthlfbdkhcejlmaaDoorRows
import GoSem.ClaimSeven
namespace Go.Proofs.YthlfbdkhcejlmaaDoor
namespace Rows

/-- THE TIED CARD OF 'doormanlaw12.OcodeReads'. -/
def ocodeReadsCard : Claim7 := { stood := { row := ocodeReadsRow, standIns := [], harness := (true, "6b2e4aa3f3fcf72856c29b6607fbf63d0cd71ea2fa4ed6c46d8643cf26ade115"), looks := false }, kinds := [], alts := [], laidByText := true, laidKinds := [.data], laidTests := true, laidLooks := .later }
def OcodeReadsCardSaid : Prop := Claim7.holds Tryd.pinned (.plain (OpenSpec.ofChange ocodeReadsSpec)) ocodeReadsCard

/-- THE TIED CARD OF 'doormanlaw12.OcodeEnds'. -/
def ocodeEndsCard : Claim7 := { stood := { row := ocodeEndsRow, standIns := [], harness := (true, "6b2e4aa3f3fcf72856c29b6607fbf63d0cd71ea2fa4ed6c46d8643cf26ade115"), looks := false }, kinds := [], alts := [], laidByText := true, laidKinds := [.data], laidTests := true, laidLooks := .later }
def OcodeEndsCardSaid : Prop := Claim7.holds Tryd.pinned (.plain (OpenSpec.ofChange ocodeEndsSpec)) ocodeEndsCard

/-- THE TIED CARD OF 'doormanlaw12.OcodePicks'. -/
def ocodePicksCard : Claim7 := { stood := { row := ocodePicksRow, standIns := [], harness := (true, "6b2e4aa3f3fcf72856c29b6607fbf63d0cd71ea2fa4ed6c46d8643cf26ade115"), looks := false }, kinds := [], alts := [], laidByText := true, laidKinds := [.data], laidTests := true, laidLooks := .later }
def OcodePicksCardSaid : Prop := Claim7.holds Tryd.pinned (.plain (OpenSpec.ofChange ocodePicksSpec)) ocodePicksCard

/-- THE TIED CARD OF 'doormanlaw12.OcodeOps'. -/
def ocodeOpsCard : Claim7 := { stood := { row := ocodeOpsRow, standIns := [], harness := (true, "6b2e4aa3f3fcf72856c29b6607fbf63d0cd71ea2fa4ed6c46d8643cf26ade115"), looks := false }, kinds := [], alts := [], laidByText := true, laidKinds := [.data], laidTests := true, laidLooks := .later }
def OcodeOpsCardSaid : Prop := Claim7.holds Tryd.pinned (.plain (OpenSpec.ofChange ocodeOpsSpec)) ocodeOpsCard

/-- THE TIED CARD OF 'doormanlaw12.OcodeMay'. -/
def ocodeMayCard : Claim7 := { stood := { row := ocodeMayRow, standIns := [], harness := (true, "6b2e4aa3f3fcf72856c29b6607fbf63d0cd71ea2fa4ed6c46d8643cf26ade115"), looks := false }, kinds := [], alts := [], laidByText := true, laidKinds := [.data], laidTests := true, laidLooks := .later }
def OcodeMayCardSaid : Prop := Claim7.holds Tryd.pinned (.plain (OpenSpec.ofChange ocodeMaySpec)) ocodeMayCard

/-- THE TIED CARD OF 'doormanlaw12.OcodeChecks'. -/
def ocodeChecksCard : Claim7 := { stood := { row := ocodeChecksRow, standIns := [], harness := (true, "6b2e4aa3f3fcf72856c29b6607fbf63d0cd71ea2fa4ed6c46d8643cf26ade115"), looks := false }, kinds := [], alts := [], laidByText := true, laidKinds := [.data], laidTests := true, laidLooks := .later }
def OcodeChecksCardSaid : Prop := Claim7.holds Tryd.pinned (.plain (OpenSpec.ofChange ocodeChecksSpec)) ocodeChecksCard

/-- THE SECOND FORM's CARD OF 'doormanlaw12.OcodeReads'. -/
def ocodeReadsUptoCard : Claim7 := { stood := { row := ocodeReadsUptoRow, standIns := [], harness := (true, "6b2e4aa3f3fcf72856c29b6607fbf63d0cd71ea2fa4ed6c46d8643cf26ade115"), looks := false }, kinds := [], alts := [], laidByText := true, laidKinds := [.data], laidTests := true, laidLooks := .later }
def OcodeReadsUptoCardSaid : Prop := Claim7.holds Tryd.pinned (.plain (OpenSpec.upto ocodeReadsSpec)) ocodeReadsUptoCard

/-- THE SECOND FORM's CARD OF 'doormanlaw12.OcodeEnds'. -/
def ocodeEndsUptoCard : Claim7 := { stood := { row := ocodeEndsUptoRow, standIns := [], harness := (true, "6b2e4aa3f3fcf72856c29b6607fbf63d0cd71ea2fa4ed6c46d8643cf26ade115"), looks := false }, kinds := [], alts := [], laidByText := true, laidKinds := [.data], laidTests := true, laidLooks := .later }
def OcodeEndsUptoCardSaid : Prop := Claim7.holds Tryd.pinned (.plain (OpenSpec.upto ocodeEndsSpec)) ocodeEndsUptoCard

/-- THE SECOND FORM's CARD OF 'doormanlaw12.OcodePicks'. -/
def ocodePicksUptoCard : Claim7 := { stood := { row := ocodePicksUptoRow, standIns := [], harness := (true, "6b2e4aa3f3fcf72856c29b6607fbf63d0cd71ea2fa4ed6c46d8643cf26ade115"), looks := false }, kinds := [], alts := [], laidByText := true, laidKinds := [.data], laidTests := true, laidLooks := .later }
def OcodePicksUptoCardSaid : Prop := Claim7.holds Tryd.pinned (.plain (OpenSpec.upto ocodePicksSpec)) ocodePicksUptoCard

/-- THE SECOND FORM's CARD OF 'doormanlaw12.OcodeOps'. -/
def ocodeOpsUptoCard : Claim7 := { stood := { row := ocodeOpsUptoRow, standIns := [], harness := (true, "6b2e4aa3f3fcf72856c29b6607fbf63d0cd71ea2fa4ed6c46d8643cf26ade115"), looks := false }, kinds := [], alts := [], laidByText := true, laidKinds := [.data], laidTests := true, laidLooks := .later }
def OcodeOpsUptoCardSaid : Prop := Claim7.holds Tryd.pinned (.plain (OpenSpec.upto ocodeOpsSpec)) ocodeOpsUptoCard

/-- THE SECOND FORM's CARD OF 'doormanlaw12.OcodeMay'. -/
def ocodeMayUptoCard : Claim7 := { stood := { row := ocodeMayUptoRow, standIns := [], harness := (true, "6b2e4aa3f3fcf72856c29b6607fbf63d0cd71ea2fa4ed6c46d8643cf26ade115"), looks := false }, kinds := [], alts := [], laidByText := true, laidKinds := [.data], laidTests := true, laidLooks := .later }
def OcodeMayUptoCardSaid : Prop := Claim7.holds Tryd.pinned (.plain (OpenSpec.upto ocodeMaySpec)) ocodeMayUptoCard

/-- THE SECOND FORM's CARD OF 'doormanlaw12.OcodeChecks'. -/
def ocodeChecksUptoCard : Claim7 := { stood := { row := ocodeChecksUptoRow, standIns := [], harness := (true, "6b2e4aa3f3fcf72856c29b6607fbf63d0cd71ea2fa4ed6c46d8643cf26ade115"), looks := false }, kinds := [], alts := [], laidByText := true, laidKinds := [.data], laidTests := true, laidLooks := .later }
def OcodeChecksUptoCardSaid : Prop := Claim7.holds Tryd.pinned (.plain (OpenSpec.upto ocodeChecksSpec)) ocodeChecksUptoCard
end Rows
end Go.Proofs.YthlfbdkhcejlmaaDoor
