/-
  DERIVED. GIVEN WITH THE SEED: THE CARDS: each row of YtinkcffklomneaaDoorRows.lean that lists a variable, with what it lists TIED to the program's text (the seventh form; the later family's looks); each row that meets fmt, with fmt's text TOLD by the authors' own Lean function (tested against real Go, not proved from fmt's source: count such statements apart). THE CARD IS WHAT COUNTS. Prove the row's statement (the work); the ties are given (YtinkcffklomneaaDoorTie.lean); close each card by the builder's one call (the guide's Derived/Test/ToyasCard.lean, 'card_holds'). Laid BY PROGRAM, IN A SANDBOX (cutbox-door.mjs). By AI agents, Wed Nov 11 2026. No macro, syntax, notation, axiom, sorry.
-/
import Derived.Test.YtinkcffklomneaaDoorRows
import GoSem.ClaimSeven
namespace Go.Proofs.YtinkcffklomneaaDoor
namespace Rows

/-- THE TIED CARD OF 'doormanlaw11.OpLines'. -/
def opLinesCard : Claim7 := { stood := { row := opLinesRow, standIns := [], harness := (true, "12f2c9f372caeb371b9f8a985f0b8b519893e217908945a358e8c08d97a402e3"), looks := false }, kinds := [], alts := [], laidByText := true, laidKinds := [.data, .data, .data, .data, .data, .pinned, .pinned, .pinned, .pinned, .pinned, .pinned], laidTests := true, laidLooks := .later }
def OpLinesCardSaid : Prop := Claim7.holds Tryd.pinned (.plain (OpenSpec.ofChange opLinesSpec)) opLinesCard

/-- THE TIED CARD OF 'doormanlaw11.OpWords'. -/
def opWordsCard : Claim7 := { stood := { row := opWordsRow, standIns := [], harness := (true, "12f2c9f372caeb371b9f8a985f0b8b519893e217908945a358e8c08d97a402e3"), looks := false }, kinds := [], alts := [], laidByText := true, laidKinds := [.data, .data, .data, .data, .data, .pinned, .pinned, .pinned, .pinned, .pinned, .pinned], laidTests := true, laidLooks := .later }
def OpWordsCardSaid : Prop := Claim7.holds Tryd.pinned (.plain (OpenSpec.ofChange opWordsSpec)) opWordsCard

/-- THE TIED CARD OF 'doormanlaw11.OpReplies'. -/
def opRepliesCard : Claim7 := { stood := { row := opRepliesRow, standIns := [], harness := (true, "12f2c9f372caeb371b9f8a985f0b8b519893e217908945a358e8c08d97a402e3"), looks := false }, kinds := [], alts := [], laidByText := true, laidKinds := [.data, .data, .data, .data, .data, .pinned, .pinned, .pinned, .pinned, .pinned, .pinned], laidTests := true, laidLooks := .later }
def OpRepliesCardSaid : Prop := Claim7.holds Tryd.pinned (.plain (OpenSpec.ofChange opRepliesSpec)) opRepliesCard

/-- THE TIED CARD OF 'doormanlaw11.OpApart'. -/
def opApartCard : Claim7 := { stood := { row := opApartRow, standIns := [], harness := (true, "12f2c9f372caeb371b9f8a985f0b8b519893e217908945a358e8c08d97a402e3"), looks := false }, kinds := [], alts := [], laidByText := true, laidKinds := [.data, .data, .data, .data, .data, .pinned, .pinned, .pinned, .pinned, .pinned, .pinned], laidTests := true, laidLooks := .later }
def OpApartCardSaid : Prop := Claim7.holds Tryd.pinned (.plain (OpenSpec.ofChange opApartSpec)) opApartCard

/-- THE TIED CARD OF 'doormanlaw11.OpLost'. -/
def opLostCard : Claim7 := { stood := { row := opLostRow, standIns := [], harness := (true, "12f2c9f372caeb371b9f8a985f0b8b519893e217908945a358e8c08d97a402e3"), looks := false }, kinds := [], alts := [], laidByText := true, laidKinds := [.data, .data, .data, .data, .data, .pinned, .pinned, .pinned, .pinned, .pinned, .pinned], laidTests := true, laidLooks := .later }
def OpLostCardSaid : Prop := Claim7.holds Tryd.pinned (.plain (OpenSpec.ofChange opLostSpec)) opLostCard

/-- THE SECOND FORM's CARD OF 'doormanlaw11.OpLines'. -/
def opLinesUptoCard : Claim7 := { stood := { row := opLinesUptoRow, standIns := [], harness := (true, "12f2c9f372caeb371b9f8a985f0b8b519893e217908945a358e8c08d97a402e3"), looks := false }, kinds := [], alts := [], laidByText := true, laidKinds := [.data, .data, .data, .data, .data, .pinned, .pinned, .pinned, .pinned, .pinned, .pinned], laidTests := true, laidLooks := .later }
def OpLinesUptoCardSaid : Prop := Claim7.holds Tryd.pinned (.plain (OpenSpec.upto opLinesSpec)) opLinesUptoCard

/-- THE SECOND FORM's CARD OF 'doormanlaw11.OpWords'. -/
def opWordsUptoCard : Claim7 := { stood := { row := opWordsUptoRow, standIns := [], harness := (true, "12f2c9f372caeb371b9f8a985f0b8b519893e217908945a358e8c08d97a402e3"), looks := false }, kinds := [], alts := [], laidByText := true, laidKinds := [.data, .data, .data, .data, .data, .pinned, .pinned, .pinned, .pinned, .pinned, .pinned], laidTests := true, laidLooks := .later }
def OpWordsUptoCardSaid : Prop := Claim7.holds Tryd.pinned (.plain (OpenSpec.upto opWordsSpec)) opWordsUptoCard

/-- THE SECOND FORM's CARD OF 'doormanlaw11.OpReplies'. -/
def opRepliesUptoCard : Claim7 := { stood := { row := opRepliesUptoRow, standIns := [], harness := (true, "12f2c9f372caeb371b9f8a985f0b8b519893e217908945a358e8c08d97a402e3"), looks := false }, kinds := [], alts := [], laidByText := true, laidKinds := [.data, .data, .data, .data, .data, .pinned, .pinned, .pinned, .pinned, .pinned, .pinned], laidTests := true, laidLooks := .later }
def OpRepliesUptoCardSaid : Prop := Claim7.holds Tryd.pinned (.plain (OpenSpec.upto opRepliesSpec)) opRepliesUptoCard

/-- THE SECOND FORM's CARD OF 'doormanlaw11.OpApart'. -/
def opApartUptoCard : Claim7 := { stood := { row := opApartUptoRow, standIns := [], harness := (true, "12f2c9f372caeb371b9f8a985f0b8b519893e217908945a358e8c08d97a402e3"), looks := false }, kinds := [], alts := [], laidByText := true, laidKinds := [.data, .data, .data, .data, .data, .pinned, .pinned, .pinned, .pinned, .pinned, .pinned], laidTests := true, laidLooks := .later }
def OpApartUptoCardSaid : Prop := Claim7.holds Tryd.pinned (.plain (OpenSpec.upto opApartSpec)) opApartUptoCard

/-- THE SECOND FORM's CARD OF 'doormanlaw11.OpLost'. -/
def opLostUptoCard : Claim7 := { stood := { row := opLostUptoRow, standIns := [], harness := (true, "12f2c9f372caeb371b9f8a985f0b8b519893e217908945a358e8c08d97a402e3"), looks := false }, kinds := [], alts := [], laidByText := true, laidKinds := [.data, .data, .data, .data, .data, .pinned, .pinned, .pinned, .pinned, .pinned, .pinned], laidTests := true, laidLooks := .later }
def OpLostUptoCardSaid : Prop := Claim7.holds Tryd.pinned (.plain (OpenSpec.upto opLostSpec)) opLostUptoCard
end Rows
end Go.Proofs.YtinkcffklomneaaDoor
