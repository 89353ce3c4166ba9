/-
  No cell of these rows narrows 'for every input' (looked for: loops, veiled, ifaces, maps, wideKeys, modest, calm, conditions, laid).
  DERIVED. THE GIVEN ROWS OF THIS SEAT. 10 by the template 'for every input the law returns true; each argument reads behind the call as it read before'; 0 by the template 'total and deterministic' (their statements: YtfkpjdcjjfpigaaTotals.lean).
  GIVEN WITH THE SEED: the statements are not yours to turn. If you find one false, say at which input.
  Laid BY PROGRAM, IN A SANDBOX (cutbox-rows.mjs): the forced cells as the released guide's own fill.sh prints them over the translation d074630365d71a1b… (all of the seat's roots in one cut). By AI agents, Wed Nov 11 2026. No macro, syntax, notation, axiom, sorry.
-/
import Derived.Test.YtfkpjdcjjfpigaaChecked
import GoSem.Claim
import GoSem.ClaimJoined
import GoSem.ClaimMapViews
import Derived.JoinedTies
import Derived.KernelRfl
namespace Go.Proofs.Ytfkpjdcjjfpigaa
/- THE CELL 'sum', in the pinned program and in every row, IS THE sha256 OF THE DUMP (.gsa) THAT YtfkpjdcjjfpigaaProg.lean LOADS. Nothing in Lean hashes anything: it is a label: what it is worth is what the hold of that sum in a sandbox is worth. -/
noncomputable def Try.pinned : Pinned := { name := "ytfkpjdcjjfpigaa", sum := "d074630365d71a1b5c1524aded92f2444e533ffaf9aad8ef67be0b8efc9d1e2d", checked := Try.checked }
namespace Rows
def none {H : Type} : Left H := { results := [], args := [] }

/-- 'doormanlaw04.OmapStops': WHATEVER THE INPUT: true; the input reads as it did. -/
def omapStopsSpec : ChangeSpec := { name := "omapStops", fn := fun _ => fun
  | [d1, d2] => { results := [.lit (.bool true)], args := [d1, d2] }
  | _ => none }
def omapStopsRow : OpenClaim := { program := "ytfkpjdcjjfpigaa", sum := "d074630365d71a1b5c1524aded92f2444e533ffaf9aad8ef67be0b8efc9d1e2d", func := "doorman/doormanlaw04.OmapStops", spec := "omapStops", inPlace := ["slices.overlaps[int]", "slices.overlaps[string]"], unfollowed := true, recurses := true, apart := false }
def OmapStopsSaid : Prop := omapStopsRow.holds Try.pinned (OpenSpec.ofChange omapStopsSpec)

/-- ITS FALSE NEIGHBOUR: 'it returns false'. Refute it at one input. -/
def omapStopsWrong : ChangeSpec := { name := "omapStops", fn := fun _ => fun
  | [d1, d2] => { results := [.lit (.bool false)], args := [d1, d2] }
  | _ => none }
def OmapStopsWrongFalsely : Prop := omapStopsRow.holds Try.pinned (OpenSpec.ofChange omapStopsWrong)

/-- 'doormanlaw06.SessRoom': WHATEVER THE INPUT: true; the input reads as it did. -/
def sessRoomSpec : ChangeSpec := { name := "sessRoom", fn := fun _ => fun
  | [d1, d2, d3] => { results := [.lit (.bool true)], args := [d1, d2, d3] }
  | _ => none }
def sessRoomRow : OpenClaim := { program := "ytfkpjdcjjfpigaa", sum := "d074630365d71a1b5c1524aded92f2444e533ffaf9aad8ef67be0b8efc9d1e2d", func := "doorman/doormanlaw06.SessRoom", spec := "sessRoom", inPlace := ["slices.overlaps[doorman/api.Session]"], unfollowed := true, recurses := true, apart := false }
def SessRoomSaid : Prop := sessRoomRow.holds Try.pinned (OpenSpec.ofChange sessRoomSpec)

/-- ITS FALSE NEIGHBOUR: 'it returns false'. Refute it at one input. -/
def sessRoomWrong : ChangeSpec := { name := "sessRoom", fn := fun _ => fun
  | [d1, d2, d3] => { results := [.lit (.bool false)], args := [d1, d2, d3] }
  | _ => none }
def SessRoomWrongFalsely : Prop := sessRoomRow.holds Try.pinned (OpenSpec.ofChange sessRoomWrong)

/-- 'doormanlaw06.SessRight': WHATEVER THE INPUT: true; the input reads as it did. -/
def sessRightSpec : ChangeSpec := { name := "sessRight", fn := fun _ => fun
  | [d1, d2, d3] => { results := [.lit (.bool true)], args := [d1, d2, d3] }
  | _ => none }
def sessRightRow : OpenClaim := { program := "ytfkpjdcjjfpigaa", sum := "d074630365d71a1b5c1524aded92f2444e533ffaf9aad8ef67be0b8efc9d1e2d", func := "doorman/doormanlaw06.SessRight", spec := "sessRight", inPlace := ["slices.overlaps[doorman/api.Session]"], unfollowed := true, recurses := true, apart := false }
def SessRightSaid : Prop := sessRightRow.holds Try.pinned (OpenSpec.ofChange sessRightSpec)

/-- ITS FALSE NEIGHBOUR: 'it returns false'. Refute it at one input. -/
def sessRightWrong : ChangeSpec := { name := "sessRight", fn := fun _ => fun
  | [d1, d2, d3] => { results := [.lit (.bool false)], args := [d1, d2, d3] }
  | _ => none }
def SessRightWrongFalsely : Prop := sessRightRow.holds Try.pinned (OpenSpec.ofChange sessRightWrong)

/-- 'doormanlaw04.OmapNumbers': WHATEVER THE INPUT: true; the input reads as it did. -/
def omapNumbersSpec : ChangeSpec := { name := "omapNumbers", fn := fun _ => fun
  | [d] => { results := [.lit (.bool true)], args := [d] }
  | _ => none }
def omapNumbersRow : OpenClaim := { program := "ytfkpjdcjjfpigaa", sum := "d074630365d71a1b5c1524aded92f2444e533ffaf9aad8ef67be0b8efc9d1e2d", func := "doorman/doormanlaw04.OmapNumbers", spec := "omapNumbers", inPlace := ["slices.overlaps[int]", "slices.overlaps[string]", "slices.overlaps[uint64]"], unfollowed := true, recurses := true, apart := false }
def OmapNumbersSaid : Prop := omapNumbersRow.holds Try.pinned (OpenSpec.ofChange omapNumbersSpec)

/-- ITS FALSE NEIGHBOUR: 'it returns false'. Refute it at one input. -/
def omapNumbersWrong : ChangeSpec := { name := "omapNumbers", fn := fun _ => fun
  | [d] => { results := [.lit (.bool false)], args := [d] }
  | _ => none }
def OmapNumbersWrongFalsely : Prop := omapNumbersRow.holds Try.pinned (OpenSpec.ofChange omapNumbersWrong)

/-- 'doormanlaw04.OmapPlays': WHATEVER THE INPUT: true; the input reads as it did. -/
def omapPlaysSpec : ChangeSpec := { name := "omapPlays", fn := fun _ => fun
  | [d1, d2] => { results := [.lit (.bool true)], args := [d1, d2] }
  | _ => none }
def omapPlaysRow : OpenClaim := { program := "ytfkpjdcjjfpigaa", sum := "d074630365d71a1b5c1524aded92f2444e533ffaf9aad8ef67be0b8efc9d1e2d", func := "doorman/doormanlaw04.OmapPlays", spec := "omapPlays", inPlace := ["slices.overlaps[int]", "slices.overlaps[string]"], unfollowed := true, recurses := true, apart := false }
def OmapPlaysSaid : Prop := omapPlaysRow.holds Try.pinned (OpenSpec.ofChange omapPlaysSpec)

/-- ITS FALSE NEIGHBOUR: 'it returns false'. Refute it at one input. -/
def omapPlaysWrong : ChangeSpec := { name := "omapPlays", fn := fun _ => fun
  | [d1, d2] => { results := [.lit (.bool false)], args := [d1, d2] }
  | _ => none }
def OmapPlaysWrongFalsely : Prop := omapPlaysRow.holds Try.pinned (OpenSpec.ofChange omapPlaysWrong)

/-- 'doormanlaw04.OmapBack': WHATEVER THE INPUT: true; the input reads as it did. -/
def omapBackSpec : ChangeSpec := { name := "omapBack", fn := fun _ => fun
  | [d1, d2, d3] => { results := [.lit (.bool true)], args := [d1, d2, d3] }
  | _ => none }
def omapBackRow : OpenClaim := { program := "ytfkpjdcjjfpigaa", sum := "d074630365d71a1b5c1524aded92f2444e533ffaf9aad8ef67be0b8efc9d1e2d", func := "doorman/doormanlaw04.OmapBack", spec := "omapBack", inPlace := ["slices.overlaps[int]", "slices.overlaps[string]"], unfollowed := true, recurses := true, apart := false }
def OmapBackSaid : Prop := omapBackRow.holds Try.pinned (OpenSpec.ofChange omapBackSpec)

/-- ITS FALSE NEIGHBOUR: 'it returns false'. Refute it at one input. -/
def omapBackWrong : ChangeSpec := { name := "omapBack", fn := fun _ => fun
  | [d1, d2, d3] => { results := [.lit (.bool false)], args := [d1, d2, d3] }
  | _ => none }
def OmapBackWrongFalsely : Prop := omapBackRow.holds Try.pinned (OpenSpec.ofChange omapBackWrong)

/-- 'doormanlaw04.OmapWhole': WHATEVER THE INPUT: true; the input reads as it did. -/
def omapWholeSpec : ChangeSpec := { name := "omapWhole", fn := fun _ => fun
  | [d] => { results := [.lit (.bool true)], args := [d] }
  | _ => none }
def omapWholeRow : OpenClaim := { program := "ytfkpjdcjjfpigaa", sum := "d074630365d71a1b5c1524aded92f2444e533ffaf9aad8ef67be0b8efc9d1e2d", func := "doorman/doormanlaw04.OmapWhole", spec := "omapWhole", inPlace := ["slices.overlaps[int]", "slices.overlaps[string]"], unfollowed := true, recurses := true, apart := false }
def OmapWholeSaid : Prop := omapWholeRow.holds Try.pinned (OpenSpec.ofChange omapWholeSpec)

/-- ITS FALSE NEIGHBOUR: 'it returns false'. Refute it at one input. -/
def omapWholeWrong : ChangeSpec := { name := "omapWhole", fn := fun _ => fun
  | [d] => { results := [.lit (.bool false)], args := [d] }
  | _ => none }
def OmapWholeWrongFalsely : Prop := omapWholeRow.holds Try.pinned (OpenSpec.ofChange omapWholeWrong)

/-- 'doormanlaw06.SessPlays': WHATEVER THE INPUT: true; the input reads as it did. -/
def sessPlaysSpec : ChangeSpec := { name := "sessPlays", fn := fun _ => fun
  | [d1, d2, d3, d4] => { results := [.lit (.bool true)], args := [d1, d2, d3, d4] }
  | _ => none }
def sessPlaysRow : OpenClaim := { program := "ytfkpjdcjjfpigaa", sum := "d074630365d71a1b5c1524aded92f2444e533ffaf9aad8ef67be0b8efc9d1e2d", func := "doorman/doormanlaw06.SessPlays", spec := "sessPlays", inPlace := ["slices.overlaps[doorman/api.Session]"], unfollowed := true, recurses := true, apart := false }
def SessPlaysSaid : Prop := sessPlaysRow.holds Try.pinned (OpenSpec.ofChange sessPlaysSpec)

/-- ITS FALSE NEIGHBOUR: 'it returns false'. Refute it at one input. -/
def sessPlaysWrong : ChangeSpec := { name := "sessPlays", fn := fun _ => fun
  | [d1, d2, d3, d4] => { results := [.lit (.bool false)], args := [d1, d2, d3, d4] }
  | _ => none }
def SessPlaysWrongFalsely : Prop := sessPlaysRow.holds Try.pinned (OpenSpec.ofChange sessPlaysWrong)

/-- 'doormanlaw06.SessKeeps': WHATEVER THE INPUT: true; the input reads as it did. -/
def sessKeepsSpec : ChangeSpec := { name := "sessKeeps", fn := fun _ => fun
  | [d1, d2, d3] => { results := [.lit (.bool true)], args := [d1, d2, d3] }
  | _ => none }
def sessKeepsRow : OpenClaim := { program := "ytfkpjdcjjfpigaa", sum := "d074630365d71a1b5c1524aded92f2444e533ffaf9aad8ef67be0b8efc9d1e2d", func := "doorman/doormanlaw06.SessKeeps", spec := "sessKeeps", inPlace := ["slices.overlaps[doorman/api.Session]"], unfollowed := true, recurses := true, apart := false }
def SessKeepsSaid : Prop := sessKeepsRow.holds Try.pinned (OpenSpec.ofChange sessKeepsSpec)

/-- ITS FALSE NEIGHBOUR: 'it returns false'. Refute it at one input. -/
def sessKeepsWrong : ChangeSpec := { name := "sessKeeps", fn := fun _ => fun
  | [d1, d2, d3] => { results := [.lit (.bool false)], args := [d1, d2, d3] }
  | _ => none }
def SessKeepsWrongFalsely : Prop := sessKeepsRow.holds Try.pinned (OpenSpec.ofChange sessKeepsWrong)

/-- 'doormanlaw06.SessTwice': WHATEVER THE INPUT: true; the input reads as it did. -/
def sessTwiceSpec : ChangeSpec := { name := "sessTwice", fn := fun _ => fun
  | [d1, d2, d3, d4] => { results := [.lit (.bool true)], args := [d1, d2, d3, d4] }
  | _ => none }
def sessTwiceRow : OpenClaim := { program := "ytfkpjdcjjfpigaa", sum := "d074630365d71a1b5c1524aded92f2444e533ffaf9aad8ef67be0b8efc9d1e2d", func := "doorman/doormanlaw06.SessTwice", spec := "sessTwice", inPlace := ["slices.overlaps[doorman/api.Session]"], unfollowed := true, recurses := true, apart := false }
def SessTwiceSaid : Prop := sessTwiceRow.holds Try.pinned (OpenSpec.ofChange sessTwiceSpec)

/-- ITS FALSE NEIGHBOUR: 'it returns false'. Refute it at one input. -/
def sessTwiceWrong : ChangeSpec := { name := "sessTwice", fn := fun _ => fun
  | [d1, d2, d3, d4] => { results := [.lit (.bool false)], args := [d1, d2, d3, d4] }
  | _ => none }
def SessTwiceWrongFalsely : Prop := sessTwiceRow.holds Try.pinned (OpenSpec.ofChange sessTwiceWrong)

/- THE SECOND FORM. 'bulk': how many values and letters a reading holds, each counted each time it is reached (what is shared counts as often as it is met; a slice's spare places count too). A statement '..UptoSaid' is the law's where the arguments, and the package variables that the reading takes, are together of bulk at most 1048576: NARROWER than '..Said'. Prove '..Said' where nothing that the law and all that it calls make is longer than what came in: it says more and counts as full. Else prove '..UptoSaid'. A law counts once. -/
mutual
def uptoBulk {H : Type} : DataW H → Nat
  | .lit (.string bytes) => bytes.length + 1
  | .lit _ => 1
  | .nil => 1
  | .ptr d => uptoBulk d + 1
  | .slice elems spare => uptoBulkAll elems + uptoBulkAll spare + 1
  | .agg parts => uptoBulkAll parts + 1
  | .iface _ d => uptoBulk d + 1
  | .map entries => uptoBulkEntries entries + 1
  | .held _ => 1
def uptoBulkAll {H : Type} : List (DataW H) → Nat
  | [] => 0
  | d :: r => uptoBulk d + uptoBulkAll r
def uptoBulkEntries {H : Type} : List (Lit × DataW H) → Nat
  | [] => 0
  | x :: r => uptoBulkEntry x + uptoBulkEntries r
def uptoBulkEntry {H : Type} : Lit × DataW H → Nat
  | (.string bytes, d) => bytes.length + uptoBulk d + 1
  | (_, d) => uptoBulk d + 1
 end
def uptoSmall : (H : Type) → List (DataW H) → Bool := fun _ ds => decide (uptoBulkAll ds ≤ 1048576)
def OpenSpec.upto (s : _root_.Go.ChangeSpec) : _root_.Go.OpenSpec := { _root_.Go.OpenSpec.ofChange s with cond := some uptoSmall }

/-- 'doormanlaw04.OmapStops', WHERE WHAT IT READS IS OF BULK AT MOST 1048576: true; the input reads as it did. -/
def omapStopsUptoRow : OpenClaim := { program := "ytfkpjdcjjfpigaa", sum := "d074630365d71a1b5c1524aded92f2444e533ffaf9aad8ef67be0b8efc9d1e2d", func := "doorman/doormanlaw04.OmapStops", spec := "omapStops", inPlace := ["slices.overlaps[int]", "slices.overlaps[string]"], unfollowed := true, recurses := true, apart := false, narrowed := true }
def OmapStopsUptoSaid : Prop := omapStopsUptoRow.holds Try.pinned (OpenSpec.upto omapStopsSpec)

/-- 'doormanlaw06.SessRoom', WHERE WHAT IT READS IS OF BULK AT MOST 1048576: true; the input reads as it did. -/
def sessRoomUptoRow : OpenClaim := { program := "ytfkpjdcjjfpigaa", sum := "d074630365d71a1b5c1524aded92f2444e533ffaf9aad8ef67be0b8efc9d1e2d", func := "doorman/doormanlaw06.SessRoom", spec := "sessRoom", inPlace := ["slices.overlaps[doorman/api.Session]"], unfollowed := true, recurses := true, apart := false, narrowed := true }
def SessRoomUptoSaid : Prop := sessRoomUptoRow.holds Try.pinned (OpenSpec.upto sessRoomSpec)

/-- 'doormanlaw06.SessRight', WHERE WHAT IT READS IS OF BULK AT MOST 1048576: true; the input reads as it did. -/
def sessRightUptoRow : OpenClaim := { program := "ytfkpjdcjjfpigaa", sum := "d074630365d71a1b5c1524aded92f2444e533ffaf9aad8ef67be0b8efc9d1e2d", func := "doorman/doormanlaw06.SessRight", spec := "sessRight", inPlace := ["slices.overlaps[doorman/api.Session]"], unfollowed := true, recurses := true, apart := false, narrowed := true }
def SessRightUptoSaid : Prop := sessRightUptoRow.holds Try.pinned (OpenSpec.upto sessRightSpec)

/-- 'doormanlaw04.OmapNumbers', WHERE WHAT IT READS IS OF BULK AT MOST 1048576: true; the input reads as it did. -/
def omapNumbersUptoRow : OpenClaim := { program := "ytfkpjdcjjfpigaa", sum := "d074630365d71a1b5c1524aded92f2444e533ffaf9aad8ef67be0b8efc9d1e2d", func := "doorman/doormanlaw04.OmapNumbers", spec := "omapNumbers", inPlace := ["slices.overlaps[int]", "slices.overlaps[string]", "slices.overlaps[uint64]"], unfollowed := true, recurses := true, apart := false, narrowed := true }
def OmapNumbersUptoSaid : Prop := omapNumbersUptoRow.holds Try.pinned (OpenSpec.upto omapNumbersSpec)

/-- 'doormanlaw04.OmapPlays', WHERE WHAT IT READS IS OF BULK AT MOST 1048576: true; the input reads as it did. -/
def omapPlaysUptoRow : OpenClaim := { program := "ytfkpjdcjjfpigaa", sum := "d074630365d71a1b5c1524aded92f2444e533ffaf9aad8ef67be0b8efc9d1e2d", func := "doorman/doormanlaw04.OmapPlays", spec := "omapPlays", inPlace := ["slices.overlaps[int]", "slices.overlaps[string]"], unfollowed := true, recurses := true, apart := false, narrowed := true }
def OmapPlaysUptoSaid : Prop := omapPlaysUptoRow.holds Try.pinned (OpenSpec.upto omapPlaysSpec)

/-- 'doormanlaw04.OmapBack', WHERE WHAT IT READS IS OF BULK AT MOST 1048576: true; the input reads as it did. -/
def omapBackUptoRow : OpenClaim := { program := "ytfkpjdcjjfpigaa", sum := "d074630365d71a1b5c1524aded92f2444e533ffaf9aad8ef67be0b8efc9d1e2d", func := "doorman/doormanlaw04.OmapBack", spec := "omapBack", inPlace := ["slices.overlaps[int]", "slices.overlaps[string]"], unfollowed := true, recurses := true, apart := false, narrowed := true }
def OmapBackUptoSaid : Prop := omapBackUptoRow.holds Try.pinned (OpenSpec.upto omapBackSpec)

/-- 'doormanlaw04.OmapWhole', WHERE WHAT IT READS IS OF BULK AT MOST 1048576: true; the input reads as it did. -/
def omapWholeUptoRow : OpenClaim := { program := "ytfkpjdcjjfpigaa", sum := "d074630365d71a1b5c1524aded92f2444e533ffaf9aad8ef67be0b8efc9d1e2d", func := "doorman/doormanlaw04.OmapWhole", spec := "omapWhole", inPlace := ["slices.overlaps[int]", "slices.overlaps[string]"], unfollowed := true, recurses := true, apart := false, narrowed := true }
def OmapWholeUptoSaid : Prop := omapWholeUptoRow.holds Try.pinned (OpenSpec.upto omapWholeSpec)

/-- 'doormanlaw06.SessPlays', WHERE WHAT IT READS IS OF BULK AT MOST 1048576: true; the input reads as it did. -/
def sessPlaysUptoRow : OpenClaim := { program := "ytfkpjdcjjfpigaa", sum := "d074630365d71a1b5c1524aded92f2444e533ffaf9aad8ef67be0b8efc9d1e2d", func := "doorman/doormanlaw06.SessPlays", spec := "sessPlays", inPlace := ["slices.overlaps[doorman/api.Session]"], unfollowed := true, recurses := true, apart := false, narrowed := true }
def SessPlaysUptoSaid : Prop := sessPlaysUptoRow.holds Try.pinned (OpenSpec.upto sessPlaysSpec)

/-- 'doormanlaw06.SessKeeps', WHERE WHAT IT READS IS OF BULK AT MOST 1048576: true; the input reads as it did. -/
def sessKeepsUptoRow : OpenClaim := { program := "ytfkpjdcjjfpigaa", sum := "d074630365d71a1b5c1524aded92f2444e533ffaf9aad8ef67be0b8efc9d1e2d", func := "doorman/doormanlaw06.SessKeeps", spec := "sessKeeps", inPlace := ["slices.overlaps[doorman/api.Session]"], unfollowed := true, recurses := true, apart := false, narrowed := true }
def SessKeepsUptoSaid : Prop := sessKeepsUptoRow.holds Try.pinned (OpenSpec.upto sessKeepsSpec)

/-- 'doormanlaw06.SessTwice', WHERE WHAT IT READS IS OF BULK AT MOST 1048576: true; the input reads as it did. -/
def sessTwiceUptoRow : OpenClaim := { program := "ytfkpjdcjjfpigaa", sum := "d074630365d71a1b5c1524aded92f2444e533ffaf9aad8ef67be0b8efc9d1e2d", func := "doorman/doormanlaw06.SessTwice", spec := "sessTwice", inPlace := ["slices.overlaps[doorman/api.Session]"], unfollowed := true, recurses := true, apart := false, narrowed := true }
def SessTwiceUptoSaid : Prop := sessTwiceUptoRow.holds Try.pinned (OpenSpec.upto sessTwiceSpec)

end Rows
end Go.Proofs.Ytfkpjdcjjfpigaa
