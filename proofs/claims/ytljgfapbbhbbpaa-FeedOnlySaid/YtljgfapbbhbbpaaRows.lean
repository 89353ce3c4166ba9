/-
  No cell of these rows narrows 'for every input' (looked for: loops, veiled, ifaces, maps, wideKeys, modest, calm, conditions, laid).
  DERIVED. THE GIVEN ROWS OF THIS SEAT. 12 by the template 'for every input the law returns true; each argument reads behind the call as it read before'; 0 by the template 'total and deterministic' (their statements: YtljgfapbbhbbpaaTotals.lean).
  GIVEN WITH THE SEED: the statements are not yours to turn. If you find one false, say at which input.
  Laid BY PROGRAM, IN A SANDBOX (cutbox-rows.mjs): the forced cells as the released guide's own fill.sh prints them over the translation e3cac7922a09f2f6… (all of the seat's roots in one cut). By AI agents, Wed Nov 11 2026. No macro, syntax, notation, axiom, sorry.
-/
import Derived.Test.YtljgfapbbhbbpaaChecked
import GoSem.Claim
import GoSem.ClaimJoined
import GoSem.ClaimMapViews
import Derived.JoinedTies
import Derived.KernelRfl
namespace Go.Proofs.Ytljgfapbbhbbpaa
/- THE CELL 'sum', in the pinned program and in every row, IS THE sha256 OF THE DUMP (.gsa) THAT YtljgfapbbhbbpaaProg.lean LOADS. Nothing in Lean hashes anything: it is a label: what it is worth is what the hold of that sum in a sandbox is worth. -/
noncomputable def Try.pinned : Pinned := { name := "ytljgfapbbhbbpaa", sum := "e3cac7922a09f2f61d3a790d19f616115a90139fb7587178afec27205985fbed", checked := Try.checked }
namespace Rows
def none {H : Type} : Left H := { results := [], args := [] }

/-- 'doormanlaw09.FeedLost': WHATEVER THE INPUT: true; the input reads as it did. -/
def feedLostSpec : ChangeSpec := { name := "feedLost", fn := fun _ => fun
  | [d1, d2, d3, d4] => { results := [.lit (.bool true)], args := [d1, d2, d3, d4] }
  | _ => none }
def feedLostRow : OpenClaim := { program := "ytljgfapbbhbbpaa", sum := "e3cac7922a09f2f61d3a790d19f616115a90139fb7587178afec27205985fbed", func := "doorman/doormanlaw09.FeedLost", spec := "feedLost", inPlace := ["slices.overlaps[string]", "slices.overlaps[uint32]"], unfollowed := true, recurses := true, apart := false }
def FeedLostSaid : Prop := feedLostRow.holds Try.pinned (OpenSpec.ofChange feedLostSpec)

/-- ITS FALSE NEIGHBOUR: 'it returns false'. Refute it at one input. -/
def feedLostWrong : ChangeSpec := { name := "feedLost", fn := fun _ => fun
  | [d1, d2, d3, d4] => { results := [.lit (.bool false)], args := [d1, d2, d3, d4] }
  | _ => none }
def FeedLostWrongFalsely : Prop := feedLostRow.holds Try.pinned (OpenSpec.ofChange feedLostWrong)

/-- 'doormanlaw09.FeedMerges': WHATEVER THE INPUT: true; the input reads as it did. -/
def feedMergesSpec : ChangeSpec := { name := "feedMerges", fn := fun _ => fun
  | [d] => { results := [.lit (.bool true)], args := [d] }
  | _ => none }
def feedMergesRow : OpenClaim := { program := "ytljgfapbbhbbpaa", sum := "e3cac7922a09f2f61d3a790d19f616115a90139fb7587178afec27205985fbed", func := "doorman/doormanlaw09.FeedMerges", spec := "feedMerges", inPlace := ["slices.overlaps[string]", "slices.overlaps[uint32]"], unfollowed := true, recurses := true, apart := false }
def FeedMergesSaid : Prop := feedMergesRow.holds Try.pinned (OpenSpec.ofChange feedMergesSpec)

/-- ITS FALSE NEIGHBOUR: 'it returns false'. Refute it at one input. -/
def feedMergesWrong : ChangeSpec := { name := "feedMerges", fn := fun _ => fun
  | [d] => { results := [.lit (.bool false)], args := [d] }
  | _ => none }
def FeedMergesWrongFalsely : Prop := feedMergesRow.holds Try.pinned (OpenSpec.ofChange feedMergesWrong)

/-- 'doormanlaw09.FeedRises': WHATEVER THE INPUT: true; the input reads as it did. -/
def feedRisesSpec : ChangeSpec := { name := "feedRises", fn := fun _ => fun
  | [d] => { results := [.lit (.bool true)], args := [d] }
  | _ => none }
def feedRisesRow : OpenClaim := { program := "ytljgfapbbhbbpaa", sum := "e3cac7922a09f2f61d3a790d19f616115a90139fb7587178afec27205985fbed", func := "doorman/doormanlaw09.FeedRises", spec := "feedRises", inPlace := ["slices.overlaps[string]", "slices.overlaps[uint32]"], unfollowed := true, recurses := true, apart := false }
def FeedRisesSaid : Prop := feedRisesRow.holds Try.pinned (OpenSpec.ofChange feedRisesSpec)

/-- ITS FALSE NEIGHBOUR: 'it returns false'. Refute it at one input. -/
def feedRisesWrong : ChangeSpec := { name := "feedRises", fn := fun _ => fun
  | [d] => { results := [.lit (.bool false)], args := [d] }
  | _ => none }
def FeedRisesWrongFalsely : Prop := feedRisesRow.holds Try.pinned (OpenSpec.ofChange feedRisesWrong)

/-- 'doormanlaw09.FeedPlays': WHATEVER THE INPUT: true; the input reads as it did. -/
def feedPlaysSpec : ChangeSpec := { name := "feedPlays", fn := fun _ => fun
  | [d1, d2, d3, d4] => { results := [.lit (.bool true)], args := [d1, d2, d3, d4] }
  | _ => none }
def feedPlaysRow : OpenClaim := { program := "ytljgfapbbhbbpaa", sum := "e3cac7922a09f2f61d3a790d19f616115a90139fb7587178afec27205985fbed", func := "doorman/doormanlaw09.FeedPlays", spec := "feedPlays", inPlace := ["slices.overlaps[string]", "slices.overlaps[uint32]"], unfollowed := true, recurses := true, apart := false }
def FeedPlaysSaid : Prop := feedPlaysRow.holds Try.pinned (OpenSpec.ofChange feedPlaysSpec)

/-- ITS FALSE NEIGHBOUR: 'it returns false'. Refute it at one input. -/
def feedPlaysWrong : ChangeSpec := { name := "feedPlays", fn := fun _ => fun
  | [d1, d2, d3, d4] => { results := [.lit (.bool false)], args := [d1, d2, d3, d4] }
  | _ => none }
def FeedPlaysWrongFalsely : Prop := feedPlaysRow.holds Try.pinned (OpenSpec.ofChange feedPlaysWrong)

/-- 'doormanlaw09.FeedOnly': WHATEVER THE INPUT: true; the input reads as it did. -/
def feedOnlySpec : ChangeSpec := { name := "feedOnly", fn := fun _ => fun
  | [d1, d2] => { results := [.lit (.bool true)], args := [d1, d2] }
  | _ => none }
def feedOnlyRow : OpenClaim := { program := "ytljgfapbbhbbpaa", sum := "e3cac7922a09f2f61d3a790d19f616115a90139fb7587178afec27205985fbed", func := "doorman/doormanlaw09.FeedOnly", spec := "feedOnly", inPlace := ["slices.overlaps[string]", "slices.overlaps[uint32]"], unfollowed := true, recurses := true, apart := false }
def FeedOnlySaid : Prop := feedOnlyRow.holds Try.pinned (OpenSpec.ofChange feedOnlySpec)

/-- ITS FALSE NEIGHBOUR: 'it returns false'. Refute it at one input. -/
def feedOnlyWrong : ChangeSpec := { name := "feedOnly", fn := fun _ => fun
  | [d1, d2] => { results := [.lit (.bool false)], args := [d1, d2] }
  | _ => none }
def FeedOnlyWrongFalsely : Prop := feedOnlyRow.holds Try.pinned (OpenSpec.ofChange feedOnlyWrong)

/-- 'doormanlaw09.FeedTwice': WHATEVER THE INPUT: true; the input reads as it did. -/
def feedTwiceSpec : ChangeSpec := { name := "feedTwice", fn := fun _ => fun
  | [d1, d2, d3] => { results := [.lit (.bool true)], args := [d1, d2, d3] }
  | _ => none }
def feedTwiceRow : OpenClaim := { program := "ytljgfapbbhbbpaa", sum := "e3cac7922a09f2f61d3a790d19f616115a90139fb7587178afec27205985fbed", func := "doorman/doormanlaw09.FeedTwice", spec := "feedTwice", inPlace := ["slices.overlaps[string]", "slices.overlaps[uint32]"], unfollowed := true, recurses := true, apart := false }
def FeedTwiceSaid : Prop := feedTwiceRow.holds Try.pinned (OpenSpec.ofChange feedTwiceSpec)

/-- ITS FALSE NEIGHBOUR: 'it returns false'. Refute it at one input. -/
def feedTwiceWrong : ChangeSpec := { name := "feedTwice", fn := fun _ => fun
  | [d1, d2, d3] => { results := [.lit (.bool false)], args := [d1, d2, d3] }
  | _ => none }
def FeedTwiceWrongFalsely : Prop := feedTwiceRow.holds Try.pinned (OpenSpec.ofChange feedTwiceWrong)

/-- 'doormanlaw08.BookTells': WHATEVER THE INPUT: true; the input reads as it did. -/
def bookTellsSpec : ChangeSpec := { name := "bookTells", fn := fun _ => fun
  | [d1, d2] => { results := [.lit (.bool true)], args := [d1, d2] }
  | _ => none }
def bookTellsRow : OpenClaim := { program := "ytljgfapbbhbbpaa", sum := "e3cac7922a09f2f61d3a790d19f616115a90139fb7587178afec27205985fbed", func := "doorman/doormanlaw08.BookTells", spec := "bookTells", inPlace := ["slices.overlaps[doorman/api.Session]", "slices.overlaps[string]", "slices.overlaps[doorman/book.Entry]"], unfollowed := true, recurses := true, apart := false }
def BookTellsSaid : Prop := bookTellsRow.holds Try.pinned (OpenSpec.ofChange bookTellsSpec)

/-- ITS FALSE NEIGHBOUR: 'it returns false'. Refute it at one input. -/
def bookTellsWrong : ChangeSpec := { name := "bookTells", fn := fun _ => fun
  | [d1, d2] => { results := [.lit (.bool false)], args := [d1, d2] }
  | _ => none }
def BookTellsWrongFalsely : Prop := bookTellsRow.holds Try.pinned (OpenSpec.ofChange bookTellsWrong)

/-- 'doormanlaw08.BookOnly': WHATEVER THE INPUT: true; the input reads as it did. -/
def bookOnlySpec : ChangeSpec := { name := "bookOnly", fn := fun _ => fun
  | [d1, d2, d3] => { results := [.lit (.bool true)], args := [d1, d2, d3] }
  | _ => none }
def bookOnlyRow : OpenClaim := { program := "ytljgfapbbhbbpaa", sum := "e3cac7922a09f2f61d3a790d19f616115a90139fb7587178afec27205985fbed", func := "doorman/doormanlaw08.BookOnly", spec := "bookOnly", inPlace := ["slices.overlaps[doorman/api.Session]", "slices.overlaps[string]", "slices.overlaps[doorman/book.Entry]"], unfollowed := true, recurses := true, apart := false }
def BookOnlySaid : Prop := bookOnlyRow.holds Try.pinned (OpenSpec.ofChange bookOnlySpec)

/-- ITS FALSE NEIGHBOUR: 'it returns false'. Refute it at one input. -/
def bookOnlyWrong : ChangeSpec := { name := "bookOnly", fn := fun _ => fun
  | [d1, d2, d3] => { results := [.lit (.bool false)], args := [d1, d2, d3] }
  | _ => none }
def BookOnlyWrongFalsely : Prop := bookOnlyRow.holds Try.pinned (OpenSpec.ofChange bookOnlyWrong)

/-- 'doormanlaw08.BookRoom': WHATEVER THE INPUT: true; the input reads as it did. -/
def bookRoomSpec : ChangeSpec := { name := "bookRoom", fn := fun _ => fun
  | [d1, d2] => { results := [.lit (.bool true)], args := [d1, d2] }
  | _ => none }
def bookRoomRow : OpenClaim := { program := "ytljgfapbbhbbpaa", sum := "e3cac7922a09f2f61d3a790d19f616115a90139fb7587178afec27205985fbed", func := "doorman/doormanlaw08.BookRoom", spec := "bookRoom", inPlace := ["slices.overlaps[doorman/api.Session]", "slices.overlaps[string]", "slices.overlaps[doorman/book.Entry]"], unfollowed := true, recurses := true, apart := false }
def BookRoomSaid : Prop := bookRoomRow.holds Try.pinned (OpenSpec.ofChange bookRoomSpec)

/-- ITS FALSE NEIGHBOUR: 'it returns false'. Refute it at one input. -/
def bookRoomWrong : ChangeSpec := { name := "bookRoom", fn := fun _ => fun
  | [d1, d2] => { results := [.lit (.bool false)], args := [d1, d2] }
  | _ => none }
def BookRoomWrongFalsely : Prop := bookRoomRow.holds Try.pinned (OpenSpec.ofChange bookRoomWrong)

/-- 'doormanlaw08.BookSame': WHATEVER THE INPUT: true; the input reads as it did. -/
def bookSameSpec : ChangeSpec := { name := "bookSame", fn := fun _ => fun
  | [d1, d2] => { results := [.lit (.bool true)], args := [d1, d2] }
  | _ => none }
def bookSameRow : OpenClaim := { program := "ytljgfapbbhbbpaa", sum := "e3cac7922a09f2f61d3a790d19f616115a90139fb7587178afec27205985fbed", func := "doorman/doormanlaw08.BookSame", spec := "bookSame", inPlace := ["slices.overlaps[doorman/api.Session]", "slices.overlaps[string]", "slices.overlaps[doorman/book.Entry]"], unfollowed := true, recurses := true, apart := false }
def BookSameSaid : Prop := bookSameRow.holds Try.pinned (OpenSpec.ofChange bookSameSpec)

/-- ITS FALSE NEIGHBOUR: 'it returns false'. Refute it at one input. -/
def bookSameWrong : ChangeSpec := { name := "bookSame", fn := fun _ => fun
  | [d1, d2] => { results := [.lit (.bool false)], args := [d1, d2] }
  | _ => none }
def BookSameWrongFalsely : Prop := bookSameRow.holds Try.pinned (OpenSpec.ofChange bookSameWrong)

/-- 'doormanlaw08.BookPlays': WHATEVER THE INPUT: true; the input reads as it did. -/
def bookPlaysSpec : ChangeSpec := { name := "bookPlays", fn := fun _ => fun
  | [d1, d2, d3] => { results := [.lit (.bool true)], args := [d1, d2, d3] }
  | _ => none }
def bookPlaysRow : OpenClaim := { program := "ytljgfapbbhbbpaa", sum := "e3cac7922a09f2f61d3a790d19f616115a90139fb7587178afec27205985fbed", func := "doorman/doormanlaw08.BookPlays", spec := "bookPlays", inPlace := ["slices.overlaps[doorman/api.Session]", "slices.overlaps[string]", "slices.overlaps[doorman/book.Entry]"], unfollowed := true, recurses := true, apart := false }
def BookPlaysSaid : Prop := bookPlaysRow.holds Try.pinned (OpenSpec.ofChange bookPlaysSpec)

/-- ITS FALSE NEIGHBOUR: 'it returns false'. Refute it at one input. -/
def bookPlaysWrong : ChangeSpec := { name := "bookPlays", fn := fun _ => fun
  | [d1, d2, d3] => { results := [.lit (.bool false)], args := [d1, d2, d3] }
  | _ => none }
def BookPlaysWrongFalsely : Prop := bookPlaysRow.holds Try.pinned (OpenSpec.ofChange bookPlaysWrong)

/-- 'doormanlaw08.BookSweeps': WHATEVER THE INPUT: true; the input reads as it did. -/
def bookSweepsSpec : ChangeSpec := { name := "bookSweeps", fn := fun _ => fun
  | [d1, d2, d3, d4] => { results := [.lit (.bool true)], args := [d1, d2, d3, d4] }
  | _ => none }
def bookSweepsRow : OpenClaim := { program := "ytljgfapbbhbbpaa", sum := "e3cac7922a09f2f61d3a790d19f616115a90139fb7587178afec27205985fbed", func := "doorman/doormanlaw08.BookSweeps", spec := "bookSweeps", inPlace := ["slices.overlaps[doorman/api.Session]", "slices.overlaps[string]", "slices.overlaps[doorman/book.Entry]"], unfollowed := true, recurses := true, apart := false }
def BookSweepsSaid : Prop := bookSweepsRow.holds Try.pinned (OpenSpec.ofChange bookSweepsSpec)

/-- ITS FALSE NEIGHBOUR: 'it returns false'. Refute it at one input. -/
def bookSweepsWrong : ChangeSpec := { name := "bookSweeps", fn := fun _ => fun
  | [d1, d2, d3, d4] => { results := [.lit (.bool false)], args := [d1, d2, d3, d4] }
  | _ => none }
def BookSweepsWrongFalsely : Prop := bookSweepsRow.holds Try.pinned (OpenSpec.ofChange bookSweepsWrong)

/- THE SECOND FORM. 'bulk': how many values and letters a reading holds, each counted each time it is reached (what is shared counts as often as it is met; a slice's spare places count too). A statement '..UptoSaid' is the law's where the arguments, and the package variables that the reading takes, are together of bulk at most 1048576: NARROWER than '..Said'. Prove '..Said' where nothing that the law and all that it calls make is longer than what came in: it says more and counts as full. Else prove '..UptoSaid'. A law counts once. -/
mutual
def uptoBulk {H : Type} : DataW H → Nat
  | .lit (.string bytes) => bytes.length + 1
  | .lit _ => 1
  | .nil => 1
  | .ptr d => uptoBulk d + 1
  | .slice elems spare => uptoBulkAll elems + uptoBulkAll spare + 1
  | .agg parts => uptoBulkAll parts + 1
  | .iface _ d => uptoBulk d + 1
  | .map entries => uptoBulkEntries entries + 1
  | .held _ => 1
def uptoBulkAll {H : Type} : List (DataW H) → Nat
  | [] => 0
  | d :: r => uptoBulk d + uptoBulkAll r
def uptoBulkEntries {H : Type} : List (Lit × DataW H) → Nat
  | [] => 0
  | x :: r => uptoBulkEntry x + uptoBulkEntries r
def uptoBulkEntry {H : Type} : Lit × DataW H → Nat
  | (.string bytes, d) => bytes.length + uptoBulk d + 1
  | (_, d) => uptoBulk d + 1
 end
def uptoSmall : (H : Type) → List (DataW H) → Bool := fun _ ds => decide (uptoBulkAll ds ≤ 1048576)
def OpenSpec.upto (s : _root_.Go.ChangeSpec) : _root_.Go.OpenSpec := { _root_.Go.OpenSpec.ofChange s with cond := some uptoSmall }

/-- 'doormanlaw09.FeedLost', WHERE WHAT IT READS IS OF BULK AT MOST 1048576: true; the input reads as it did. -/
def feedLostUptoRow : OpenClaim := { program := "ytljgfapbbhbbpaa", sum := "e3cac7922a09f2f61d3a790d19f616115a90139fb7587178afec27205985fbed", func := "doorman/doormanlaw09.FeedLost", spec := "feedLost", inPlace := ["slices.overlaps[string]", "slices.overlaps[uint32]"], unfollowed := true, recurses := true, apart := false, narrowed := true }
def FeedLostUptoSaid : Prop := feedLostUptoRow.holds Try.pinned (OpenSpec.upto feedLostSpec)

/-- 'doormanlaw09.FeedMerges', WHERE WHAT IT READS IS OF BULK AT MOST 1048576: true; the input reads as it did. -/
def feedMergesUptoRow : OpenClaim := { program := "ytljgfapbbhbbpaa", sum := "e3cac7922a09f2f61d3a790d19f616115a90139fb7587178afec27205985fbed", func := "doorman/doormanlaw09.FeedMerges", spec := "feedMerges", inPlace := ["slices.overlaps[string]", "slices.overlaps[uint32]"], unfollowed := true, recurses := true, apart := false, narrowed := true }
def FeedMergesUptoSaid : Prop := feedMergesUptoRow.holds Try.pinned (OpenSpec.upto feedMergesSpec)

/-- 'doormanlaw09.FeedRises', WHERE WHAT IT READS IS OF BULK AT MOST 1048576: true; the input reads as it did. -/
def feedRisesUptoRow : OpenClaim := { program := "ytljgfapbbhbbpaa", sum := "e3cac7922a09f2f61d3a790d19f616115a90139fb7587178afec27205985fbed", func := "doorman/doormanlaw09.FeedRises", spec := "feedRises", inPlace := ["slices.overlaps[string]", "slices.overlaps[uint32]"], unfollowed := true, recurses := true, apart := false, narrowed := true }
def FeedRisesUptoSaid : Prop := feedRisesUptoRow.holds Try.pinned (OpenSpec.upto feedRisesSpec)

/-- 'doormanlaw09.FeedPlays', WHERE WHAT IT READS IS OF BULK AT MOST 1048576: true; the input reads as it did. -/
def feedPlaysUptoRow : OpenClaim := { program := "ytljgfapbbhbbpaa", sum := "e3cac7922a09f2f61d3a790d19f616115a90139fb7587178afec27205985fbed", func := "doorman/doormanlaw09.FeedPlays", spec := "feedPlays", inPlace := ["slices.overlaps[string]", "slices.overlaps[uint32]"], unfollowed := true, recurses := true, apart := false, narrowed := true }
def FeedPlaysUptoSaid : Prop := feedPlaysUptoRow.holds Try.pinned (OpenSpec.upto feedPlaysSpec)

/-- 'doormanlaw09.FeedOnly', WHERE WHAT IT READS IS OF BULK AT MOST 1048576: true; the input reads as it did. -/
def feedOnlyUptoRow : OpenClaim := { program := "ytljgfapbbhbbpaa", sum := "e3cac7922a09f2f61d3a790d19f616115a90139fb7587178afec27205985fbed", func := "doorman/doormanlaw09.FeedOnly", spec := "feedOnly", inPlace := ["slices.overlaps[string]", "slices.overlaps[uint32]"], unfollowed := true, recurses := true, apart := false, narrowed := true }
def FeedOnlyUptoSaid : Prop := feedOnlyUptoRow.holds Try.pinned (OpenSpec.upto feedOnlySpec)

/-- 'doormanlaw09.FeedTwice', WHERE WHAT IT READS IS OF BULK AT MOST 1048576: true; the input reads as it did. -/
def feedTwiceUptoRow : OpenClaim := { program := "ytljgfapbbhbbpaa", sum := "e3cac7922a09f2f61d3a790d19f616115a90139fb7587178afec27205985fbed", func := "doorman/doormanlaw09.FeedTwice", spec := "feedTwice", inPlace := ["slices.overlaps[string]", "slices.overlaps[uint32]"], unfollowed := true, recurses := true, apart := false, narrowed := true }
def FeedTwiceUptoSaid : Prop := feedTwiceUptoRow.holds Try.pinned (OpenSpec.upto feedTwiceSpec)

/-- 'doormanlaw08.BookTells', WHERE WHAT IT READS IS OF BULK AT MOST 1048576: true; the input reads as it did. -/
def bookTellsUptoRow : OpenClaim := { program := "ytljgfapbbhbbpaa", sum := "e3cac7922a09f2f61d3a790d19f616115a90139fb7587178afec27205985fbed", func := "doorman/doormanlaw08.BookTells", spec := "bookTells", inPlace := ["slices.overlaps[doorman/api.Session]", "slices.overlaps[string]", "slices.overlaps[doorman/book.Entry]"], unfollowed := true, recurses := true, apart := false, narrowed := true }
def BookTellsUptoSaid : Prop := bookTellsUptoRow.holds Try.pinned (OpenSpec.upto bookTellsSpec)

/-- 'doormanlaw08.BookOnly', WHERE WHAT IT READS IS OF BULK AT MOST 1048576: true; the input reads as it did. -/
def bookOnlyUptoRow : OpenClaim := { program := "ytljgfapbbhbbpaa", sum := "e3cac7922a09f2f61d3a790d19f616115a90139fb7587178afec27205985fbed", func := "doorman/doormanlaw08.BookOnly", spec := "bookOnly", inPlace := ["slices.overlaps[doorman/api.Session]", "slices.overlaps[string]", "slices.overlaps[doorman/book.Entry]"], unfollowed := true, recurses := true, apart := false, narrowed := true }
def BookOnlyUptoSaid : Prop := bookOnlyUptoRow.holds Try.pinned (OpenSpec.upto bookOnlySpec)

/-- 'doormanlaw08.BookRoom', WHERE WHAT IT READS IS OF BULK AT MOST 1048576: true; the input reads as it did. -/
def bookRoomUptoRow : OpenClaim := { program := "ytljgfapbbhbbpaa", sum := "e3cac7922a09f2f61d3a790d19f616115a90139fb7587178afec27205985fbed", func := "doorman/doormanlaw08.BookRoom", spec := "bookRoom", inPlace := ["slices.overlaps[doorman/api.Session]", "slices.overlaps[string]", "slices.overlaps[doorman/book.Entry]"], unfollowed := true, recurses := true, apart := false, narrowed := true }
def BookRoomUptoSaid : Prop := bookRoomUptoRow.holds Try.pinned (OpenSpec.upto bookRoomSpec)

/-- 'doormanlaw08.BookSame', WHERE WHAT IT READS IS OF BULK AT MOST 1048576: true; the input reads as it did. -/
def bookSameUptoRow : OpenClaim := { program := "ytljgfapbbhbbpaa", sum := "e3cac7922a09f2f61d3a790d19f616115a90139fb7587178afec27205985fbed", func := "doorman/doormanlaw08.BookSame", spec := "bookSame", inPlace := ["slices.overlaps[doorman/api.Session]", "slices.overlaps[string]", "slices.overlaps[doorman/book.Entry]"], unfollowed := true, recurses := true, apart := false, narrowed := true }
def BookSameUptoSaid : Prop := bookSameUptoRow.holds Try.pinned (OpenSpec.upto bookSameSpec)

/-- 'doormanlaw08.BookPlays', WHERE WHAT IT READS IS OF BULK AT MOST 1048576: true; the input reads as it did. -/
def bookPlaysUptoRow : OpenClaim := { program := "ytljgfapbbhbbpaa", sum := "e3cac7922a09f2f61d3a790d19f616115a90139fb7587178afec27205985fbed", func := "doorman/doormanlaw08.BookPlays", spec := "bookPlays", inPlace := ["slices.overlaps[doorman/api.Session]", "slices.overlaps[string]", "slices.overlaps[doorman/book.Entry]"], unfollowed := true, recurses := true, apart := false, narrowed := true }
def BookPlaysUptoSaid : Prop := bookPlaysUptoRow.holds Try.pinned (OpenSpec.upto bookPlaysSpec)

/-- 'doormanlaw08.BookSweeps', WHERE WHAT IT READS IS OF BULK AT MOST 1048576: true; the input reads as it did. -/
def bookSweepsUptoRow : OpenClaim := { program := "ytljgfapbbhbbpaa", sum := "e3cac7922a09f2f61d3a790d19f616115a90139fb7587178afec27205985fbed", func := "doorman/doormanlaw08.BookSweeps", spec := "bookSweeps", inPlace := ["slices.overlaps[doorman/api.Session]", "slices.overlaps[string]", "slices.overlaps[doorman/book.Entry]"], unfollowed := true, recurses := true, apart := false, narrowed := true }
def BookSweepsUptoSaid : Prop := bookSweepsUptoRow.holds Try.pinned (OpenSpec.upto bookSweepsSpec)

end Rows
end Go.Proofs.Ytljgfapbbhbbpaa
