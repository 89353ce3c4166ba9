/-
  No cell of these rows narrows 'for every input' (looked for: loops, veiled, ifaces, maps, wideKeys, modest, calm, conditions, laid).
  DERIVED. THE GIVEN ROWS OF THIS SEAT. 8 by the template 'for every input the law returns true; each argument reads behind the call as it read before'; 0 by the template 'total and deterministic' (their statements: YtdkcpcflfnakdaaGreatTotals.lean).
  GIVEN WITH THE SEED: the statements are not yours to turn. If you find one false, say at which input.
  Laid BY PROGRAM, IN A SANDBOX (cutbox-rows.mjs): the forced cells as the released guide's own fill.sh prints them over the translation 4bf2de3a14ad1016… (all of the seat's roots in one cut). By AI agents, Wed Nov 11 2026. No macro, syntax, notation, axiom, sorry.
-/
import Derived.Test.YtdkcpcflfnakdaaGreatChecked
import GoSem.Claim
import GoSem.ClaimJoined
import GoSem.ClaimMapViews
import Derived.JoinedTies
import Derived.KernelRfl
namespace Go.Proofs.YtdkcpcflfnakdaaGreat
/- THE CELL 'sum', in the pinned program and in every row, IS THE sha256 OF THE DUMP (.gsa) THAT YtdkcpcflfnakdaaGreatProg.lean LOADS. Nothing in Lean hashes anything: it is a label: what it is worth is what the hold of that sum in a sandbox is worth. -/
noncomputable def Tryz.pinned : Pinned := { name := "ytdkcpcflfnakdaagreat", sum := "4bf2de3a14ad1016e5b36d65d1afc2757f0c39034b4a52d5646cbbcf52898ee7", checked := Tryz.checked }
namespace Rows
def none {H : Type} : Left H := { results := [], args := [] }

/-- 'doormanlaw10.ModelBad': WHATEVER THE INPUT: true; the input reads as it did. -/
def modelBadSpec : ChangeSpec := { name := "modelBad", fn := fun _ => fun
  | [d] => { results := [.lit (.bool true)], args := [d] }
  | _ => none }
def modelBadRow : OpenClaim := { program := "ytdkcpcflfnakdaagreat", sum := "4bf2de3a14ad1016e5b36d65d1afc2757f0c39034b4a52d5646cbbcf52898ee7", func := "doorman/doormanlaw10.ModelBad", spec := "modelBad", inPlace := ["slices.overlaps[doorman/api.Session]", "slices.overlaps[string]", "slices.overlaps[doorman/book.Entry]", "slices.overlaps[uint32]"], unfollowed := true, recurses := true, apart := false }
def ModelBadSaid : Prop := modelBadRow.holds Tryz.pinned (OpenSpec.ofChange modelBadSpec)

/-- ITS FALSE NEIGHBOUR: 'it returns false'. Refute it at one input. -/
def modelBadWrong : ChangeSpec := { name := "modelBad", fn := fun _ => fun
  | [d] => { results := [.lit (.bool false)], args := [d] }
  | _ => none }
def ModelBadWrongFalsely : Prop := modelBadRow.holds Tryz.pinned (OpenSpec.ofChange modelBadWrong)

/-- 'doormanlaw10.ModelTells': WHATEVER THE INPUT: true; the input reads as it did. -/
def modelTellsSpec : ChangeSpec := { name := "modelTells", fn := fun _ => fun
  | [d] => { results := [.lit (.bool true)], args := [d] }
  | _ => none }
def modelTellsRow : OpenClaim := { program := "ytdkcpcflfnakdaagreat", sum := "4bf2de3a14ad1016e5b36d65d1afc2757f0c39034b4a52d5646cbbcf52898ee7", func := "doorman/doormanlaw10.ModelTells", spec := "modelTells", inPlace := ["slices.overlaps[doorman/api.Session]", "slices.overlaps[string]", "slices.overlaps[doorman/book.Entry]", "slices.overlaps[uint32]"], unfollowed := true, recurses := true, apart := false }
def ModelTellsSaid : Prop := modelTellsRow.holds Tryz.pinned (OpenSpec.ofChange modelTellsSpec)

/-- ITS FALSE NEIGHBOUR: 'it returns false'. Refute it at one input. -/
def modelTellsWrong : ChangeSpec := { name := "modelTells", fn := fun _ => fun
  | [d] => { results := [.lit (.bool false)], args := [d] }
  | _ => none }
def ModelTellsWrongFalsely : Prop := modelTellsRow.holds Tryz.pinned (OpenSpec.ofChange modelTellsWrong)

/-- 'doormanlaw10.ModelClosed': WHATEVER THE INPUT: true; the input reads as it did. -/
def modelClosedSpec : ChangeSpec := { name := "modelClosed", fn := fun _ => fun
  | [d1, d2, d3] => { results := [.lit (.bool true)], args := [d1, d2, d3] }
  | _ => none }
def modelClosedRow : OpenClaim := { program := "ytdkcpcflfnakdaagreat", sum := "4bf2de3a14ad1016e5b36d65d1afc2757f0c39034b4a52d5646cbbcf52898ee7", func := "doorman/doormanlaw10.ModelClosed", spec := "modelClosed", inPlace := ["slices.overlaps[doorman/api.Session]", "slices.overlaps[string]", "slices.overlaps[doorman/book.Entry]", "slices.overlaps[uint32]"], unfollowed := true, recurses := true, apart := false }
def ModelClosedSaid : Prop := modelClosedRow.holds Tryz.pinned (OpenSpec.ofChange modelClosedSpec)

/-- ITS FALSE NEIGHBOUR: 'it returns false'. Refute it at one input. -/
def modelClosedWrong : ChangeSpec := { name := "modelClosed", fn := fun _ => fun
  | [d1, d2, d3] => { results := [.lit (.bool false)], args := [d1, d2, d3] }
  | _ => none }
def ModelClosedWrongFalsely : Prop := modelClosedRow.holds Tryz.pinned (OpenSpec.ofChange modelClosedWrong)

/-- 'doormanlaw10.ModelBatch': WHATEVER THE INPUT: true; the input reads as it did. -/
def modelBatchSpec : ChangeSpec := { name := "modelBatch", fn := fun _ => fun
  | [d1, d2, d3] => { results := [.lit (.bool true)], args := [d1, d2, d3] }
  | _ => none }
def modelBatchRow : OpenClaim := { program := "ytdkcpcflfnakdaagreat", sum := "4bf2de3a14ad1016e5b36d65d1afc2757f0c39034b4a52d5646cbbcf52898ee7", func := "doorman/doormanlaw10.ModelBatch", spec := "modelBatch", inPlace := ["slices.overlaps[doorman/api.Session]", "slices.overlaps[string]", "slices.overlaps[doorman/book.Entry]", "slices.overlaps[uint32]"], unfollowed := true, recurses := true, apart := false }
def ModelBatchSaid : Prop := modelBatchRow.holds Tryz.pinned (OpenSpec.ofChange modelBatchSpec)

/-- ITS FALSE NEIGHBOUR: 'it returns false'. Refute it at one input. -/
def modelBatchWrong : ChangeSpec := { name := "modelBatch", fn := fun _ => fun
  | [d1, d2, d3] => { results := [.lit (.bool false)], args := [d1, d2, d3] }
  | _ => none }
def ModelBatchWrongFalsely : Prop := modelBatchRow.holds Tryz.pinned (OpenSpec.ofChange modelBatchWrong)

/-- 'doormanlaw10.ModelSeq': WHATEVER THE INPUT: true; the input reads as it did. -/
def modelSeqSpec : ChangeSpec := { name := "modelSeq", fn := fun _ => fun
  | [d] => { results := [.lit (.bool true)], args := [d] }
  | _ => none }
def modelSeqRow : OpenClaim := { program := "ytdkcpcflfnakdaagreat", sum := "4bf2de3a14ad1016e5b36d65d1afc2757f0c39034b4a52d5646cbbcf52898ee7", func := "doorman/doormanlaw10.ModelSeq", spec := "modelSeq", inPlace := ["slices.overlaps[doorman/api.Session]", "slices.overlaps[string]", "slices.overlaps[doorman/book.Entry]", "slices.overlaps[uint32]"], unfollowed := true, recurses := true, apart := false }
def ModelSeqSaid : Prop := modelSeqRow.holds Tryz.pinned (OpenSpec.ofChange modelSeqSpec)

/-- ITS FALSE NEIGHBOUR: 'it returns false'. Refute it at one input. -/
def modelSeqWrong : ChangeSpec := { name := "modelSeq", fn := fun _ => fun
  | [d] => { results := [.lit (.bool false)], args := [d] }
  | _ => none }
def ModelSeqWrongFalsely : Prop := modelSeqRow.holds Tryz.pinned (OpenSpec.ofChange modelSeqWrong)

/-- 'doormanlaw10.ModelLimits': WHATEVER THE INPUT: true; the input reads as it did. -/
def modelLimitsSpec : ChangeSpec := { name := "modelLimits", fn := fun _ => fun
  | [d1, d2, d3] => { results := [.lit (.bool true)], args := [d1, d2, d3] }
  | _ => none }
def modelLimitsRow : OpenClaim := { program := "ytdkcpcflfnakdaagreat", sum := "4bf2de3a14ad1016e5b36d65d1afc2757f0c39034b4a52d5646cbbcf52898ee7", func := "doorman/doormanlaw10.ModelLimits", spec := "modelLimits", inPlace := ["slices.overlaps[doorman/api.Session]", "slices.overlaps[string]", "slices.overlaps[doorman/book.Entry]", "slices.overlaps[uint32]"], unfollowed := true, recurses := true, apart := false }
def ModelLimitsSaid : Prop := modelLimitsRow.holds Tryz.pinned (OpenSpec.ofChange modelLimitsSpec)

/-- ITS FALSE NEIGHBOUR: 'it returns false'. Refute it at one input. -/
def modelLimitsWrong : ChangeSpec := { name := "modelLimits", fn := fun _ => fun
  | [d1, d2, d3] => { results := [.lit (.bool false)], args := [d1, d2, d3] }
  | _ => none }
def ModelLimitsWrongFalsely : Prop := modelLimitsRow.holds Tryz.pinned (OpenSpec.ofChange modelLimitsWrong)

/-- 'doormanlaw10.ModelPlays': WHATEVER THE INPUT: true; the input reads as it did. -/
def modelPlaysSpec : ChangeSpec := { name := "modelPlays", fn := fun _ => fun
  | [d1, d2, d3] => { results := [.lit (.bool true)], args := [d1, d2, d3] }
  | _ => none }
def modelPlaysRow : OpenClaim := { program := "ytdkcpcflfnakdaagreat", sum := "4bf2de3a14ad1016e5b36d65d1afc2757f0c39034b4a52d5646cbbcf52898ee7", func := "doorman/doormanlaw10.ModelPlays", spec := "modelPlays", inPlace := ["slices.overlaps[doorman/api.Session]", "slices.overlaps[string]", "slices.overlaps[doorman/book.Entry]", "slices.overlaps[uint32]"], unfollowed := true, recurses := true, apart := false }
def ModelPlaysSaid : Prop := modelPlaysRow.holds Tryz.pinned (OpenSpec.ofChange modelPlaysSpec)

/-- ITS FALSE NEIGHBOUR: 'it returns false'. Refute it at one input. -/
def modelPlaysWrong : ChangeSpec := { name := "modelPlays", fn := fun _ => fun
  | [d1, d2, d3] => { results := [.lit (.bool false)], args := [d1, d2, d3] }
  | _ => none }
def ModelPlaysWrongFalsely : Prop := modelPlaysRow.holds Tryz.pinned (OpenSpec.ofChange modelPlaysWrong)

/-- 'doormanlaw10.ModelSweeps': WHATEVER THE INPUT: true; the input reads as it did. -/
def modelSweepsSpec : ChangeSpec := { name := "modelSweeps", fn := fun _ => fun
  | [d1, d2] => { results := [.lit (.bool true)], args := [d1, d2] }
  | _ => none }
def modelSweepsRow : OpenClaim := { program := "ytdkcpcflfnakdaagreat", sum := "4bf2de3a14ad1016e5b36d65d1afc2757f0c39034b4a52d5646cbbcf52898ee7", func := "doorman/doormanlaw10.ModelSweeps", spec := "modelSweeps", inPlace := ["slices.overlaps[doorman/api.Session]", "slices.overlaps[string]", "slices.overlaps[doorman/book.Entry]", "slices.overlaps[uint32]"], unfollowed := true, recurses := true, apart := false }
def ModelSweepsSaid : Prop := modelSweepsRow.holds Tryz.pinned (OpenSpec.ofChange modelSweepsSpec)

/-- ITS FALSE NEIGHBOUR: 'it returns false'. Refute it at one input. -/
def modelSweepsWrong : ChangeSpec := { name := "modelSweeps", fn := fun _ => fun
  | [d1, d2] => { results := [.lit (.bool false)], args := [d1, d2] }
  | _ => none }
def ModelSweepsWrongFalsely : Prop := modelSweepsRow.holds Tryz.pinned (OpenSpec.ofChange modelSweepsWrong)

/- THE SECOND FORM. 'bulk': how many values and letters a reading holds, each counted each time it is reached (what is shared counts as often as it is met; a slice's spare places count too). A statement '..UptoSaid' is the law's where the arguments, and the package variables that the reading takes, are together of bulk at most 1048576: NARROWER than '..Said'. Prove '..Said' where nothing that the law and all that it calls make is longer than what came in: it says more and counts as full. Else prove '..UptoSaid'. A law counts once. -/
mutual
def uptoBulk {H : Type} : DataW H → Nat
  | .lit (.string bytes) => bytes.length + 1
  | .lit _ => 1
  | .nil => 1
  | .ptr d => uptoBulk d + 1
  | .slice elems spare => uptoBulkAll elems + uptoBulkAll spare + 1
  | .agg parts => uptoBulkAll parts + 1
  | .iface _ d => uptoBulk d + 1
  | .map entries => uptoBulkEntries entries + 1
  | .held _ => 1
def uptoBulkAll {H : Type} : List (DataW H) → Nat
  | [] => 0
  | d :: r => uptoBulk d + uptoBulkAll r
def uptoBulkEntries {H : Type} : List (Lit × DataW H) → Nat
  | [] => 0
  | x :: r => uptoBulkEntry x + uptoBulkEntries r
def uptoBulkEntry {H : Type} : Lit × DataW H → Nat
  | (.string bytes, d) => bytes.length + uptoBulk d + 1
  | (_, d) => uptoBulk d + 1
 end
def uptoSmall : (H : Type) → List (DataW H) → Bool := fun _ ds => decide (uptoBulkAll ds ≤ 1048576)
def OpenSpec.upto (s : _root_.Go.ChangeSpec) : _root_.Go.OpenSpec := { _root_.Go.OpenSpec.ofChange s with cond := some uptoSmall }

/-- 'doormanlaw10.ModelBad', WHERE WHAT IT READS IS OF BULK AT MOST 1048576: true; the input reads as it did. -/
def modelBadUptoRow : OpenClaim := { program := "ytdkcpcflfnakdaagreat", sum := "4bf2de3a14ad1016e5b36d65d1afc2757f0c39034b4a52d5646cbbcf52898ee7", func := "doorman/doormanlaw10.ModelBad", spec := "modelBad", inPlace := ["slices.overlaps[doorman/api.Session]", "slices.overlaps[string]", "slices.overlaps[doorman/book.Entry]", "slices.overlaps[uint32]"], unfollowed := true, recurses := true, apart := false, narrowed := true }
def ModelBadUptoSaid : Prop := modelBadUptoRow.holds Tryz.pinned (OpenSpec.upto modelBadSpec)

/-- 'doormanlaw10.ModelTells', WHERE WHAT IT READS IS OF BULK AT MOST 1048576: true; the input reads as it did. -/
def modelTellsUptoRow : OpenClaim := { program := "ytdkcpcflfnakdaagreat", sum := "4bf2de3a14ad1016e5b36d65d1afc2757f0c39034b4a52d5646cbbcf52898ee7", func := "doorman/doormanlaw10.ModelTells", spec := "modelTells", inPlace := ["slices.overlaps[doorman/api.Session]", "slices.overlaps[string]", "slices.overlaps[doorman/book.Entry]", "slices.overlaps[uint32]"], unfollowed := true, recurses := true, apart := false, narrowed := true }
def ModelTellsUptoSaid : Prop := modelTellsUptoRow.holds Tryz.pinned (OpenSpec.upto modelTellsSpec)

/-- 'doormanlaw10.ModelClosed', WHERE WHAT IT READS IS OF BULK AT MOST 1048576: true; the input reads as it did. -/
def modelClosedUptoRow : OpenClaim := { program := "ytdkcpcflfnakdaagreat", sum := "4bf2de3a14ad1016e5b36d65d1afc2757f0c39034b4a52d5646cbbcf52898ee7", func := "doorman/doormanlaw10.ModelClosed", spec := "modelClosed", inPlace := ["slices.overlaps[doorman/api.Session]", "slices.overlaps[string]", "slices.overlaps[doorman/book.Entry]", "slices.overlaps[uint32]"], unfollowed := true, recurses := true, apart := false, narrowed := true }
def ModelClosedUptoSaid : Prop := modelClosedUptoRow.holds Tryz.pinned (OpenSpec.upto modelClosedSpec)

/-- 'doormanlaw10.ModelBatch', WHERE WHAT IT READS IS OF BULK AT MOST 1048576: true; the input reads as it did. -/
def modelBatchUptoRow : OpenClaim := { program := "ytdkcpcflfnakdaagreat", sum := "4bf2de3a14ad1016e5b36d65d1afc2757f0c39034b4a52d5646cbbcf52898ee7", func := "doorman/doormanlaw10.ModelBatch", spec := "modelBatch", inPlace := ["slices.overlaps[doorman/api.Session]", "slices.overlaps[string]", "slices.overlaps[doorman/book.Entry]", "slices.overlaps[uint32]"], unfollowed := true, recurses := true, apart := false, narrowed := true }
def ModelBatchUptoSaid : Prop := modelBatchUptoRow.holds Tryz.pinned (OpenSpec.upto modelBatchSpec)

/-- 'doormanlaw10.ModelSeq', WHERE WHAT IT READS IS OF BULK AT MOST 1048576: true; the input reads as it did. -/
def modelSeqUptoRow : OpenClaim := { program := "ytdkcpcflfnakdaagreat", sum := "4bf2de3a14ad1016e5b36d65d1afc2757f0c39034b4a52d5646cbbcf52898ee7", func := "doorman/doormanlaw10.ModelSeq", spec := "modelSeq", inPlace := ["slices.overlaps[doorman/api.Session]", "slices.overlaps[string]", "slices.overlaps[doorman/book.Entry]", "slices.overlaps[uint32]"], unfollowed := true, recurses := true, apart := false, narrowed := true }
def ModelSeqUptoSaid : Prop := modelSeqUptoRow.holds Tryz.pinned (OpenSpec.upto modelSeqSpec)

/-- 'doormanlaw10.ModelLimits', WHERE WHAT IT READS IS OF BULK AT MOST 1048576: true; the input reads as it did. -/
def modelLimitsUptoRow : OpenClaim := { program := "ytdkcpcflfnakdaagreat", sum := "4bf2de3a14ad1016e5b36d65d1afc2757f0c39034b4a52d5646cbbcf52898ee7", func := "doorman/doormanlaw10.ModelLimits", spec := "modelLimits", inPlace := ["slices.overlaps[doorman/api.Session]", "slices.overlaps[string]", "slices.overlaps[doorman/book.Entry]", "slices.overlaps[uint32]"], unfollowed := true, recurses := true, apart := false, narrowed := true }
def ModelLimitsUptoSaid : Prop := modelLimitsUptoRow.holds Tryz.pinned (OpenSpec.upto modelLimitsSpec)

/-- 'doormanlaw10.ModelPlays', WHERE WHAT IT READS IS OF BULK AT MOST 1048576: true; the input reads as it did. -/
def modelPlaysUptoRow : OpenClaim := { program := "ytdkcpcflfnakdaagreat", sum := "4bf2de3a14ad1016e5b36d65d1afc2757f0c39034b4a52d5646cbbcf52898ee7", func := "doorman/doormanlaw10.ModelPlays", spec := "modelPlays", inPlace := ["slices.overlaps[doorman/api.Session]", "slices.overlaps[string]", "slices.overlaps[doorman/book.Entry]", "slices.overlaps[uint32]"], unfollowed := true, recurses := true, apart := false, narrowed := true }
def ModelPlaysUptoSaid : Prop := modelPlaysUptoRow.holds Tryz.pinned (OpenSpec.upto modelPlaysSpec)

/-- 'doormanlaw10.ModelSweeps', WHERE WHAT IT READS IS OF BULK AT MOST 1048576: true; the input reads as it did. -/
def modelSweepsUptoRow : OpenClaim := { program := "ytdkcpcflfnakdaagreat", sum := "4bf2de3a14ad1016e5b36d65d1afc2757f0c39034b4a52d5646cbbcf52898ee7", func := "doorman/doormanlaw10.ModelSweeps", spec := "modelSweeps", inPlace := ["slices.overlaps[doorman/api.Session]", "slices.overlaps[string]", "slices.overlaps[doorman/book.Entry]", "slices.overlaps[uint32]"], unfollowed := true, recurses := true, apart := false, narrowed := true }
def ModelSweepsUptoSaid : Prop := modelSweepsUptoRow.holds Tryz.pinned (OpenSpec.upto modelSweepsSpec)

end Rows
end Go.Proofs.YtdkcpcflfnakdaaGreat
