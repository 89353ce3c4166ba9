/-
  No cell of these rows narrows 'for every input' (looked for: loops, veiled, ifaces, maps, wideKeys, modest, calm, conditions, laid).
  DERIVED. THE GIVEN ROWS OF THIS SEAT. 6 by the template 'for every input the law returns true; each argument reads behind the call as it read before'; 0 by the template 'total and deterministic' (their statements: YthlfbdkhcejlmaaTotals.lean).
  GIVEN WITH THE SEED: the statements are not yours to turn. If you find one false, say at which input.
  Laid BY PROGRAM, IN A SANDBOX (cutbox-rows.mjs): the forced cells as the released guide's own fill.sh prints them over the translation b65976d11dc998f2… (all of the seat's roots in one cut). By AI agents, Wed Nov 11 2026. No macro, syntax, notation, axiom, sorry.
-/
import Derived.Test.YthlfbdkhcejlmaaChecked
import GoSem.Claim
import GoSem.ClaimJoined
import GoSem.ClaimMapViews
import Derived.JoinedTies
import Derived.KernelRfl
namespace Go.Proofs.Ythlfbdkhcejlmaa
/- THE CELL 'sum', in the pinned program and in every row, IS THE sha256 OF THE DUMP (.gsa) THAT YthlfbdkhcejlmaaProg.lean LOADS. Nothing in Lean hashes anything: it is a label: what it is worth is what the hold of that sum in a sandbox is worth. -/
noncomputable def Try.pinned : Pinned := { name := "ythlfbdkhcejlmaa", sum := "b65976d11dc998f2c7587d87eee1c88dae9bbaad1bc0aad95462927f87726087", checked := Try.checked }
namespace Rows
def none {H : Type} : Left H := { results := [], args := [] }

/-- 'doormanlaw07.AggrPlays': WHATEVER THE INPUT: true; the input reads as it did. -/
def aggrPlaysSpec : ChangeSpec := { name := "aggrPlays", fn := fun _ => fun
  | [d1, d2, d3] => { results := [.lit (.bool true)], args := [d1, d2, d3] }
  | _ => none }
def aggrPlaysRow : OpenClaim := { program := "ythlfbdkhcejlmaa", sum := "b65976d11dc998f2c7587d87eee1c88dae9bbaad1bc0aad95462927f87726087", func := "doorman/doormanlaw07.AggrPlays", spec := "aggrPlays", unfollowed := true, recurses := true, apart := false }
def AggrPlaysSaid : Prop := aggrPlaysRow.holds Try.pinned (OpenSpec.ofChange aggrPlaysSpec)

/-- ITS FALSE NEIGHBOUR: 'it returns false'. Refute it at one input. -/
def aggrPlaysWrong : ChangeSpec := { name := "aggrPlays", fn := fun _ => fun
  | [d1, d2, d3] => { results := [.lit (.bool false)], args := [d1, d2, d3] }
  | _ => none }
def AggrPlaysWrongFalsely : Prop := aggrPlaysRow.holds Try.pinned (OpenSpec.ofChange aggrPlaysWrong)

/-- 'doormanlaw07.AggrBetter': WHATEVER THE INPUT: true; the input reads as it did. -/
def aggrBetterSpec : ChangeSpec := { name := "aggrBetter", fn := fun _ => fun
  | [d1, d2, d3] => { results := [.lit (.bool true)], args := [d1, d2, d3] }
  | _ => none }
def aggrBetterRow : OpenClaim := { program := "ythlfbdkhcejlmaa", sum := "b65976d11dc998f2c7587d87eee1c88dae9bbaad1bc0aad95462927f87726087", func := "doorman/doormanlaw07.AggrBetter", spec := "aggrBetter", unfollowed := true, recurses := true, apart := false }
def AggrBetterSaid : Prop := aggrBetterRow.holds Try.pinned (OpenSpec.ofChange aggrBetterSpec)

/-- ITS FALSE NEIGHBOUR: 'it returns false'. Refute it at one input. -/
def aggrBetterWrong : ChangeSpec := { name := "aggrBetter", fn := fun _ => fun
  | [d1, d2, d3] => { results := [.lit (.bool false)], args := [d1, d2, d3] }
  | _ => none }
def AggrBetterWrongFalsely : Prop := aggrBetterRow.holds Try.pinned (OpenSpec.ofChange aggrBetterWrong)

/-- 'doormanlaw07.AggrOne': WHATEVER THE INPUT: true; the input reads as it did. -/
def aggrOneSpec : ChangeSpec := { name := "aggrOne", fn := fun _ => fun
  | [d1, d2, d3] => { results := [.lit (.bool true)], args := [d1, d2, d3] }
  | _ => none }
def aggrOneRow : OpenClaim := { program := "ythlfbdkhcejlmaa", sum := "b65976d11dc998f2c7587d87eee1c88dae9bbaad1bc0aad95462927f87726087", func := "doorman/doormanlaw07.AggrOne", spec := "aggrOne", unfollowed := true, recurses := true, apart := false }
def AggrOneSaid : Prop := aggrOneRow.holds Try.pinned (OpenSpec.ofChange aggrOneSpec)

/-- ITS FALSE NEIGHBOUR: 'it returns false'. Refute it at one input. -/
def aggrOneWrong : ChangeSpec := { name := "aggrOne", fn := fun _ => fun
  | [d1, d2, d3] => { results := [.lit (.bool false)], args := [d1, d2, d3] }
  | _ => none }
def AggrOneWrongFalsely : Prop := aggrOneRow.holds Try.pinned (OpenSpec.ofChange aggrOneWrong)

/-- 'doormanlaw07.AggrTurned': WHATEVER THE INPUT: true; the input reads as it did. -/
def aggrTurnedSpec : ChangeSpec := { name := "aggrTurned", fn := fun _ => fun
  | [d1, d2] => { results := [.lit (.bool true)], args := [d1, d2] }
  | _ => none }
def aggrTurnedRow : OpenClaim := { program := "ythlfbdkhcejlmaa", sum := "b65976d11dc998f2c7587d87eee1c88dae9bbaad1bc0aad95462927f87726087", func := "doorman/doormanlaw07.AggrTurned", spec := "aggrTurned", unfollowed := true, recurses := true, apart := false }
def AggrTurnedSaid : Prop := aggrTurnedRow.holds Try.pinned (OpenSpec.ofChange aggrTurnedSpec)

/-- ITS FALSE NEIGHBOUR: 'it returns false'. Refute it at one input. -/
def aggrTurnedWrong : ChangeSpec := { name := "aggrTurned", fn := fun _ => fun
  | [d1, d2] => { results := [.lit (.bool false)], args := [d1, d2] }
  | _ => none }
def AggrTurnedWrongFalsely : Prop := aggrTurnedRow.holds Try.pinned (OpenSpec.ofChange aggrTurnedWrong)

/-- 'doormanlaw07.AggrTop': WHATEVER THE INPUT: true; the input reads as it did. -/
def aggrTopSpec : ChangeSpec := { name := "aggrTop", fn := fun _ => fun
  | [d1, d2] => { results := [.lit (.bool true)], args := [d1, d2] }
  | _ => none }
def aggrTopRow : OpenClaim := { program := "ythlfbdkhcejlmaa", sum := "b65976d11dc998f2c7587d87eee1c88dae9bbaad1bc0aad95462927f87726087", func := "doorman/doormanlaw07.AggrTop", spec := "aggrTop", unfollowed := true, recurses := true, apart := false }
def AggrTopSaid : Prop := aggrTopRow.holds Try.pinned (OpenSpec.ofChange aggrTopSpec)

/-- ITS FALSE NEIGHBOUR: 'it returns false'. Refute it at one input. -/
def aggrTopWrong : ChangeSpec := { name := "aggrTop", fn := fun _ => fun
  | [d1, d2] => { results := [.lit (.bool false)], args := [d1, d2] }
  | _ => none }
def AggrTopWrongFalsely : Prop := aggrTopRow.holds Try.pinned (OpenSpec.ofChange aggrTopWrong)

/-- 'doormanlaw07.AggrNext': WHATEVER THE INPUT: true; the input reads as it did. -/
def aggrNextSpec : ChangeSpec := { name := "aggrNext", fn := fun _ => fun
  | [d1, d2, d3] => { results := [.lit (.bool true)], args := [d1, d2, d3] }
  | _ => none }
def aggrNextRow : OpenClaim := { program := "ythlfbdkhcejlmaa", sum := "b65976d11dc998f2c7587d87eee1c88dae9bbaad1bc0aad95462927f87726087", func := "doorman/doormanlaw07.AggrNext", spec := "aggrNext", unfollowed := true, recurses := true, apart := false }
def AggrNextSaid : Prop := aggrNextRow.holds Try.pinned (OpenSpec.ofChange aggrNextSpec)

/-- ITS FALSE NEIGHBOUR: 'it returns false'. Refute it at one input. -/
def aggrNextWrong : ChangeSpec := { name := "aggrNext", fn := fun _ => fun
  | [d1, d2, d3] => { results := [.lit (.bool false)], args := [d1, d2, d3] }
  | _ => none }
def AggrNextWrongFalsely : Prop := aggrNextRow.holds Try.pinned (OpenSpec.ofChange aggrNextWrong)

/- THE SECOND FORM. 'bulk': how many values and letters a reading holds, each counted each time it is reached (what is shared counts as often as it is met; a slice's spare places count too). A statement '..UptoSaid' is the law's where the arguments, and the package variables that the reading takes, are together of bulk at most 1048576: NARROWER than '..Said'. Prove '..Said' where nothing that the law and all that it calls make is longer than what came in: it says more and counts as full. Else prove '..UptoSaid'. A law counts once. -/
mutual
def uptoBulk {H : Type} : DataW H → Nat
  | .lit (.string bytes) => bytes.length + 1
  | .lit _ => 1
  | .nil => 1
  | .ptr d => uptoBulk d + 1
  | .slice elems spare => uptoBulkAll elems + uptoBulkAll spare + 1
  | .agg parts => uptoBulkAll parts + 1
  | .iface _ d => uptoBulk d + 1
  | .map entries => uptoBulkEntries entries + 1
  | .held _ => 1
def uptoBulkAll {H : Type} : List (DataW H) → Nat
  | [] => 0
  | d :: r => uptoBulk d + uptoBulkAll r
def uptoBulkEntries {H : Type} : List (Lit × DataW H) → Nat
  | [] => 0
  | x :: r => uptoBulkEntry x + uptoBulkEntries r
def uptoBulkEntry {H : Type} : Lit × DataW H → Nat
  | (.string bytes, d) => bytes.length + uptoBulk d + 1
  | (_, d) => uptoBulk d + 1
 end
def uptoSmall : (H : Type) → List (DataW H) → Bool := fun _ ds => decide (uptoBulkAll ds ≤ 1048576)
def OpenSpec.upto (s : _root_.Go.ChangeSpec) : _root_.Go.OpenSpec := { _root_.Go.OpenSpec.ofChange s with cond := some uptoSmall }

/-- 'doormanlaw07.AggrPlays', WHERE WHAT IT READS IS OF BULK AT MOST 1048576: true; the input reads as it did. -/
def aggrPlaysUptoRow : OpenClaim := { program := "ythlfbdkhcejlmaa", sum := "b65976d11dc998f2c7587d87eee1c88dae9bbaad1bc0aad95462927f87726087", func := "doorman/doormanlaw07.AggrPlays", spec := "aggrPlays", unfollowed := true, recurses := true, apart := false, narrowed := true }
def AggrPlaysUptoSaid : Prop := aggrPlaysUptoRow.holds Try.pinned (OpenSpec.upto aggrPlaysSpec)

/-- 'doormanlaw07.AggrBetter', WHERE WHAT IT READS IS OF BULK AT MOST 1048576: true; the input reads as it did. -/
def aggrBetterUptoRow : OpenClaim := { program := "ythlfbdkhcejlmaa", sum := "b65976d11dc998f2c7587d87eee1c88dae9bbaad1bc0aad95462927f87726087", func := "doorman/doormanlaw07.AggrBetter", spec := "aggrBetter", unfollowed := true, recurses := true, apart := false, narrowed := true }
def AggrBetterUptoSaid : Prop := aggrBetterUptoRow.holds Try.pinned (OpenSpec.upto aggrBetterSpec)

/-- 'doormanlaw07.AggrOne', WHERE WHAT IT READS IS OF BULK AT MOST 1048576: true; the input reads as it did. -/
def aggrOneUptoRow : OpenClaim := { program := "ythlfbdkhcejlmaa", sum := "b65976d11dc998f2c7587d87eee1c88dae9bbaad1bc0aad95462927f87726087", func := "doorman/doormanlaw07.AggrOne", spec := "aggrOne", unfollowed := true, recurses := true, apart := false, narrowed := true }
def AggrOneUptoSaid : Prop := aggrOneUptoRow.holds Try.pinned (OpenSpec.upto aggrOneSpec)

/-- 'doormanlaw07.AggrTurned', WHERE WHAT IT READS IS OF BULK AT MOST 1048576: true; the input reads as it did. -/
def aggrTurnedUptoRow : OpenClaim := { program := "ythlfbdkhcejlmaa", sum := "b65976d11dc998f2c7587d87eee1c88dae9bbaad1bc0aad95462927f87726087", func := "doorman/doormanlaw07.AggrTurned", spec := "aggrTurned", unfollowed := true, recurses := true, apart := false, narrowed := true }
def AggrTurnedUptoSaid : Prop := aggrTurnedUptoRow.holds Try.pinned (OpenSpec.upto aggrTurnedSpec)

/-- 'doormanlaw07.AggrTop', WHERE WHAT IT READS IS OF BULK AT MOST 1048576: true; the input reads as it did. -/
def aggrTopUptoRow : OpenClaim := { program := "ythlfbdkhcejlmaa", sum := "b65976d11dc998f2c7587d87eee1c88dae9bbaad1bc0aad95462927f87726087", func := "doorman/doormanlaw07.AggrTop", spec := "aggrTop", unfollowed := true, recurses := true, apart := false, narrowed := true }
def AggrTopUptoSaid : Prop := aggrTopUptoRow.holds Try.pinned (OpenSpec.upto aggrTopSpec)

/-- 'doormanlaw07.AggrNext', WHERE WHAT IT READS IS OF BULK AT MOST 1048576: true; the input reads as it did. -/
def aggrNextUptoRow : OpenClaim := { program := "ythlfbdkhcejlmaa", sum := "b65976d11dc998f2c7587d87eee1c88dae9bbaad1bc0aad95462927f87726087", func := "doorman/doormanlaw07.AggrNext", spec := "aggrNext", unfollowed := true, recurses := true, apart := false, narrowed := true }
def AggrNextUptoSaid : Prop := aggrNextUptoRow.holds Try.pinned (OpenSpec.upto aggrNextSpec)

end Rows
end Go.Proofs.Ythlfbdkhcejlmaa
