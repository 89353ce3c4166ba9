/-
  NARROWER THAN 'FOR EVERY INPUT', by the rows' own cells (each row's printed sentence says how): OcodeReads: laid · OcodeEnds: laid · OcodePicks: laid · OcodeOps: laid · OcodeMay: laid · OcodeChecks: laid.
  DERIVED. THE GIVEN ROWS OF THIS SEAT. 6 by the template 'for every input the law returns true; each argument reads behind the call as it read before'; 0 by the template 'total and deterministic' (their statements: YthlfbdkhcejlmaaDoorTotals.lean).
  GIVEN WITH THE SEED: the statements are not yours to turn. If you find one false, say at which input.
  Laid BY PROGRAM, IN A SANDBOX (cutbox-rows.mjs): the forced cells as the released guide's own fill.sh prints them over the translation 80084fd64ac7e94f… (all of the seat's roots in one cut). By AI agents, Wed Nov 11 2026. No macro, syntax, notation, axiom, sorry.
-/
import Derived.Test.YthlfbdkhcejlmaaDoorChecked
import GoSem.Claim
import GoSem.ClaimJoined
import GoSem.ClaimMapViews
import Derived.JoinedTies
import Derived.KernelRfl
namespace Go.Proofs.YthlfbdkhcejlmaaDoor
/- THE CELL 'sum', in the pinned program and in every row, IS THE sha256 OF THE DUMP (.gsa) THAT YthlfbdkhcejlmaaDoorProg.lean LOADS. Nothing in Lean hashes anything: it is a label: what it is worth is what the hold of that sum in a sandbox is worth. -/
noncomputable def Tryd.pinned : Pinned := { name := "ythlfbdkhcejlmaadoor", sum := "80084fd64ac7e94f2374f1c98653ec9f0f51a7dd44d39242564a6889bcad87ca", checked := Tryd.checked }
namespace Rows
def none {H : Type} : Left H := { results := [], args := [] }

/- WHAT THE LISTED PACKAGE-LEVEL VARIABLES READ AS WHEN THE CALL BEGINS. Each datum BY PROGRAM (the guide's laid-datum.mjs) off the statement by which the dump's own 'gosem.cut.vars' lays the variable. In a bare row this is a premise. The card (YthlfbdkhcejlmaaDoorCards.lean) ties it to the program's text. -/
def laid_doorman_ocode_users {H : Type} : DataW H := .agg [.lit (.string [117, 48]), .lit (.string [117, 49]), .lit (.string [117, 50]), .lit (.string [117, 51]), .lit (.string [117, 52]), .lit (.string [117, 53]), .lit (.string [117, 54]), .lit (.string [117, 55]), .lit (.string []), .lit (.string [115, 101, 118, 101, 110, 116, 101, 101, 110, 32, 98, 121, 116, 101, 115, 46, 46])]

/-- 'doormanlaw12.OcodeReads': WHATEVER THE INPUT: true; the input reads as it did. -/
def ocodeReadsSpec : ChangeSpec := { name := "ocodeReads", fn := fun _ => fun
  | [d1, d2, d3] => { results := [.lit (.bool true)], args := [d1, d2, d3] }
  | _ => none }
def ocodeReadsRow : OpenClaim := { program := "ythlfbdkhcejlmaadoor", sum := "80084fd64ac7e94f2374f1c98653ec9f0f51a7dd44d39242564a6889bcad87ca", func := "doorman/doormanlaw12.OcodeReads", spec := "ocodeReads", named := ["doorman/ocode.users"], apart := false, laid := [("doorman/ocode.users", laid_doorman_ocode_users)] }
def OcodeReadsSaid : Prop := ocodeReadsRow.holds Tryd.pinned (OpenSpec.ofChange ocodeReadsSpec)

/-- ITS FALSE NEIGHBOUR: 'it returns false'. Refute it at one input. -/
def ocodeReadsWrong : ChangeSpec := { name := "ocodeReads", fn := fun _ => fun
  | [d1, d2, d3] => { results := [.lit (.bool false)], args := [d1, d2, d3] }
  | _ => none }
def OcodeReadsWrongFalsely : Prop := ocodeReadsRow.holds Tryd.pinned (OpenSpec.ofChange ocodeReadsWrong)

/-- 'doormanlaw12.OcodeEnds': WHATEVER THE INPUT: true; the input reads as it did. -/
def ocodeEndsSpec : ChangeSpec := { name := "ocodeEnds", fn := fun _ => fun
  | [d1, d2] => { results := [.lit (.bool true)], args := [d1, d2] }
  | _ => none }
def ocodeEndsRow : OpenClaim := { program := "ythlfbdkhcejlmaadoor", sum := "80084fd64ac7e94f2374f1c98653ec9f0f51a7dd44d39242564a6889bcad87ca", func := "doorman/doormanlaw12.OcodeEnds", spec := "ocodeEnds", named := ["doorman/ocode.users"], apart := false, laid := [("doorman/ocode.users", laid_doorman_ocode_users)] }
def OcodeEndsSaid : Prop := ocodeEndsRow.holds Tryd.pinned (OpenSpec.ofChange ocodeEndsSpec)

/-- ITS FALSE NEIGHBOUR: 'it returns false'. Refute it at one input. -/
def ocodeEndsWrong : ChangeSpec := { name := "ocodeEnds", fn := fun _ => fun
  | [d1, d2] => { results := [.lit (.bool false)], args := [d1, d2] }
  | _ => none }
def OcodeEndsWrongFalsely : Prop := ocodeEndsRow.holds Tryd.pinned (OpenSpec.ofChange ocodeEndsWrong)

/-- 'doormanlaw12.OcodePicks': WHATEVER THE INPUT: true; the input reads as it did. -/
def ocodePicksSpec : ChangeSpec := { name := "ocodePicks", fn := fun _ => fun
  | [d] => { results := [.lit (.bool true)], args := [d] }
  | _ => none }
def ocodePicksRow : OpenClaim := { program := "ythlfbdkhcejlmaadoor", sum := "80084fd64ac7e94f2374f1c98653ec9f0f51a7dd44d39242564a6889bcad87ca", func := "doorman/doormanlaw12.OcodePicks", spec := "ocodePicks", named := ["doorman/ocode.users"], apart := false, laid := [("doorman/ocode.users", laid_doorman_ocode_users)] }
def OcodePicksSaid : Prop := ocodePicksRow.holds Tryd.pinned (OpenSpec.ofChange ocodePicksSpec)

/-- ITS FALSE NEIGHBOUR: 'it returns false'. Refute it at one input. -/
def ocodePicksWrong : ChangeSpec := { name := "ocodePicks", fn := fun _ => fun
  | [d] => { results := [.lit (.bool false)], args := [d] }
  | _ => none }
def OcodePicksWrongFalsely : Prop := ocodePicksRow.holds Tryd.pinned (OpenSpec.ofChange ocodePicksWrong)

/-- 'doormanlaw12.OcodeOps': WHATEVER THE INPUT: true; the input reads as it did. -/
def ocodeOpsSpec : ChangeSpec := { name := "ocodeOps", fn := fun _ => fun
  | [d] => { results := [.lit (.bool true)], args := [d] }
  | _ => none }
def ocodeOpsRow : OpenClaim := { program := "ythlfbdkhcejlmaadoor", sum := "80084fd64ac7e94f2374f1c98653ec9f0f51a7dd44d39242564a6889bcad87ca", func := "doorman/doormanlaw12.OcodeOps", spec := "ocodeOps", named := ["doorman/ocode.users"], apart := false, laid := [("doorman/ocode.users", laid_doorman_ocode_users)] }
def OcodeOpsSaid : Prop := ocodeOpsRow.holds Tryd.pinned (OpenSpec.ofChange ocodeOpsSpec)

/-- ITS FALSE NEIGHBOUR: 'it returns false'. Refute it at one input. -/
def ocodeOpsWrong : ChangeSpec := { name := "ocodeOps", fn := fun _ => fun
  | [d] => { results := [.lit (.bool false)], args := [d] }
  | _ => none }
def OcodeOpsWrongFalsely : Prop := ocodeOpsRow.holds Tryd.pinned (OpenSpec.ofChange ocodeOpsWrong)

/-- 'doormanlaw12.OcodeMay': WHATEVER THE INPUT: true; the input reads as it did. -/
def ocodeMaySpec : ChangeSpec := { name := "ocodeMay", fn := fun _ => fun
  | [d] => { results := [.lit (.bool true)], args := [d] }
  | _ => none }
def ocodeMayRow : OpenClaim := { program := "ythlfbdkhcejlmaadoor", sum := "80084fd64ac7e94f2374f1c98653ec9f0f51a7dd44d39242564a6889bcad87ca", func := "doorman/doormanlaw12.OcodeMay", spec := "ocodeMay", named := ["doorman/ocode.users"], apart := false, laid := [("doorman/ocode.users", laid_doorman_ocode_users)] }
def OcodeMaySaid : Prop := ocodeMayRow.holds Tryd.pinned (OpenSpec.ofChange ocodeMaySpec)

/-- ITS FALSE NEIGHBOUR: 'it returns false'. Refute it at one input. -/
def ocodeMayWrong : ChangeSpec := { name := "ocodeMay", fn := fun _ => fun
  | [d] => { results := [.lit (.bool false)], args := [d] }
  | _ => none }
def OcodeMayWrongFalsely : Prop := ocodeMayRow.holds Tryd.pinned (OpenSpec.ofChange ocodeMayWrong)

/-- 'doormanlaw12.OcodeChecks': WHATEVER THE INPUT: true; the input reads as it did. -/
def ocodeChecksSpec : ChangeSpec := { name := "ocodeChecks", fn := fun _ => fun
  | [d] => { results := [.lit (.bool true)], args := [d] }
  | _ => none }
def ocodeChecksRow : OpenClaim := { program := "ythlfbdkhcejlmaadoor", sum := "80084fd64ac7e94f2374f1c98653ec9f0f51a7dd44d39242564a6889bcad87ca", func := "doorman/doormanlaw12.OcodeChecks", spec := "ocodeChecks", named := ["doorman/ocode.users"], apart := false, laid := [("doorman/ocode.users", laid_doorman_ocode_users)] }
def OcodeChecksSaid : Prop := ocodeChecksRow.holds Tryd.pinned (OpenSpec.ofChange ocodeChecksSpec)

/-- ITS FALSE NEIGHBOUR: 'it returns false'. Refute it at one input. -/
def ocodeChecksWrong : ChangeSpec := { name := "ocodeChecks", fn := fun _ => fun
  | [d] => { results := [.lit (.bool false)], args := [d] }
  | _ => none }
def OcodeChecksWrongFalsely : Prop := ocodeChecksRow.holds Tryd.pinned (OpenSpec.ofChange ocodeChecksWrong)

/- THE SECOND FORM. 'bulk': how many values and letters a reading holds, each counted each time it is reached (what is shared counts as often as it is met; a slice's spare places count too). A statement '..UptoSaid' is the law's where the arguments, and the package variables that the reading takes, are together of bulk at most 1048576: NARROWER than '..Said'. Prove '..Said' where nothing that the law and all that it calls make is longer than what came in: it says more and counts as full. Else prove '..UptoSaid'. A law counts once. -/
mutual
def uptoBulk {H : Type} : DataW H → Nat
  | .lit (.string bytes) => bytes.length + 1
  | .lit _ => 1
  | .nil => 1
  | .ptr d => uptoBulk d + 1
  | .slice elems spare => uptoBulkAll elems + uptoBulkAll spare + 1
  | .agg parts => uptoBulkAll parts + 1
  | .iface _ d => uptoBulk d + 1
  | .map entries => uptoBulkEntries entries + 1
  | .held _ => 1
def uptoBulkAll {H : Type} : List (DataW H) → Nat
  | [] => 0
  | d :: r => uptoBulk d + uptoBulkAll r
def uptoBulkEntries {H : Type} : List (Lit × DataW H) → Nat
  | [] => 0
  | x :: r => uptoBulkEntry x + uptoBulkEntries r
def uptoBulkEntry {H : Type} : Lit × DataW H → Nat
  | (.string bytes, d) => bytes.length + uptoBulk d + 1
  | (_, d) => uptoBulk d + 1
 end
def uptoSmall : (H : Type) → List (DataW H) → Bool := fun _ ds => decide (uptoBulkAll ds ≤ 1048576)
def OpenSpec.upto (s : _root_.Go.ChangeSpec) : _root_.Go.OpenSpec := { _root_.Go.OpenSpec.ofChange s with cond := some uptoSmall }

/-- 'doormanlaw12.OcodeReads', WHERE WHAT IT READS IS OF BULK AT MOST 1048576: true; the input reads as it did. -/
def ocodeReadsUptoRow : OpenClaim := { program := "ythlfbdkhcejlmaadoor", sum := "80084fd64ac7e94f2374f1c98653ec9f0f51a7dd44d39242564a6889bcad87ca", func := "doorman/doormanlaw12.OcodeReads", spec := "ocodeReads", named := ["doorman/ocode.users"], apart := false, laid := [("doorman/ocode.users", laid_doorman_ocode_users)], narrowed := true }
def OcodeReadsUptoSaid : Prop := ocodeReadsUptoRow.holds Tryd.pinned (OpenSpec.upto ocodeReadsSpec)

/-- 'doormanlaw12.OcodeEnds', WHERE WHAT IT READS IS OF BULK AT MOST 1048576: true; the input reads as it did. -/
def ocodeEndsUptoRow : OpenClaim := { program := "ythlfbdkhcejlmaadoor", sum := "80084fd64ac7e94f2374f1c98653ec9f0f51a7dd44d39242564a6889bcad87ca", func := "doorman/doormanlaw12.OcodeEnds", spec := "ocodeEnds", named := ["doorman/ocode.users"], apart := false, laid := [("doorman/ocode.users", laid_doorman_ocode_users)], narrowed := true }
def OcodeEndsUptoSaid : Prop := ocodeEndsUptoRow.holds Tryd.pinned (OpenSpec.upto ocodeEndsSpec)

/-- 'doormanlaw12.OcodePicks', WHERE WHAT IT READS IS OF BULK AT MOST 1048576: true; the input reads as it did. -/
def ocodePicksUptoRow : OpenClaim := { program := "ythlfbdkhcejlmaadoor", sum := "80084fd64ac7e94f2374f1c98653ec9f0f51a7dd44d39242564a6889bcad87ca", func := "doorman/doormanlaw12.OcodePicks", spec := "ocodePicks", named := ["doorman/ocode.users"], apart := false, laid := [("doorman/ocode.users", laid_doorman_ocode_users)], narrowed := true }
def OcodePicksUptoSaid : Prop := ocodePicksUptoRow.holds Tryd.pinned (OpenSpec.upto ocodePicksSpec)

/-- 'doormanlaw12.OcodeOps', WHERE WHAT IT READS IS OF BULK AT MOST 1048576: true; the input reads as it did. -/
def ocodeOpsUptoRow : OpenClaim := { program := "ythlfbdkhcejlmaadoor", sum := "80084fd64ac7e94f2374f1c98653ec9f0f51a7dd44d39242564a6889bcad87ca", func := "doorman/doormanlaw12.OcodeOps", spec := "ocodeOps", named := ["doorman/ocode.users"], apart := false, laid := [("doorman/ocode.users", laid_doorman_ocode_users)], narrowed := true }
def OcodeOpsUptoSaid : Prop := ocodeOpsUptoRow.holds Tryd.pinned (OpenSpec.upto ocodeOpsSpec)

/-- 'doormanlaw12.OcodeMay', WHERE WHAT IT READS IS OF BULK AT MOST 1048576: true; the input reads as it did. -/
def ocodeMayUptoRow : OpenClaim := { program := "ythlfbdkhcejlmaadoor", sum := "80084fd64ac7e94f2374f1c98653ec9f0f51a7dd44d39242564a6889bcad87ca", func := "doorman/doormanlaw12.OcodeMay", spec := "ocodeMay", named := ["doorman/ocode.users"], apart := false, laid := [("doorman/ocode.users", laid_doorman_ocode_users)], narrowed := true }
def OcodeMayUptoSaid : Prop := ocodeMayUptoRow.holds Tryd.pinned (OpenSpec.upto ocodeMaySpec)

/-- 'doormanlaw12.OcodeChecks', WHERE WHAT IT READS IS OF BULK AT MOST 1048576: true; the input reads as it did. -/
def ocodeChecksUptoRow : OpenClaim := { program := "ythlfbdkhcejlmaadoor", sum := "80084fd64ac7e94f2374f1c98653ec9f0f51a7dd44d39242564a6889bcad87ca", func := "doorman/doormanlaw12.OcodeChecks", spec := "ocodeChecks", named := ["doorman/ocode.users"], apart := false, laid := [("doorman/ocode.users", laid_doorman_ocode_users)], narrowed := true }
def OcodeChecksUptoSaid : Prop := ocodeChecksUptoRow.holds Tryd.pinned (OpenSpec.upto ocodeChecksSpec)

end Rows
end Go.Proofs.YthlfbdkhcejlmaaDoor
