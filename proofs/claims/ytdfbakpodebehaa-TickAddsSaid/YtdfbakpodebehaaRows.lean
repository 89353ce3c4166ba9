/-
  No cell of these rows narrows 'for every input' (looked for: loops, veiled, ifaces, maps, wideKeys, modest, calm, conditions, laid).
  DERIVED. THE GIVEN ROWS OF THIS SEAT. 6 by the template 'for every input the law returns true; each argument reads behind the call as it read before'; 0 by the template 'total and deterministic' (their statements: YtdfbakpodebehaaTotals.lean).
  GIVEN WITH THE SEED: the statements are not yours to turn. If you find one false, say at which input.
  Laid BY PROGRAM, IN A SANDBOX (cutbox-rows.mjs): the forced cells as the released guide's own fill.sh prints them over the translation 31df5523b885c597… (all of the seat's roots in one cut). By AI agents, Wed Nov 11 2026. No macro, syntax, notation, axiom, sorry.
-/
import Derived.Test.YtdfbakpodebehaaChecked
import GoSem.Claim
import GoSem.ClaimJoined
import GoSem.ClaimMapViews
import Derived.JoinedTies
import Derived.KernelRfl
namespace Go.Proofs.Ytdfbakpodebehaa
/- THE CELL 'sum', in the pinned program and in every row, IS THE sha256 OF THE DUMP (.gsa) THAT YtdfbakpodebehaaProg.lean LOADS. Nothing in Lean hashes anything: it is a label: what it is worth is what the hold of that sum in a sandbox is worth. -/
noncomputable def Try.pinned : Pinned := { name := "ytdfbakpodebehaa", sum := "31df5523b885c597518074c88206405667e37c867c0f672449739813f02e1931", checked := Try.checked }
namespace Rows
def none {H : Type} : Left H := { results := [], args := [] }

/-- 'doormanlaw01.TickLive': WHATEVER THE INPUT: true; the input reads as it did. -/
def tickLiveSpec : ChangeSpec := { name := "tickLive", fn := fun _ => fun
  | [d1, d2, d3] => { results := [.lit (.bool true)], args := [d1, d2, d3] }
  | _ => none }
def tickLiveRow : OpenClaim := { program := "ytdfbakpodebehaa", sum := "31df5523b885c597518074c88206405667e37c867c0f672449739813f02e1931", func := "doorman/doormanlaw01.TickLive", spec := "tickLive", apart := false }
def TickLiveSaid : Prop := tickLiveRow.holds Try.pinned (OpenSpec.ofChange tickLiveSpec)

/-- ITS FALSE NEIGHBOUR: 'it returns false'. Refute it at one input. -/
def tickLiveWrong : ChangeSpec := { name := "tickLive", fn := fun _ => fun
  | [d1, d2, d3] => { results := [.lit (.bool false)], args := [d1, d2, d3] }
  | _ => none }
def TickLiveWrongFalsely : Prop := tickLiveRow.holds Try.pinned (OpenSpec.ofChange tickLiveWrong)

/-- 'doormanlaw01.TickMany': WHATEVER THE INPUT: true; the input reads as it did. -/
def tickManySpec : ChangeSpec := { name := "tickMany", fn := fun _ => fun
  | [d1, d2] => { results := [.lit (.bool true)], args := [d1, d2] }
  | _ => none }
def tickManyRow : OpenClaim := { program := "ytdfbakpodebehaa", sum := "31df5523b885c597518074c88206405667e37c867c0f672449739813f02e1931", func := "doorman/doormanlaw01.TickMany", spec := "tickMany", apart := false }
def TickManySaid : Prop := tickManyRow.holds Try.pinned (OpenSpec.ofChange tickManySpec)

/-- ITS FALSE NEIGHBOUR: 'it returns false'. Refute it at one input. -/
def tickManyWrong : ChangeSpec := { name := "tickMany", fn := fun _ => fun
  | [d1, d2] => { results := [.lit (.bool false)], args := [d1, d2] }
  | _ => none }
def TickManyWrongFalsely : Prop := tickManyRow.holds Try.pinned (OpenSpec.ofChange tickManyWrong)

/-- 'doormanlaw01.TickOrder': WHATEVER THE INPUT: true; the input reads as it did. -/
def tickOrderSpec : ChangeSpec := { name := "tickOrder", fn := fun _ => fun
  | [d1, d2, d3] => { results := [.lit (.bool true)], args := [d1, d2, d3] }
  | _ => none }
def tickOrderRow : OpenClaim := { program := "ytdfbakpodebehaa", sum := "31df5523b885c597518074c88206405667e37c867c0f672449739813f02e1931", func := "doorman/doormanlaw01.TickOrder", spec := "tickOrder", apart := false }
def TickOrderSaid : Prop := tickOrderRow.holds Try.pinned (OpenSpec.ofChange tickOrderSpec)

/-- ITS FALSE NEIGHBOUR: 'it returns false'. Refute it at one input. -/
def tickOrderWrong : ChangeSpec := { name := "tickOrder", fn := fun _ => fun
  | [d1, d2, d3] => { results := [.lit (.bool false)], args := [d1, d2, d3] }
  | _ => none }
def TickOrderWrongFalsely : Prop := tickOrderRow.holds Try.pinned (OpenSpec.ofChange tickOrderWrong)

/-- 'doormanlaw01.TickTakes': WHATEVER THE INPUT: true; the input reads as it did. -/
def tickTakesSpec : ChangeSpec := { name := "tickTakes", fn := fun _ => fun
  | [d1, d2] => { results := [.lit (.bool true)], args := [d1, d2] }
  | _ => none }
def tickTakesRow : OpenClaim := { program := "ytdfbakpodebehaa", sum := "31df5523b885c597518074c88206405667e37c867c0f672449739813f02e1931", func := "doorman/doormanlaw01.TickTakes", spec := "tickTakes", apart := false }
def TickTakesSaid : Prop := tickTakesRow.holds Try.pinned (OpenSpec.ofChange tickTakesSpec)

/-- ITS FALSE NEIGHBOUR: 'it returns false'. Refute it at one input. -/
def tickTakesWrong : ChangeSpec := { name := "tickTakes", fn := fun _ => fun
  | [d1, d2] => { results := [.lit (.bool false)], args := [d1, d2] }
  | _ => none }
def TickTakesWrongFalsely : Prop := tickTakesRow.holds Try.pinned (OpenSpec.ofChange tickTakesWrong)

/-- 'doormanlaw01.TickPasses': WHATEVER THE INPUT: true; the input reads as it did. -/
def tickPassesSpec : ChangeSpec := { name := "tickPasses", fn := fun _ => fun
  | [d1, d2, d3] => { results := [.lit (.bool true)], args := [d1, d2, d3] }
  | _ => none }
def tickPassesRow : OpenClaim := { program := "ytdfbakpodebehaa", sum := "31df5523b885c597518074c88206405667e37c867c0f672449739813f02e1931", func := "doorman/doormanlaw01.TickPasses", spec := "tickPasses", apart := false }
def TickPassesSaid : Prop := tickPassesRow.holds Try.pinned (OpenSpec.ofChange tickPassesSpec)

/-- ITS FALSE NEIGHBOUR: 'it returns false'. Refute it at one input. -/
def tickPassesWrong : ChangeSpec := { name := "tickPasses", fn := fun _ => fun
  | [d1, d2, d3] => { results := [.lit (.bool false)], args := [d1, d2, d3] }
  | _ => none }
def TickPassesWrongFalsely : Prop := tickPassesRow.holds Try.pinned (OpenSpec.ofChange tickPassesWrong)

/-- 'doormanlaw01.TickAdds': WHATEVER THE INPUT: true; the input reads as it did. -/
def tickAddsSpec : ChangeSpec := { name := "tickAdds", fn := fun _ => fun
  | [d1, d2, d3] => { results := [.lit (.bool true)], args := [d1, d2, d3] }
  | _ => none }
def tickAddsRow : OpenClaim := { program := "ytdfbakpodebehaa", sum := "31df5523b885c597518074c88206405667e37c867c0f672449739813f02e1931", func := "doorman/doormanlaw01.TickAdds", spec := "tickAdds", apart := false }
def TickAddsSaid : Prop := tickAddsRow.holds Try.pinned (OpenSpec.ofChange tickAddsSpec)

/-- ITS FALSE NEIGHBOUR: 'it returns false'. Refute it at one input. -/
def tickAddsWrong : ChangeSpec := { name := "tickAdds", fn := fun _ => fun
  | [d1, d2, d3] => { results := [.lit (.bool false)], args := [d1, d2, d3] }
  | _ => none }
def TickAddsWrongFalsely : Prop := tickAddsRow.holds Try.pinned (OpenSpec.ofChange tickAddsWrong)

/- THE SECOND FORM. 'bulk': how many values and letters a reading holds, each counted each time it is reached (what is shared counts as often as it is met; a slice's spare places count too). A statement '..UptoSaid' is the law's where the arguments, and the package variables that the reading takes, are together of bulk at most 1048576: NARROWER than '..Said'. Prove '..Said' where nothing that the law and all that it calls make is longer than what came in: it says more and counts as full. Else prove '..UptoSaid'. A law counts once. -/
mutual
def uptoBulk {H : Type} : DataW H → Nat
  | .lit (.string bytes) => bytes.length + 1
  | .lit _ => 1
  | .nil => 1
  | .ptr d => uptoBulk d + 1
  | .slice elems spare => uptoBulkAll elems + uptoBulkAll spare + 1
  | .agg parts => uptoBulkAll parts + 1
  | .iface _ d => uptoBulk d + 1
  | .map entries => uptoBulkEntries entries + 1
  | .held _ => 1
def uptoBulkAll {H : Type} : List (DataW H) → Nat
  | [] => 0
  | d :: r => uptoBulk d + uptoBulkAll r
def uptoBulkEntries {H : Type} : List (Lit × DataW H) → Nat
  | [] => 0
  | x :: r => uptoBulkEntry x + uptoBulkEntries r
def uptoBulkEntry {H : Type} : Lit × DataW H → Nat
  | (.string bytes, d) => bytes.length + uptoBulk d + 1
  | (_, d) => uptoBulk d + 1
 end
def uptoSmall : (H : Type) → List (DataW H) → Bool := fun _ ds => decide (uptoBulkAll ds ≤ 1048576)
def OpenSpec.upto (s : _root_.Go.ChangeSpec) : _root_.Go.OpenSpec := { _root_.Go.OpenSpec.ofChange s with cond := some uptoSmall }

/-- 'doormanlaw01.TickLive', WHERE WHAT IT READS IS OF BULK AT MOST 1048576: true; the input reads as it did. -/
def tickLiveUptoRow : OpenClaim := { program := "ytdfbakpodebehaa", sum := "31df5523b885c597518074c88206405667e37c867c0f672449739813f02e1931", func := "doorman/doormanlaw01.TickLive", spec := "tickLive", apart := false, narrowed := true }
def TickLiveUptoSaid : Prop := tickLiveUptoRow.holds Try.pinned (OpenSpec.upto tickLiveSpec)

/-- 'doormanlaw01.TickMany', WHERE WHAT IT READS IS OF BULK AT MOST 1048576: true; the input reads as it did. -/
def tickManyUptoRow : OpenClaim := { program := "ytdfbakpodebehaa", sum := "31df5523b885c597518074c88206405667e37c867c0f672449739813f02e1931", func := "doorman/doormanlaw01.TickMany", spec := "tickMany", apart := false, narrowed := true }
def TickManyUptoSaid : Prop := tickManyUptoRow.holds Try.pinned (OpenSpec.upto tickManySpec)

/-- 'doormanlaw01.TickOrder', WHERE WHAT IT READS IS OF BULK AT MOST 1048576: true; the input reads as it did. -/
def tickOrderUptoRow : OpenClaim := { program := "ytdfbakpodebehaa", sum := "31df5523b885c597518074c88206405667e37c867c0f672449739813f02e1931", func := "doorman/doormanlaw01.TickOrder", spec := "tickOrder", apart := false, narrowed := true }
def TickOrderUptoSaid : Prop := tickOrderUptoRow.holds Try.pinned (OpenSpec.upto tickOrderSpec)

/-- 'doormanlaw01.TickTakes', WHERE WHAT IT READS IS OF BULK AT MOST 1048576: true; the input reads as it did. -/
def tickTakesUptoRow : OpenClaim := { program := "ytdfbakpodebehaa", sum := "31df5523b885c597518074c88206405667e37c867c0f672449739813f02e1931", func := "doorman/doormanlaw01.TickTakes", spec := "tickTakes", apart := false, narrowed := true }
def TickTakesUptoSaid : Prop := tickTakesUptoRow.holds Try.pinned (OpenSpec.upto tickTakesSpec)

/-- 'doormanlaw01.TickPasses', WHERE WHAT IT READS IS OF BULK AT MOST 1048576: true; the input reads as it did. -/
def tickPassesUptoRow : OpenClaim := { program := "ytdfbakpodebehaa", sum := "31df5523b885c597518074c88206405667e37c867c0f672449739813f02e1931", func := "doorman/doormanlaw01.TickPasses", spec := "tickPasses", apart := false, narrowed := true }
def TickPassesUptoSaid : Prop := tickPassesUptoRow.holds Try.pinned (OpenSpec.upto tickPassesSpec)

/-- 'doormanlaw01.TickAdds', WHERE WHAT IT READS IS OF BULK AT MOST 1048576: true; the input reads as it did. -/
def tickAddsUptoRow : OpenClaim := { program := "ytdfbakpodebehaa", sum := "31df5523b885c597518074c88206405667e37c867c0f672449739813f02e1931", func := "doorman/doormanlaw01.TickAdds", spec := "tickAdds", apart := false, narrowed := true }
def TickAddsUptoSaid : Prop := tickAddsUptoRow.holds Try.pinned (OpenSpec.upto tickAddsSpec)

end Rows
end Go.Proofs.Ytdfbakpodebehaa
