/- The variable that is laid, as the walk asks for it; the card. -/
import Derived.Test.YthlfbdkhcejlmaaDoorSymU
import Derived.Test.YthlfbdkhcejlmaaDoorRows
import Derived.LaidMore
import Derived.Lib.LaidTab
import Derived.MakeChecks
import Derived.OpenShut
import Derived.ChangeArms
import Derived.FnData
namespace Go.Proofs.YthlfbdkhcejlmaaDoor
open Go Go.Proofs.YthlfbdkhcejlmaaDoor.Sym
set_option maxRecDepth 100000
set_option linter.unusedSimpArgs false
set_option linter.unusedVariables false

def litV : Lit → Value
  | .int k n => .int k n
  | .bool b => .bool b
  | .string s => .string ⟨s.toArray⟩
  | _ => .nilIface

/-- An array of texts that reads as listed holds them, cell for cell. -/
theorem cells_of_texts {H : Type} {enc : TypeId × Value → H} {Q : Program} {w : World} {base : Nat} {sp : Nat → Bool} {held : Bool} {fuel : Nat} {t e : TypeId} {n : Nat} {cs : List Value} {zs : List (List UInt8)} {p : List MemPlace}
    (ht : Q.underlying t = some (.array n e)) (he : Q.underlying e = some .string) (hce : Q.cellsOf e = 1) (hct : Q.cellsOf t = n)
    (h : DataW.trod enc Q w base sp held fuel t cs = some (.agg (zs.map fun z => .lit (.string z)), p)) : cs = zs.map fun z => Value.string ⟨z.toArray⟩ := by
  obtain ⟨xs, m, rfl, hx, hl, hn, hel⟩ := DataW.trod_array ht h
  simp only [Prod.mk.injEq, DataW.agg.injEq] at hx
  have hzl : zs.length = n := by have := congrArg List.length hx.1; simp at this; omega
  rw [hce] at hel
  apply List.ext_getElem?
  intro i
  by_cases hi : i < n
  · have hf := hel i hi
    obtain ⟨b, hb⟩ : ∃ b, xs[i]? = some b := ⟨xs[i]'(by omega), List.getElem?_eq_getElem _⟩
    rw [hb] at hf
    obtain ⟨s, hc, rfl, _⟩ := DataW.trod_string he hf
    have h1 : cs[i]? = some (.string s) := by
      have := congrArg (·[0]?) hc
      simpa [List.getElem?_take, List.getElem?_drop] using this
    have h2 : (xs.map (·.1))[i]? = some (DataW.lit (.string s.data.toList) : DataW H) := by simp [hb]
    rw [← hx.1] at h2
    simp only [List.getElem?_map, Option.map_eq_some_iff, DataW.lit.injEq, Lit.string.injEq] at h2
    obtain ⟨z', hz', rfl⟩ := h2
    rw [h1]
    simp [hz']
  · rw [List.getElem?_eq_none (by omega), List.getElem?_eq_none (by simp; omega)]

theorem gUsers : Tryd.prog.globalNamed "doorman/ocode.users" = some 0 := by kernel_rfl
theorem tUsers : (Tryd.prog.globals[0]?).map (·.type) = some 60 := by kernel_rfl
def usersZ : List (List UInt8) := [[117, 48], [117, 49], [117, 50], [117, 51], [117, 52], [117, 53], [117, 54], [117, 55], [], [115, 101, 118, 101, 110, 116, 101, 101, 110, 32, 98, 121, 116, 101, 115, 46, 46]]
def laidL : List (String × DataW Unit) := [("doorman/ocode.users", Rows.laid_doorman_ocode_users)]
theorem c60 : Tryd.prog.cellsOf 60 = 10 := by kernel_rfl
theorem c9 : Tryd.prog.cellsOf 9 = 1 := by kernel_rfl

/-- What the row's condition gives the walk. -/
theorem glob_of_laid {W : World} (h : laidMetH Tryd.prog laidL W) : GlobOk (fun _ => False) [] W := by
  rw [MakeChecks.laidMetH_plain _ _ _ (by kernel_rfl)] at h
  obtain ⟨ps, ⟨g0, t0, cs0, f0, p0, q0, hg0, ht0, hv0, hd0, _⟩, _, _⟩ := h
  obtain rfl := Option.some.inj (gUsers.symm.trans hg0)
  obtain rfl := Option.some.inj (tUsers.symm.trans ht0)
  have hc : cs0.toList = usersZ.map fun z => Value.string ⟨z.toArray⟩ := cells_of_texts Tryd.underlying60 Tryd.underlying9 c9 c60 hd0
  intro g vs hg
  match g with
  | 0 =>
    cases hg
    have hcell := World.var?_cell hg0 hv0
    have hsz : 0 < W.heap.size := by
      have := hcell 0
      have h10 : cs0[0]? ≠ none := by
        rw [← Array.getElem?_toList, hc]; simp [usersZ]
      rw [World.cell?] at this
      by_cases hs : 0 < W.heap.size
      · exact hs
      · rw [Array.getElem?_eq_none (by omega)] at this
        exact absurd this.symm h10
    refine ⟨⟨hsz, by simp, id⟩, fun i hi => ?_⟩
    rw [Nat.zero_add, hcell i, ← Array.getElem?_toList, hc]
    have hi' : i < 10 := hi
    rcases (by omega : i = 0 ∨ i = 1 ∨ i = 2 ∨ i = 3 ∨ i = 4 ∨ i = 5 ∨ i = 6 ∨ i = 7 ∨ i = 8 ∨ i = 9) with rfl | rfl | rfl | rfl | rfl | rfl | rfl | rfl | rfl | rfl <;> rfl
  | n + 1 => cases hg

/-- The door's own heap meets the condition. -/
theorem door_met (os : Os) (args : Array Value) : laidMetH Tryd.prog laidL ((World.doorLaid Tryd.prog 400 os).forCall (fun _ _ => 0) ⟨#[], args, []⟩).memory :=
  laidMetH_of_parts3 (fuel := 8) (laidMet_of_run' 8 (by kernel_rfl) (by kernel_rfl)) (by kernel_rfl) (by kernel_rfl)
#print axioms door_met
end Go.Proofs.YthlfbdkhcejlmaaDoor
