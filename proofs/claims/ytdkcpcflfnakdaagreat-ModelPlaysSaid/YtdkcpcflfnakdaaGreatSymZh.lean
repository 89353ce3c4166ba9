/- A text of the walk that proves a law of this seat; joined by a program. -/
import Derived.Test.YtdkcpcflfnakdaaGreatSymZg
set_option linter.unusedSimpArgs false
set_option linter.unusedVariables false
namespace Go.Proofs.YtdkcpcflfnakdaaGreat.Sym
open Go Go.RowKit
variable {L : Nat} {Hd : Nat → Prop} {P : Program}
mutual
def AV.sown : AV → Bool
 | .v _ => true
 | .agg xs => q8e xs
 | .tup xs => q8e xs
 | .own _ _ _ _ => true
 | .ptr _ _ => true
 | .ep _ _ _ _ => true
 | .any => true
 | _ => false
def q8e : List AV → Bool
 | [] => true
 | x :: xs => x.sown && q8e xs
end
def AB.sown : AB → Bool
 | .box cs => q8e cs
 | .row _ _ xs => q8e xs
 | .rowc _ _ xs _ => q8e xs
 | .gone => true
 | .tr _ _ => true
mutual
theorem rel_sown {Hd Hd' : Nat → Prop} {ι : Loc} {w : World} : ∀ (x : AV) (y : Value), x.sown = true → rel Hd ι w x y → rel Hd' ι w x y
 | .v _, _, _, h => h
 | .agg xs, _, hp, h => by obtain ⟨vs, rfl, h⟩ := h; exact ⟨vs, rfl, qgx xs vs hp h⟩
 | .tup xs, _, hp, h => by obtain ⟨vs, rfl, h⟩ := h; exact ⟨vs, rfl, qgx xs vs hp h⟩
 | .any, _, _, _ => True.intro
 | .sl _ _, _, hp, _ => by simp [AV.sown] at hp
 | .rp _, _, hp, _ => by simp [AV.sown] at hp
 | .own _ _ _ _, _, _, h => h
 | .ptr _ _, _, _, h => h
 | .ep _ _ _ _, _, _, h => h
 | .fn _ _, _, hp, _ => by simp [AV.sown] at hp
theorem qgx {Hd Hd' : Nat → Prop} {ι : Loc} {w : World} : ∀ (xs : List AV) (ys : List Value), q8e xs = true → rels Hd ι w xs ys → rels Hd' ι w xs ys
 | [], _, _, h => h
 | x :: xs, _, hp, h => by
  obtain ⟨y, zs, rfl, h1, h2⟩ := h
  simp only [q8e, z0d] at hp
  exact ⟨y, zs, rfl, rel_sown x y hp.1 h1, qgx xs zs hp.2 h2⟩
end
