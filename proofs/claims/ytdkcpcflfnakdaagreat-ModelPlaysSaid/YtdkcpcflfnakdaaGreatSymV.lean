/- A text of the walk that proves a law of this seat; joined by a program. -/
import Derived.Test.YtdkcpcflfnakdaaGreatSymT
set_option linter.unusedSimpArgs false
set_option linter.unusedVariables false
namespace Go.Proofs.YtdkcpcflfnakdaaGreat.Sym
open Go Go.RowKit
variable {L : Nat} {Hd : Nat → Prop}
variable {K : AExit → St → Prop} {N : Nat} {P : Program} {T : TypeId → Option TI} {k : List Fr} {live : List Nat} {s2 : St} {α : Type} {Inv : α → Prop} {m : α → Nat} {st : α → St} {x : α}
def qlj (P : Program) (T : TypeId → Option TI) (L : Nat) {α : Type} (k : List Fr) (K : AExit → St → Prop) (N : Nat) (live : List Nat) (Inv : α → Prop) (st : α → St) (m : α → Nat) (x : α) : AExit → St → Prop
 | .normal, s2 => ∃ x', Inv x' ∧ m x' < m x ∧ (s2.trunc N).keep live = st x'
 | .exit id, s2 => q7w P T L id k s2 K
 | .ret, s2 => K .ret s2
theorem qhr : ∀ (k : List Fr) (s : St) (K : AExit → St → Prop), goE P T L k .ret s K = K .ret s
 | [], s, K => rfl
 | .code c :: k, s, K => qhr k s K
 | .ops a l :: k, s, K => qhr k s K
 | .blk id :: k, s, K => qhr k s K
theorem q01 :
 qlj P T L k K N live Inv st m x .normal s2 = ∃ x', Inv x' ∧ m x' < m x ∧ (s2.trunc N).keep live = st x' := _root_.id rfl
theorem qw0 {id : Nat} :
 qlj P T L k K N live Inv st m x (.exit id) s2 = q7w P T L id k s2 K := _root_.id rfl
theorem qz9 :
 qlj P T L k K N live Inv st m x .ret s2 = K .ret s2 := _root_.id rfl
theorem q0d (hT : TyOk P T) {body : Code} {s : St} (N : Nat) (live : List Nat) (Inv : α → Prop) (st : α → St) (m : α → Nat) (x0 : α) (hL : L ≤ N) (hi : Inv x0) (h0 : (s.trunc N).keep live = st x0) (hr : ∀ x, Inv x → go P T L [.code body] (st x) (qlj P T L k K N live Inv st m x)) : qek P T L body k s K := by
 unfold qek
 intro F n hF Hd B ι a w hB hR Q hq
 refine qdb (fun j a' w' => ∃ ι' x, m x = j ∧ Inv x ∧ Rel Hd B ι' (st x) a' w' ∧ Ext L ι w ι' w') ?_ (j := m x0) ?_
 · rintro j a1 w1 ⟨ι1, x, rfl, hI, hR1, hE1⟩
   have hb : q43 P T L body (st x) (qlj P T L k K N live Inv st m x) := hr x hI
   refine q48 hT body (st x) _ hb F n hF Hd B ι1 a1 w1 (z1f hB hE1.size) hR1 _ ?_
   intro e s2 ι2 a2 w2 hK hR2 hE2
   cases e with
   | normal =>
    obtain ⟨x', hI', hlt, he⟩ := hK
    obtain ⟨hR3, hE3⟩ := hR2.trunc N hL
    have hR4 := hR3.keep live
    rw [he] at hR4
    exact ⟨m x', hlt, ι2.take N, x', rfl, hI', hR4, (hE1.trans hE2).trans hE3⟩
   | exit id => exact hq (.exit id) s2 ι2 a2 w2 hK hR2 (hE1.trans hE2)
   | ret =>
    refine hq .ret s2 ι2 a2 w2 ?_ hR2 (hE1.trans hE2)
    show goE P T L k .ret s2 K
    rw [qhr]
    exact hK
 · obtain ⟨hR3, hE3⟩ := hR.trunc N hL
   have hR4 := hR3.keep live
   rw [h0] at hR4
   exact ⟨ι.take N, x0, rfl, hi, hR4, hE3⟩
