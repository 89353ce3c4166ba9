/- A text of the walk that proves a law of this seat; joined by a program. -/
import Derived.Test.YtdkcpcflfnakdaaGreatSymZf
set_option linter.unusedSimpArgs false
set_option linter.unusedVariables false
namespace Go.Proofs.YtdkcpcflfnakdaaGreat.Sym
open Go Go.RowKit
variable {P : Program} {T : TypeId → Option TI} {L : Nat} {Hd : Nat → Prop}
variable {s s' : St}
def q2l (L : Nat) (s s' : St) : Prop := ∀ (Hd : Nat → Prop) (B : Nat) (ι : Loc) (a : Act) (w : World), Rel Hd B ι s a w → ∃ ι', Rel Hd B ι' s' a w ∧ Ext L ι w ι' w
theorem q0c.toL (h : q0c s s') : q2l L s s' := fun Hd B ι a w hR => let ⟨ι', h1, h2⟩ := h Hd B ι a w hR; ⟨ι', h1, h2 L⟩
theorem q2l.trans {s'' : St} (h : q2l L s s') (k : q2l L s' s'') : q2l L s s'' := fun Hd B ι a w hR =>
 have ⟨ι1, h1, e1⟩ := h Hd B ι a w hR
 have ⟨ι2, h2, e2⟩ := k Hd B ι1 a w h1
 ⟨ι2, h2, e1.trans e2⟩
theorem q2l.refl (s : St) : q2l L s s := (q0c.refl s).toL
theorem q2l.pick (bs : List Nat) (hnd : bs.Nodup) (hm : bs.map (fun b => s.mem[b]?) = (renM bs s'.mem).map some) (ht : q2z s.tmps (q0i bs s'.tmps)) (hk1 : (q03 s'.tmps).all (fun b => decide (b < bs.length)) = true) (hk2 : s'.mem.all (AB.inR bs.length) = true) (hL : ∀ b, b < L → bs[b]? = some b) : q2l L s s' := by
 intro Hd B ι a w hR
 have hlen0 : bs.length = s'.mem.length := by
  have := congrArg List.length hm
  simpa [q1y] using this
 have q49 : ∀ {i : Nat}, i < bs.length → bs[i]? = some (bs.getD i 0) := fun {i} hi => by
  rw [z04, z05 hi]; rfl
 have hmi : ∀ i, i < bs.length → s.mem[bs.getD i 0]? = (renM bs s'.mem)[i]? := by
  intro i hi
  have := congrArg (fun l => l[i]?) hm
  simp only [z11, q49 hi, z19] at this
  cases hx : (renM bs s'.mem)[i]? with
  | none => rw [hx] at this; cases this
  | some x => rw [hx] at this; simpa using this
 have hbl : ∀ i, i < bs.length → bs.getD i 0 < ι.length := by
  intro i hi
  have h1 := hmi i hi
  have h2 : i < (renM bs s'.mem).length := by rw [q1y]; omega
  rw [z05 h2] at h1
  have := (z08.1 h1).1
  have hl := hR.len
  omega
 let ι0 : Loc := bs.map fun b => ι.getD b none
 have hι0 : ∀ i, i < bs.length → ι0[i]? = ι[bs.getD i 0]? := by
  intro i hi
  show (bs.map fun b => ι.getD b none)[i]? = _
  rw [z11, q49 hi, z19, z04, z05 (hbl i hi)]
  rfl
 have hι0l : ι0.length = bs.length := by simp [ι0]
 have hsub : ∀ r : Nat, some r ∈ ι0 → some r ∈ ι := fun r hr => by
  obtain ⟨i, hi⟩ := z1m hr
  have hil := (z08.1 hi).1
  rw [hι0l] at hil
  rw [hι0 i hil] at hi
  exact z06 hi
 have hI1 : ∀ r, Imm Hd ι w r → Imm Hd ι0 w r := fun r hi => ⟨hi.1, fun hh => hi.2.1 (hsub r hh), hi.2.2⟩
 have hun : ∀ (b : Nat) (o : Option Nat), b < bs.length → ι[bs.getD b 0]? = some o → ι0[b]? = some o := fun b o hb ho => by rw [hι0 b hb]; exact ho
 have hinj : ∀ i j : Nat, i < bs.length → j < bs.length → bs.getD i 0 = bs.getD j 0 → i = j := by
  intro i j hi hj e
  have h1 := q49 hi
  have h2 := q49 hj
  rw [e, ← h2] at h1
  exact (List.getElem?_inj hi hnd).1 h1
 refine ⟨ι0, ⟨by rw [hι0l, hlen0], fun r hr => hR.lt r (hsub r hr), ?_, ?_, ?_, ?_, fun r hr => ⟨(hR.hid r hr).1, fun hh => (hR.hid r hr).2 (hsub r hh)⟩, hR.glob.free hI1⟩, ?_⟩
 · intro i j r hi hj
   have hil : i < bs.length := by rw [← hι0l]; exact (z08.1 hi).1
   have hjl : j < bs.length := by rw [← hι0l]; exact (z08.1 hj).1
   rw [hι0 i hil] at hi
   rw [hι0 j hjl] at hj
   exact hinj i j hil hjl (hR.inj _ _ r hi hj)
 · exact q5h hI1 hun s'.tmps _ (fun b hb => by simpa using z0l.1 hk1 b hb) (q3r _ _ _ ht hR.tmps)
 · intro i blk hi
   have hil : i < bs.length := by rw [hlen0]; exact (z08.1 hi).1
   have hmr := hR.mem (bs.getD i 0) (AB.ren bs blk) (by rw [hmi i hil, q23, hi]; rfl)
   exact qfu hI1 hun hil (z0l.1 hk2 blk (z06 hi)) hmr
 · obtain ⟨rs, h1, h2, h3⟩ := hR.marks
   exact ⟨rs, h1, h2, fun r hr => ⟨(h3 r hr).1, hI1 r (h3 r hr).2.1, (h3 r hr).2.2⟩⟩
 · refine ⟨rfl, rfl, rfl, z09 _, fun r _ hn => ⟨fun hh => hn (hsub r hh), rfl⟩, fun _ _ => rfl, fun b o hb ho => ?_⟩
   have h1 := hL b hb
   have h2 := (z08.1 h1).1
   rw [hι0 b h2]
   have : bs.getD b 0 = b := by rw [z04, h1]; rfl
   rw [this]; exact ho
theorem q0c.keep (s : St) (live : List Nat) : q0c s (s.keep live) := fun Hd B ι a w hR => ⟨ι, hR.keep live, fun _ => Ext.refl _ _⟩
theorem q2l.keepPick (live : List Nat) (bs : List Nat) (hnd : bs.Nodup) (hm : bs.map (fun b => s.mem[b]?) = (renM bs s'.mem).map some) (ht : (s.keep live).tmps = q0i bs s'.tmps) (hk1 : (q03 s'.tmps).all (fun b => decide (b < bs.length)) = true) (hk2 : s'.mem.all (AB.inR bs.length) = true) (hL : ∀ b, b < L → bs[b]? = some b) : q2l L s s' :=
 (q0c.keep s live).toL.trans (q2l.pick bs hnd hm (by rw [ht]; exact q2g _) hk1 hk2 hL)
section
variable {α : Type} {k : List Fr} {K : AExit → St → Prop} {Inv : α → Prop} {st : α → St} {m : α → Nat} {x : α} {s2 : St}
end
