/- A text of the walk that proves a law of this seat; joined by a program. -/
import Derived.Test.YtdkcpcflfnakdaaGreatSymZf
set_option linter.unusedSimpArgs false
set_option linter.unusedVariables false
namespace Go.Proofs.YtdkcpcflfnakdaaGreat.Sym
open Go Go.RowKit
variable {P : Program} {T : TypeId → Option TI} {L : Nat} {Hd : Nat → Prop}
def TurnsL (L : Nat) (s s' : St) : Prop := ∀ (Hd : Nat → Prop) (B : Nat) (ι : Loc) (a : Act) (w : World), Rel Hd B ι s a w → ∃ ι', Rel Hd B ι' s' a w ∧ Ext L ι w ι' w
theorem Turns.toL {s s' : St} (h : Turns s s') : TurnsL L s s' := fun Hd B ι a w hR => let ⟨ι', h1, h2⟩ := h Hd B ι a w hR; ⟨ι', h1, h2 L⟩
theorem TurnsL.trans {s s' s'' : St} (h : TurnsL L s s') (k : TurnsL L s' s'') : TurnsL L s s'' := fun Hd B ι a w hR =>
  have ⟨ι1, h1, e1⟩ := h Hd B ι a w hR
  have ⟨ι2, h2, e2⟩ := k Hd B ι1 a w h1
  ⟨ι2, h2, e1.trans e2⟩
theorem TurnsL.refl (s : St) : TurnsL L s s := (Turns.refl s).toL
theorem TurnsL.pick {s s' : St} (bs : List Nat) (hnd : bs.Nodup) (hm : bs.map (fun b => s.mem[b]?) = (renM bs s'.mem).map some) (ht : weaks s.tmps (q0e bs s'.tmps))
    (hk1 : (q03 s'.tmps).all (fun b => decide (b < bs.length)) = true) (hk2 : s'.mem.all (AB.inR bs.length) = true) (hL : ∀ b, b < L → bs[b]? = some b) : TurnsL L s s' := by
  intro Hd B ι a w hR
  have hlen0 : bs.length = s'.mem.length := by
    have := congrArg List.length hm
    simpa [q1h] using this
  have q37 : ∀ {i : Nat}, i < bs.length → bs[i]? = some (bs.getD i 0) := fun {i} hi => by
    rw [List.getD_eq_getElem?_getD, List.getElem?_eq_getElem hi]; rfl
  have hmi : ∀ i, i < bs.length → s.mem[bs.getD i 0]? = (renM bs s'.mem)[i]? := by
    intro i hi
    have := congrArg (fun l => l[i]?) hm
    simp only [List.getElem?_map, q37 hi, Option.map_some] at this
    cases hx : (renM bs s'.mem)[i]? with
    | none => rw [hx] at this; cases this
    | some x => rw [hx] at this; simpa using this
  have hbl : ∀ i, i < bs.length → bs.getD i 0 < ι.length := by
    intro i hi
    have h1 := hmi i hi
    have h2 : i < (renM bs s'.mem).length := by rw [q1h]; omega
    rw [List.getElem?_eq_getElem h2] at h1
    have := (List.getElem?_eq_some_iff.1 h1).1
    have hl := hR.len
    omega
  let ι0 : Loc := bs.map fun b => ι.getD b none
  have hι0 : ∀ i, i < bs.length → ι0[i]? = ι[bs.getD i 0]? := by
    intro i hi
    show (bs.map fun b => ι.getD b none)[i]? = _
    rw [List.getElem?_map, q37 hi, Option.map_some, List.getD_eq_getElem?_getD, List.getElem?_eq_getElem (hbl i hi)]
    rfl
  have hι0l : ι0.length = bs.length := by simp [ι0]
  have hsub : ∀ r : Nat, some r ∈ ι0 → some r ∈ ι := fun r hr => by
    obtain ⟨i, hi⟩ := List.getElem?_of_mem hr
    have hil := (List.getElem?_eq_some_iff.1 hi).1
    rw [hι0l] at hil
    rw [hι0 i hil] at hi
    exact List.mem_of_getElem? hi
  have hI1 : ∀ r, Imm Hd ι w r → Imm Hd ι0 w r := fun r hi => ⟨hi.1, fun hh => hi.2.1 (hsub r hh), hi.2.2⟩
  have hun : ∀ (b : Nat) (o : Option Nat), b < bs.length → ι[bs.getD b 0]? = some o → ι0[b]? = some o := fun b o hb ho => by rw [hι0 b hb]; exact ho
  have hinj : ∀ i j : Nat, i < bs.length → j < bs.length → bs.getD i 0 = bs.getD j 0 → i = j := by
    intro i j hi hj e
    have h1 := q37 hi
    have h2 := q37 hj
    rw [e, ← h2] at h1
    exact (List.getElem?_inj hi hnd).1 h1
  refine ⟨ι0, ⟨by rw [hι0l, hlen0], fun r hr => hR.lt r (hsub r hr), ?_, ?_, ?_, ?_, fun r hr => ⟨(hR.hid r hr).1, fun hh => (hR.hid r hr).2 (hsub r hh)⟩, hR.glob.free hI1⟩, ?_⟩
  · intro i j r hi hj
    have hil : i < bs.length := by rw [← hι0l]; exact (List.getElem?_eq_some_iff.1 hi).1
    have hjl : j < bs.length := by rw [← hι0l]; exact (List.getElem?_eq_some_iff.1 hj).1
    rw [hι0 i hil] at hi
    rw [hι0 j hjl] at hj
    exact hinj i j hil hjl (hR.inj _ _ r hi hj)
  · exact q3w hI1 hun s'.tmps _ (fun b hb => by simpa using List.all_eq_true.1 hk1 b hb) (q34 _ _ _ ht hR.tmps)
  · intro i blk hi
    have hil : i < bs.length := by rw [hlen0]; exact (List.getElem?_eq_some_iff.1 hi).1
    have hmr := hR.mem (bs.getD i 0) (AB.ren bs blk) (by rw [hmi i hil, q2c, hi]; rfl)
    exact memRel_unren hI1 hun hil (List.all_eq_true.1 hk2 blk (List.mem_of_getElem? hi)) hmr
  · obtain ⟨rs, h1, h2, h3⟩ := hR.marks
    exact ⟨rs, h1, h2, fun r hr => ⟨(h3 r hr).1, hI1 r (h3 r hr).2.1, (h3 r hr).2.2⟩⟩
  · refine ⟨rfl, rfl, rfl, Nat.le_refl _, fun r _ hn => ⟨fun hh => hn (hsub r hh), rfl⟩, fun _ _ => rfl, fun b o hb ho => ?_⟩
    have h1 := hL b hb
    have h2 := (List.getElem?_eq_some_iff.1 h1).1
    rw [hι0 b h2]
    have : bs.getD b 0 = b := by rw [List.getD_eq_getElem?_getD, h1]; rfl
    rw [this]; exact ho
theorem Turns.keep (s : St) (live : List Nat) : Turns s (s.keep live) := fun Hd B ι a w hR => ⟨ι, hR.keep live, fun _ => Ext.refl _ _⟩
section
variable {α : Type} {k : List Fr} {K : AExit → St → Prop} {Inv : α → Prop} {st : α → St} {m : α → Nat} {x : α} {s2 : St}
end
end Go.Proofs.YtdkcpcflfnakdaaGreat.Sym
