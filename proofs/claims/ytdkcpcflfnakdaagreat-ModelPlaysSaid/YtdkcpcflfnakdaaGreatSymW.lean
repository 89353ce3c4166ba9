/- A text of the walk that proves a law of this seat; joined by a program. -/
import Derived.Test.YtdkcpcflfnakdaaGreatSymV
set_option linter.unusedSimpArgs false
set_option linter.unusedVariables false
namespace Go.Proofs.YtdkcpcflfnakdaaGreat.Sym
open Go Go.RowKit
variable {L : Nat} {Hd Hd' : Nat → Prop}
variable {w w' : World} {ι : Loc}
structure Yld (Hd Hd' : Nat → Prop) (w w' : World) : Prop where
 os : w'.os = w.os
 tape : w'.tape = w.tape
 output : w'.output = w.output
 size : w.heap.size ≤ w'.heap.size
 same : ∀ r, r < w.heap.size → ¬ Hd r → ¬ Hd' r ∧ w'.heap[r]? = w.heap[r]?
 lt : ∀ r, Hd' r → r < w'.heap.size
 shape : ∀ r, r < w.heap.size → w'.shape? r = w.shape? r
theorem Imm.yld {r : Nat} (h : Imm Hd ι w r) (y : Yld Hd Hd' w w') : Imm Hd' ι w' r :=
 ⟨z10 h.1 y.size, h.2.1, (y.same r h.1 h.2.2).1⟩
mutual
theorem rel_yld (y : Yld Hd Hd' w w') (hl : ∀ r : Nat, some r ∈ ι → r < w.heap.size) : ∀ (x : AV) (v : Value), rel Hd ι w x v → rel Hd' ι w' x v
 | .v _, _, h => h
 | .agg xs, _, h => by obtain ⟨vs, rfl, h⟩ := h; exact ⟨vs, rfl, q3j y hl xs vs h⟩
 | .tup xs, _, h => by obtain ⟨vs, rfl, h⟩ := h; exact ⟨vs, rfl, q3j y hl xs vs h⟩
 | .sl sz xs, _, h => by
  obtain ⟨hp, a, cap, vs, rfl, hc, h, hm⟩ := h
  refine ⟨hp, a, cap, vs, rfl, hc, q3j y hl xs vs h, hm.imp id ?_⟩
  rintro ⟨r, off, rfl, hi, hr⟩
  exact ⟨r, off, rfl, hi.yld y, hr.1, fun i hi' => (q15 (y.same r hi.1 hi.2.2).2 _).trans (hr.2.1 i hi'), hr.2.2⟩
 | .rp cs, _, h => by
  obtain ⟨hp, r, off, vs, rfl, hi, h, hc⟩ := h
  exact ⟨hp, r, off, vs, rfl, hi.yld y, q3j y hl cs vs h, fun i hi' => (q15 (y.same r hi.1 hi.2.2).2 _).trans (hc i hi')⟩
 | .own b sz off len, _, h => by
  rcases h with ⟨r, cap, n, t, rfl, hc, hm, hb, hs, hn⟩ | h
  · exact .inl ⟨r, cap, n, t, rfl, hc, hm, hb, (y.shape r (hl r (z06 hb))).trans hs, hn⟩
  · exact .inr h
 | .ptr b c, _, h => h
 | .ep b sz i c, _, h => h
 | .fn f caps, _, h => by obtain ⟨vs, rfl, h⟩ := h; exact ⟨vs, rfl, q3j y hl caps vs h⟩
 | .any, _, _ => True.intro
theorem q3j (y : Yld Hd Hd' w w') (hl : ∀ r : Nat, some r ∈ ι → r < w.heap.size) : ∀ (xs : List AV) (vs : List Value), rels Hd ι w xs vs → rels Hd' ι w' xs vs
 | [], _, h => h
 | x :: xs, _, h => by
  obtain ⟨v, vs, rfl, h1, h2⟩ := h
  exact ⟨v, vs, rfl, rel_yld y hl x v h1, q3j y hl xs vs h2⟩
end
theorem GlobOk.yld (h : GlobOk Hd ι w) (y : Yld Hd Hd' w w') : GlobOk Hd' ι w' :=
 ⟨fun g vs hg => ⟨(h.plain g vs hg).1.yld y, fun i hi => (q15 (y.same g (h.plain g vs hg).1.1 (h.plain g vs hg).1.2.2).2 _).trans ((h.plain g vs hg).2 i hi)⟩,
  fun g vs hg => by
   obtain ⟨h1, R, o, c, h2, h3, h4⟩ := h.tab g vs hg
   exact ⟨h1.yld y, R, o, c, (q15 (y.same g h1.1 h1.2.2).2 _).trans h2, h3.yld y, fun i hi => (q15 (y.same R h3.1 h3.2.2).2 _).trans (h4 i hi)⟩,
  fun g vs hg => by
   obtain ⟨h1, t, f, h2⟩ := h.whole g vs hg
   exact ⟨h1.yld y, t, f, (y.same g h1.1 h1.2.2).2.trans h2⟩⟩
theorem Rel.yld {B : Nat} {s : St} {a : Act} (h : Rel Hd B ι s a w) (y : Yld Hd Hd' w w') : Rel Hd' B ι s a w' := by
 have hin : ∀ r : Nat, some r ∈ ι → w'.heap[r]? = w.heap[r]? := fun r hr => (y.same r (h.lt r hr) (h.nhid r hr)).2
 refine ⟨h.len, fun r hr => z10 (h.lt r hr) y.size, h.inj, q3j y h.lt _ _ h.tmps, ?_, ?_, ?_, ?_⟩
 · intro i blk hi
   have h0 := h.mem i blk hi
   cases blk with
   | box cs =>
    obtain ⟨r, t, vs, h1, h2, h3⟩ := h0
    exact ⟨r, t, vs, h1, (hin r (z06 h1)).trans h2, q3j y h.lt _ _ h3⟩
   | row t sz xs =>
    obtain ⟨hp, h0⟩ := h0
    refine ⟨hp, ?_⟩
    rcases h0 with ⟨r, cells, vs, h1, h2, h3, h4⟩ | h0
    · exact .inl ⟨r, cells, vs, h1, (hin r (z06 h1)).trans h2, q3j y h.lt _ _ h3, h4.1, fun j hj => (q15 (hin r (z06 h1)) _).trans (h4.2.1 j hj), h4.2.2⟩
    · exact .inr h0
   | rowc t sz xs N =>
    obtain ⟨⟨hp, h0⟩, hcap⟩ := h0
    refine ⟨⟨hp, ?_⟩, hcap.move (fun o ho => ho) (fun r hr => qfc (hin r (z06 hr)))⟩
    rcases h0 with ⟨r, cells, vs, h1, h2, h3, h4⟩ | h0
    · exact .inl ⟨r, cells, vs, h1, (hin r (z06 h1)).trans h2, q3j y h.lt _ _ h3, h4.1, fun j hj => (q15 (hin r (z06 h1)) _).trans (h4.2.1 j hj), h4.2.2⟩
    · exact .inr h0
   | gone => exact True.intro
   | tr _ _ => exact True.intro
 · obtain ⟨rs, h1, h2, h3⟩ := h.marks
   exact ⟨rs, h1, h2, fun r hr => ⟨(h3 r hr).1, (h3 r hr).2.1.yld y, (y.same r (h3 r hr).2.1.1 (h3 r hr).2.1.2.2).2.trans (h3 r hr).2.2⟩⟩
 · intro r hr
   refine ⟨y.lt r hr, fun hh => ?_⟩
   exact (y.same r (h.lt r hh) (h.nhid r hh)).1 hr
 · exact h.glob.yld y
