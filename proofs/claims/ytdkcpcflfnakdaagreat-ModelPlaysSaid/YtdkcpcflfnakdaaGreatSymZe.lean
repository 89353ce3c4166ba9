/- A text of the walk that proves a law of this seat; joined by a program. -/
import Derived.Test.YtdkcpcflfnakdaaGreatSymZd
set_option linter.unusedSimpArgs false
set_option linter.unusedVariables false
namespace Go.Proofs.YtdkcpcflfnakdaaGreat.Sym
open Go Go.RowKit
variable {L : Nat} {Hd : Nat → Prop} {P : Program}
theorem q1m {n k b : Nat} (h : b < k) : (List.range' n k).getD b 0 = n + b := by
 rw [z04, List.getElem?_range' h]; simp
theorem ACall.news {g : FuncId} {args : List AV} {K0 : AV → List AB → Prop} (h : ACall P g [] args K0) {m : List AB} {K : AV → List AB → Prop} (hp : q18 args = true)
 (hk : ∀ x M, K0 x M → K (ren (List.range' m.length M.length) x) (m ++ renM (List.range' m.length M.length) M)) : ACall P g m args K := by
 refine ⟨h.1, fun Hd ι w vs hR => ?_⟩
 have hr : rels Hd ι w args vs := by simpa using hR.tmps
 have hpu := q2o hr hp
 have hr0 : rels (fun r => Hd r ∨ some r ∈ ι) [] w args vs :=
  q28 (fun r hi => ⟨hi.1, by simp, fun hh => hh.elim hi.2.2 hi.2.1⟩) args vs hpu hr
 refine (h.2 (fun r => Hd r ∨ some r ∈ ι) [] w vs ⟨rfl, (fun r hh => by cases hh), (fun i j r hi => by simp at hi), by simpa using hr0, (fun i blk hi => by simp at hi), ⟨[], rfl, z24, fun r hr => by cases hr⟩,
  (fun r hh => ⟨hh.elim (fun h => (hR.hid r h).1) (fun h => hR.lt r h), by simp⟩), hR.glob.free (fun r hi => ⟨hi.1, by simp, fun hh => hh.elim hi.2.2 hi.2.1⟩)⟩).mono ?_
 rintro e w' ⟨y, x, ι', M, rfl, hR', hE', hx⟩
 obtain ⟨y', z', e1, hxy, rfl⟩ := hR'.tmps
 simp only [z0h] at e1
 obtain ⟨rfl, _⟩ := e1
 have hE0 := hE' 0
 have hlen : ι'.length = M.length := hR'.len
 have hk' : ∀ (b : Nat) (o : Option Nat), ι[b]? = some o → (ι ++ ι')[b]? = some o := fun b o ho => by
  rw [z0j (z08.1 ho).1]; exact ho
 have hin : ∀ r : Nat, some r ∈ ι' → ¬ Hd r ∧ some r ∉ ι := fun r hr' => by
  have := hR'.nhid r hr'
  exact ⟨fun h => this (.inl h), fun h => this (.inr h)⟩
 have hEE : ∀ L, Ext L ι w (ι ++ ι') w' := fun L => ⟨hE0.os, hE0.tape, hE0.output, hE0.size, fun r hr hn => by
  obtain ⟨q1, q2⟩ := hE0.imm r hr (by simp)
  refine ⟨?_, q2⟩
  rw [z0q]; exact fun hh => hh.elim hn q1, hE0.shape, fun b o _ ho => hk' b o ho⟩
 have hI : ∀ r, Imm (fun r => Hd r ∨ some r ∈ ι) ι' w' r → Imm Hd (ι ++ ι') w' r := fun r hi => ⟨hi.1, by
  rw [z0q]; exact fun hh => hh.elim (fun h => hi.2.2 (.inr h)) hi.2.1, fun hh => hi.2.2 (.inl hh)⟩
 have hι : ∀ (b : Nat) (o : Option Nat), ι'[b]? = some o → (ι ++ ι')[(List.range' m.length M.length).getD b 0]? = some o := fun b o ho => by
  have hb := (z08.1 ho).1
  have hml : ι.length = m.length := hR.len
  rw [q1m (by omega), ← hml, z18 (by omega), show ι.length + b - ι.length = b by omega]; exact ho
 have hmem : ∀ r : Nat, some r ∈ ι → w'.heap[r]? = w.heap[r]? := fun r hr => (hE0.imm r (hR.lt r hr) (by simp)).2
 have hlt : ∀ r : Nat, some r ∈ ι ++ ι' → r < w'.heap.size := fun r hr => by
  rcases z0q.1 hr with hr | hr
  · exact z10 (hR.lt r hr) hE0.size
  · exact hR'.lt r hr
 have hml : ι.length = m.length := hR.len
 refine ⟨y, ren (List.range' m.length M.length) x, ι ++ ι', m ++ renM (List.range' m.length M.length) M, rfl, ⟨by simp [q1y, hml, hlen], hlt, ?_, ⟨y, [], rfl, qlu hI hι x y hxy, rfl⟩, ?_, ⟨[], rfl, z24, fun r hr => by cases hr⟩, hR.hidExt (hEE 0), hR.glob.ext (hEE 0)⟩, hEE, hk x M hx⟩
 · intro i j r hi hj
   have key : ∀ k : Nat, (ι ++ ι')[k]? = some (some r) → (k < ι.length ∧ ι[k]? = some (some r)) ∨ (ι.length ≤ k ∧ ι'[k - ι.length]? = some (some r)) := fun k hk0 => by
    by_cases c : k < ι.length
    · rw [z0j c] at hk0; exact .inl ⟨c, hk0⟩
    · rw [z18 (by omega)] at hk0; exact .inr ⟨by omega, hk0⟩
   rcases key i hi with ⟨a1, a2⟩ | ⟨a1, a2⟩ <;> rcases key j hj with ⟨b1, b2⟩ | ⟨b1, b2⟩
   · exact hR.inj i j r a2 b2
   · exact absurd (z06 a2) (hin r (z06 b2)).2
   · exact absurd (z06 b2) (hin r (z06 a2)).2
   · have := hR'.inj _ _ r a2 b2; omega
 · intro i blk hi
   have hi : (m ++ renM (List.range' m.length M.length) M)[i]? = some blk := hi
   by_cases c : i < m.length
   · rw [z0j c] at hi
     exact q3o (hEE 0) hR.lt hk' (fun r hr => hmem r (z06 hr)) (hR.mem i blk hi)
   · rw [z18 (by omega), q23] at hi
     cases hM : M[i - m.length]? with
     | none => rw [hM] at hi; cases hi
     | some blk0 =>
      rw [hM] at hi
      cases hi
      have hb := (z08.1 hM).1
      have := qk1 (bs := List.range' m.length M.length) hI hι (hR'.mem _ _ hM)
      rw [q1m (by omega), show m.length + (i - m.length) = i by omega] at this
      exact this
