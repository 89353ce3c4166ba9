/- A text of the walk that proves a law of this seat; joined by a program. -/
import Derived.Test.YtdkcpcflfnakdaaGreatSymZd
set_option linter.unusedSimpArgs false
set_option linter.unusedVariables false
namespace Go.Proofs.YtdkcpcflfnakdaaGreat.Sym
open Go Go.RowKit
variable {L : Nat} {Hd : Nat → Prop} {P : Program}
theorem q2w {n k b : Nat} (h : b < k) : (List.range' n k).getD b 0 = n + b := by
  rw [List.getD_eq_getElem?_getD, List.getElem?_range' h]; simp
theorem ACall.news {g : FuncId} {args : List AV} {K0 : AV → List AB → Prop} (h : ACall P g [] args K0) {m : List AB} {K : AV → List AB → Prop} (hp : q0r args = true)
    (hk : ∀ x M, K0 x M → K (ren (List.range' m.length M.length) x) (m ++ renM (List.range' m.length M.length) M)) : ACall P g m args K := by
  refine ⟨h.1, fun Hd ι w vs hR => ?_⟩
  have hr : rels Hd ι w args vs := by simpa using hR.tmps
  have hpu := q25 hr hp
  have hr0 : rels (fun r => Hd r ∨ some r ∈ ι) [] w args vs :=
    q1o (fun r hi => ⟨hi.1, by simp, fun hh => hh.elim hi.2.2 hi.2.1⟩) args vs hpu hr
  refine (h.2 (fun r => Hd r ∨ some r ∈ ι) [] w vs ⟨rfl, (fun r hh => by cases hh), (fun i j r hi => by simp at hi), by simpa using hr0, (fun i blk hi => by simp at hi), ⟨[], rfl, List.nodup_nil, fun r hr => by cases hr⟩,
    (fun r hh => ⟨hh.elim (fun h => (hR.hid r h).1) (fun h => hR.lt r h), by simp⟩), hR.glob.free (fun r hi => ⟨hi.1, by simp, fun hh => hh.elim hi.2.2 hi.2.1⟩)⟩).mono ?_
  rintro e w' ⟨y, x, ι', M, rfl, hR', hE', hx⟩
  obtain ⟨y', z', e1, hxy, rfl⟩ := hR'.tmps
  simp only [List.cons.injEq] at e1
  obtain ⟨rfl, _⟩ := e1
  have hE0 := hE' 0
  have hlen : ι'.length = M.length := hR'.len
  have hk' : ∀ (b : Nat) (o : Option Nat), ι[b]? = some o → (ι ++ ι')[b]? = some o := fun b o ho => by
    rw [List.getElem?_append_left (List.getElem?_eq_some_iff.1 ho).1]; exact ho
  have hin : ∀ r : Nat, some r ∈ ι' → ¬ Hd r ∧ some r ∉ ι := fun r hr' => by
    have := hR'.nhid r hr'
    exact ⟨fun h => this (.inl h), fun h => this (.inr h)⟩
  have hEE : ∀ L, Ext L ι w (ι ++ ι') w' := fun L => ⟨hE0.os, hE0.tape, hE0.output, hE0.size, fun r hr hn => by
    obtain ⟨q1, q2⟩ := hE0.imm r hr (by simp)
    refine ⟨?_, q2⟩
    rw [List.mem_append]; exact fun hh => hh.elim hn q1, hE0.shape, fun b o _ ho => hk' b o ho⟩
  have hI : ∀ r, Imm (fun r => Hd r ∨ some r ∈ ι) ι' w' r → Imm Hd (ι ++ ι') w' r := fun r hi => ⟨hi.1, by
    rw [List.mem_append]; exact fun hh => hh.elim (fun h => hi.2.2 (.inr h)) hi.2.1, fun hh => hi.2.2 (.inl hh)⟩
  have hι : ∀ (b : Nat) (o : Option Nat), ι'[b]? = some o → (ι ++ ι')[(List.range' m.length M.length).getD b 0]? = some o := fun b o ho => by
    have hb := (List.getElem?_eq_some_iff.1 ho).1
    have hml : ι.length = m.length := hR.len
    rw [q2w (by omega), ← hml, List.getElem?_append_right (by omega), show ι.length + b - ι.length = b by omega]; exact ho
  have hmem : ∀ r : Nat, some r ∈ ι → w'.heap[r]? = w.heap[r]? := fun r hr => (hE0.imm r (hR.lt r hr) (by simp)).2
  have hlt : ∀ r : Nat, some r ∈ ι ++ ι' → r < w'.heap.size := fun r hr => by
    rcases List.mem_append.1 hr with hr | hr
    · exact Nat.lt_of_lt_of_le (hR.lt r hr) hE0.size
    · exact hR'.lt r hr
  have hml : ι.length = m.length := hR.len
  refine ⟨y, ren (List.range' m.length M.length) x, ι ++ ι', m ++ renM (List.range' m.length M.length) M, rfl, ⟨by simp [q1h, hml, hlen], hlt, ?_, ⟨y, [], rfl, rel_ren hI hι x y hxy, rfl⟩, ?_, ⟨[], rfl, List.nodup_nil, fun r hr => by cases hr⟩, hR.hidExt (hEE 0), hR.glob.ext (hEE 0)⟩, hEE, hk x M hx⟩
  · intro i j r hi hj
    have key : ∀ k : Nat, (ι ++ ι')[k]? = some (some r) → (k < ι.length ∧ ι[k]? = some (some r)) ∨ (ι.length ≤ k ∧ ι'[k - ι.length]? = some (some r)) := fun k hk0 => by
      by_cases c : k < ι.length
      · rw [List.getElem?_append_left c] at hk0; exact .inl ⟨c, hk0⟩
      · rw [List.getElem?_append_right (by omega)] at hk0; exact .inr ⟨by omega, hk0⟩
    rcases key i hi with ⟨a1, a2⟩ | ⟨a1, a2⟩ <;> rcases key j hj with ⟨b1, b2⟩ | ⟨b1, b2⟩
    · exact hR.inj i j r a2 b2
    · exact absurd (List.mem_of_getElem? a2) (hin r (List.mem_of_getElem? b2)).2
    · exact absurd (List.mem_of_getElem? b2) (hin r (List.mem_of_getElem? a2)).2
    · have := hR'.inj _ _ r a2 b2; omega
  · intro i blk hi
    have hi : (m ++ renM (List.range' m.length M.length) M)[i]? = some blk := hi
    by_cases c : i < m.length
    · rw [List.getElem?_append_left c] at hi
      exact q2v (hEE 0) hR.lt hk' (fun r hr => hmem r (List.mem_of_getElem? hr)) (hR.mem i blk hi)
    · rw [List.getElem?_append_right (by omega), q2c] at hi
      cases hM : M[i - m.length]? with
      | none => rw [hM] at hi; cases hi
      | some blk0 =>
        rw [hM] at hi
        cases hi
        have hb := (List.getElem?_eq_some_iff.1 hM).1
        have := memRel_ren (bs := List.range' m.length M.length) hI hι (hR'.mem _ _ hM)
        rw [q2w (by omega), show m.length + (i - m.length) = i by omega] at this
        exact this
end Go.Proofs.YtdkcpcflfnakdaaGreat.Sym
