/- A call that is lent rows of ours, and leaves new blocks that name nothing else. -/
import Derived.Test.YtdkcpcflfnakdaaGreatSymZg
namespace Go.Proofs.YtdkcpcflfnakdaaGreat.Sym
open Go Go.RowKit
set_option linter.unusedVariables false
set_option linter.unusedSimpArgs false
variable {L : Nat} {Hd : Nat → Prop} {P : Program}

mutual
/-- It names blocks of our own alone, and no memory that lies elsewhere. -/
def AV.sown : AV → Bool
  | .v _ => true
  | .agg xs => sownAll xs
  | .tup xs => sownAll xs
  | .own _ _ _ _ => true
  | .ptr _ _ => true
  | .ep _ _ _ _ => true
  | .any => true
  | _ => false
def sownAll : List AV → Bool
  | [] => true
  | x :: xs => x.sown && sownAll xs
end
def AB.sown : AB → Bool
  | .box cs => sownAll cs
  | .row _ _ xs => sownAll xs
  | .rowc _ _ xs _ => sownAll xs
  | .gone => true
  | .tr _ _ => true

mutual
theorem rel_sown {Hd Hd' : Nat → Prop} {ι : Loc} {w : World} : ∀ (x : AV) (y : Value), x.sown = true → rel Hd ι w x y → rel Hd' ι w x y
  | .v _, _, _, h => h
  | .agg xs, _, hp, h => by obtain ⟨vs, rfl, h⟩ := h; exact ⟨vs, rfl, rels_sown xs vs hp h⟩
  | .tup xs, _, hp, h => by obtain ⟨vs, rfl, h⟩ := h; exact ⟨vs, rfl, rels_sown xs vs hp h⟩
  | .any, _, _, _ => True.intro
  | .sl _ _, _, hp, _ => by simp [AV.sown] at hp
  | .rp _, _, hp, _ => by simp [AV.sown] at hp
  | .own _ _ _ _, _, _, h => h
  | .ptr _ _, _, _, h => h
  | .ep _ _ _ _, _, _, h => h
  | .fn _ _, _, hp, _ => by simp [AV.sown] at hp
theorem rels_sown {Hd Hd' : Nat → Prop} {ι : Loc} {w : World} : ∀ (xs : List AV) (ys : List Value), sownAll xs = true → rels Hd ι w xs ys → rels Hd' ι w xs ys
  | [], _, _, h => h
  | x :: xs, _, hp, h => by
    obtain ⟨y, zs, rfl, h1, h2⟩ := h
    simp only [sownAll, Bool.and_eq_true] at hp
    exact ⟨y, zs, rfl, rel_sown x y hp.1 h1, rels_sown xs zs hp.2 h2⟩
end
theorem RowAt.short {w : World} {r off sz : Nat} {vs : List Value} (h : RowAt w r off sz vs) (n : Nat) : RowAt w r off sz (vs.take n) := by
  have e : flatV vs = flatV (vs.take n) ++ flatV (vs.drop n) := by rw [← q2g, List.take_append_drop]
  refine ⟨fun v hv => h.1 v (List.mem_of_mem_take hv), fun i hi => ?_, fun u hu => h.2.2 u (by rw [e]; exact List.mem_append_left _ hu)⟩
  have h0 := h.2.1 i (by rw [e, List.length_append]; omega)
  rw [h0]
  simp only [e, List.getElem_append_left hi]
/-- Of a row the elements behind so many are not told any more. -/
theorem Turns.short {tm : List AV} {m : List AB} {b : Nat} {t : TypeId} {sz : Nat} {xs g : List AV} (hb : m[b]? = some (.row t sz (xs ++ g))) : Turns ⟨tm, m⟩ ⟨tm, m.set b (.row t sz xs)⟩ := by
  intro Hd B ι a w h
  refine ⟨ι, ⟨by simpa using h.len, h.lt, h.inj, h.tmps, ?_, h.marks, h.hid, h.glob⟩, fun L => Ext.refl _ _⟩
  intro i blk hi
  have hi : (m.set b (.row t sz xs))[i]? = some blk := hi
  by_cases c : b = i
  · subst c
    rw [List.getElem?_set_self (List.getElem?_eq_some_iff.1 hb).1] at hi
    cases hi
    obtain ⟨hp, hm⟩ := h.mem b _ hb
    refine ⟨by have := q25 hp xs.length; rwa [List.take_left] at this, ?_⟩
    rcases hm with ⟨r, cells, vs, h1, h2, h3, h4⟩ | ⟨h1, h2⟩
    · have h3' := q28 xs.length h3
      rw [List.take_left] at h3'
      exact .inl ⟨r, cells, _, h1, h2, h3', h4.short _⟩
    · exact .inr ⟨h1, (List.append_eq_nil_iff.1 h2).1⟩
  · rw [List.getElem?_set_ne c] at hi
    exact h.mem i blk hi
end Go.Proofs.YtdkcpcflfnakdaaGreat.Sym
