/- A text of the walk that proves a law of this seat; joined by a program. -/
import Derived.Test.YtdkcpcflfnakdaaGreatSymZ
set_option linter.unusedSimpArgs false
set_option linter.unusedVariables false
namespace Go.Proofs.YtdkcpcflfnakdaaGreat.Sym
open Go Go.RowKit
variable {L : Nat} {Hd : Nat → Prop}
variable {b c i : Nat} {cs xs : List AV} {s s' : St} {w : World} {ι : Loc}
def q0c (s s' : St) : Prop := ∀ (Hd : Nat → Prop) (B : Nat) (ι : Loc) (a : Act) (w : World), Rel Hd B ι s a w → ∃ ι', Rel Hd B ι' s' a w ∧ ∀ L, Ext L ι w ι' w
theorem q0c.trans {s'' : St} (h : q0c s s') (k : q0c s' s'') : q0c s s'' := fun Hd B ι a w hR =>
 have ⟨ι1, h1, e1⟩ := h Hd B ι a w hR
 have ⟨ι2, h2, e2⟩ := k Hd B ι1 a w h1
 ⟨ι2, h2, fun L => (e1 L).trans (e2 L)⟩
section
variable {P : Program} {T : TypeId → Option TI}
theorem ASem.turn {c : Code} {K : AExit → St → Prop} (t : q0c s s') (h : ASem P L c s' K) : ASem P L c s K := fun F n hF Hd B ι a w hB hR Q hq =>
 have ⟨ι1, h1, e1⟩ := t Hd B ι a w hR
 h F n hF Hd B ι1 a w hB h1 Q fun e s2 ι2 a2 w2 k1 k2 k3 => hq e s2 ι2 a2 w2 k1 k2 ((e1 L).trans k3)
theorem q1r {body : Code} {k : List Fr} {K : AExit → St → Prop} (t : q0c s s') (h : qek P T L body k s' K) : qek P T L body k s K := ASem.turn t h
theorem qkt {Γ : Type} {al : Γ → List AV → Prop} {an : Γ → List AV → Bool → Γ} {y : Value} {yl : Bool} {c : Code} {k : List Fr} {g : Γ} {K : AExit → St → Γ → Prop} (t : q0c s s') (h : qbl P T L al an y yl c k s' g K) : qbl P T L al an y yl c k s g K := fun Y n Hd B ι a w hB hR hJ Q hq =>
 have ⟨ι1, h1, e1⟩ := t Hd B ι a w hR
 h Y n Hd B ι1 a w hB h1 (Y.ext hJ (e1 L) h1.lt) Q hq
end
theorem Rel.rowToCome {B : Nat} {a : Act} (h : Rel Hd B ι s a w) (e : TypeId) (sz : Nat) : Rel Hd B (ι ++ [none]) { s with mem := s.mem ++ [.row e sz []] } a w ∧ ∀ L, Ext L ι w (ι ++ [none]) w := by
 have hin : ∀ r : Nat, some r ∈ ι ++ [none] → some r ∈ ι := fun r hr => by simpa using hr
 have hk : ∀ (b : Nat) (o : Option Nat), ι[b]? = some o → (ι ++ [none])[b]? = some o := fun b o ho => by
  rw [z0j (z08.1 ho).1]; exact ho
 have E : ∀ L, Ext L ι w (ι ++ [none]) w := fun L => ⟨rfl, rfl, rfl, z09 _, fun r _ hn => ⟨fun hh => hn (hin r hh), rfl⟩, fun _ _ => rfl, fun b o _ ho => hk b o ho⟩
 have inv : ∀ i r : Nat, (ι ++ [none])[i]? = some (some r) → ι[i]? = some (some r) := by
  intro i r hi
  by_cases c : i < ι.length
  · rwa [z0j c] at hi
  · rw [z18 (by omega)] at hi
    cases hq : i - ι.length with
    | zero => rw [hq] at hi; simp at hi
    | succ j => rw [hq] at hi; simp at hi
 refine ⟨⟨by simp [h.len], fun r hr => h.lt r (hin r hr), fun i j r hi hj => h.inj i j r (inv i r hi) (inv j r hj), q0l (E 0) h.lt _ _ (fun b _ o ho => hk b o ho) h.tmps, ?_, h.marks.ext (E 0), h.hidExt (E 0), h.glob.ext (E 0)⟩, E⟩
 intro i blk hi
 by_cases c : i < s.mem.length
 · rw [z0j c] at hi
   exact q3o (E 0) h.lt hk (fun _ _ => rfl) (h.mem i blk hi)
 · rw [z18 (by omega)] at hi
   cases hq : i - s.mem.length with
   | succ j => rw [hq] at hi; simp at hi
   | zero =>
    rw [hq] at hi
    cases hi
    refine ⟨rfl, .inr ⟨?_, rfl⟩⟩
    have : i = ι.length := by rw [h.len]; omega
    subst this
    simp
def St.adopt (s : St) (i : Nat) (e : TypeId) (sz : Nat) : St := ⟨s.tmps.set i (.own s.mem.length sz 0 0), s.mem ++ [.row e sz []]⟩
def St.asSl (s : St) (i : Nat) (sz : Nat) : St := ⟨s.tmps.set i (.sl sz []), s.mem⟩
def St.adoptIn (s : St) (b : Nat) (cs : List AV) (c : Nat) (e : TypeId) (sz : Nat) : St := ⟨s.tmps, (s.mem.set b (.box (cs.set c (.own s.mem.length sz 0 0)))) ++ [.row e sz []]⟩
def St.asSlIn (s : St) (b : Nat) (cs : List AV) (c : Nat) (sz : Nat) : St := ⟨s.tmps, s.mem.set b (.box (cs.set c (.sl sz [])))⟩
theorem q94 {ys : List Value} (i : Nat) {x : AV} (h : rels Hd ι w xs ys) (hx : ∀ y, ys[i]? = some y → rel Hd ι w x y) : rels Hd ι w (xs.set i x) ys := by
 induction xs generalizing ys i with
 | nil => exact h
 | cons z zs ih =>
  obtain ⟨y, ys', rfl, h1, h2⟩ := h
  cases i with
  | zero => exact ⟨y, ys', rfl, hx y rfl, h2⟩
  | succ i => exact ⟨y, ys', rfl, h1, ih i h2 (fun y' hy' => hx y' (by simpa using hy'))⟩
theorem qjb {ys : List Value} {v : Value} (h : rels Hd ι w xs ys) (hi : xs[i]? = some (.v v)) : ∀ y, ys[i]? = some y → y = v := by
 intro y hy
 obtain ⟨y', hy', hr⟩ := q9r h hi
 rw [hy] at hy'
 cases hy'
 exact hr
theorem q0c.adopt (e : TypeId) (sz : Nat) (hi : s.tmps[i]? = some (.v (.slice none 0 0))) : q0c s (s.adopt i e sz) := by
 intro Hd B ι a w hR
 obtain ⟨h1, e1⟩ := hR.rowToCome e sz
 refine ⟨_, ⟨h1.len, h1.lt, h1.inj, ?_, h1.mem, h1.marks, h1.hid, h1.glob⟩, e1⟩
 refine q94 i h1.tmps fun y hy => ?_
 have := qjb hR.tmps hi y hy
 subst this
 exact .inr ⟨_, rfl, rfl, rfl, by rw [← hR.len]; simp⟩
theorem q0c.asSl (sz : Nat) (hi : s.tmps[i]? = some (.v (.slice none 0 0))) : q0c s (s.asSl i sz) := by
 intro Hd B ι a w hR
 refine ⟨ι, ⟨hR.len, hR.lt, hR.inj, ?_, hR.mem, hR.marks, hR.hid, hR.glob⟩, fun _ => Ext.refl _ _⟩
 refine q94 i hR.tmps fun y hy => ?_
 have := qjb hR.tmps hi y hy
 subst this
 exact ⟨rfl, none, 0, [], rfl, z09 _, rfl, .inl rfl⟩
theorem Rel.inBox {B : Nat} {a : Act} (hR : Rel Hd B ι s a w) {x : AV} (hb : s.mem[b]? = some (.box cs)) (hc : cs[c]? = some (.v (.slice none 0 0))) (hx : rel Hd ι w x (.slice none 0 0)) : Rel Hd B ι { s with mem := s.mem.set b (.box (cs.set c x)) } a w := by
 refine ⟨by simp [hR.len], hR.lt, hR.inj, hR.tmps, ?_, hR.marks, hR.hid, hR.glob⟩
 intro i blk hi
 by_cases e : b = i
 · subst e
   rw [z0m (z08.1 hb).1] at hi
   cases hi
   obtain ⟨r, t, vs, h1, h2, h3⟩ := hR.mem b _ hb
   refine ⟨r, t, vs, h1, h2, q94 c h3 fun y hy => ?_⟩
   have := qjb h3 hc y hy
   subst this
   exact hx
 · rw [z0e e] at hi
   exact hR.mem i blk hi
theorem q0c.asSlIn (sz : Nat) (hb : s.mem[b]? = some (.box cs)) (hc : cs[c]? = some (.v (.slice none 0 0))) : q0c s (s.asSlIn b cs c sz) :=
 fun Hd B ι a w hR => ⟨ι, hR.inBox hb hc ⟨rfl, none, 0, [], rfl, z09 _, rfl, .inl rfl⟩, fun _ => Ext.refl _ _⟩
theorem q0c.adoptIn (e : TypeId) (sz : Nat) (hb : s.mem[b]? = some (.box cs)) (hc : cs[c]? = some (.v (.slice none 0 0))) : q0c s (s.adoptIn b cs c e sz) := by
 have hbl : b < s.mem.length := (z08.1 hb).1
 intro Hd B ι a w hR
 obtain ⟨h1, e1⟩ := hR.rowToCome e sz
 have h2 := h1.inBox (b := b) (c := c) (cs := cs) (x := .own s.mem.length sz 0 0) (by show (s.mem ++ [AB.row e sz []])[b]? = _; rw [z0j hbl]; exact hb) hc (.inr ⟨_, rfl, rfl, rfl, by rw [← hR.len]; simp⟩)
 have e2 : (s.mem ++ [AB.row e sz []]).set b (.box (cs.set c (.own s.mem.length sz 0 0))) = (s.mem.set b (.box (cs.set c (.own s.mem.length sz 0 0)))) ++ [AB.row e sz []] := List.set_append_left _ _ hbl
 refine ⟨_, ?_, e1⟩
 rw [St.adoptIn, ← e2]
 exact h2
theorem q1b {sz n : Nat} (h : xs.length = n) : (if 0 + n ≤ xs.length then AV.sl sz (xs.take n) else .any) = .sl sz xs := by
 subst h
 rw [if_pos (by omega), z07 (z09 _)]
theorem qes {m : List AB} {sz n : Nat} {t : TypeId} (hm : m[b]? = some (.row t sz xs)) (hn : xs.length = n) : q0e m 0 (.own b sz 0 n) = .sl sz xs := by
 simp only [q0e, hm, z00, if_true, true_and, z17]
 exact q1b hn
