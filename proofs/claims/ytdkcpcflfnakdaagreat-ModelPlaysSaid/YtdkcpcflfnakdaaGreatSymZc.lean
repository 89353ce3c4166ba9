/- A text of the walk that proves a law of this seat; joined by a program. -/
import Derived.Test.YtdkcpcflfnakdaaGreatSymZb
set_option linter.unusedSimpArgs false
set_option linter.unusedVariables false
namespace Go.Proofs.YtdkcpcflfnakdaaGreat.Sym
open Go Go.RowKit
variable {L : Nat} {Hd : Nat → Prop} {P : Program} {T : TypeId → Option TI}
variable {args : List AV} {g : FuncId}
mutual
def weak : AV → AV → Prop
 | .agg xs, z => z = .any ∨ ∃ ys, z = .agg ys ∧ q2z xs ys
 | .tup xs, z => z = .any ∨ ∃ ys, z = .tup ys ∧ q2z xs ys
 | .sl sz xs, z => z = .any ∨ ∃ ys, z = .sl sz ys ∧ q2z xs ys
 | x, z => z = .any ∨ z = x ∨ (x = .v (.slice none 0 0) ∧ ∃ sz, z = .sl sz [])
def q2z : List AV → List AV → Prop
 | [], ys => ys = []
 | x :: xs, ys => ∃ y zs, ys = y :: zs ∧ weak x y ∧ q2z xs zs
end
mutual
theorem q0g : ∀ x : AV, weak x x
 | .v _ => .inr (.inl rfl)
 | .agg xs => .inr ⟨xs, rfl, q2g xs⟩
 | .tup xs => .inr ⟨xs, rfl, q2g xs⟩
 | .sl sz xs => .inr ⟨xs, rfl, q2g xs⟩
 | .rp _ => .inr (.inl rfl)
 | .own _ _ _ _ => .inr (.inl rfl)
 | .ptr _ _ => .inr (.inl rfl)
 | .ep _ _ _ _ => .inr (.inl rfl)
 | .fn _ _ => .inr (.inl rfl)
 | .any => .inl rfl
theorem q2g : ∀ xs : List AV, q2z xs xs
 | [] => rfl
 | x :: xs => ⟨x, xs, rfl, q0g x, q2g xs⟩
end
theorem q1j (sz : Nat) : weak (.v (.slice none 0 0)) (.sl sz []) := .inr (.inr ⟨rfl, sz, rfl⟩)
theorem qgp : ∀ {xs ys : List AV}, q2z xs ys → xs.length = ys.length
 | [], _, h => by cases h; rfl
 | x :: xs, _, h => by obtain ⟨y, zs, rfl, _, h2⟩ := h; simp [qgp h2]
mutual
theorem qyc : ∀ (x y : AV), weak x y → ∀ b ∈ y.refs, b ∈ x.refs
 | .agg xs, y, h, b, hb => by
  rcases h with rfl | ⟨ys, rfl, h⟩
  · simp [AV.refs] at hb
  · exact q9a xs ys h b hb
 | .tup xs, y, h, b, hb => by
  rcases h with rfl | ⟨ys, rfl, h⟩
  · simp [AV.refs] at hb
  · exact q9a xs ys h b hb
 | .sl sz xs, y, h, b, hb => by
  rcases h with rfl | ⟨ys, rfl, h⟩
  · simp [AV.refs] at hb
  · exact q9a xs ys h b hb
 | .v x, y, h, b, hb => by rcases h with rfl | rfl | ⟨_, sz, rfl⟩ <;> simp [AV.refs, q05] at hb
 | .rp cs, y, h, b, hb => by
  rcases h with rfl | rfl | ⟨h, _⟩
  · simp [AV.refs] at hb
  · exact hb
  · cases h
 | .own b' sz off len, y, h, b, hb => by
  rcases h with rfl | rfl | ⟨h, _⟩
  · simp [AV.refs] at hb
  · exact hb
  · cases h
 | .ptr b' c, y, h, b, hb => by
  rcases h with rfl | rfl | ⟨h, _⟩
  · simp [AV.refs] at hb
  · exact hb
  · cases h
 | .ep b' sz i c, y, h, b, hb => by
  rcases h with rfl | rfl | ⟨h, _⟩
  · simp [AV.refs] at hb
  · exact hb
  · cases h
 | .fn f caps, y, h, b, hb => by
  rcases h with rfl | rfl | ⟨h, _⟩
  · simp [AV.refs] at hb
  · exact hb
  · cases h
 | .any, y, h, b, hb => by
  rcases h with rfl | rfl | ⟨h, _⟩
  · simp [AV.refs] at hb
  · exact hb
  · cases h
theorem q9a : ∀ (xs ys : List AV), q2z xs ys → ∀ b ∈ q05 ys, b ∈ q05 xs
 | [], _, h, b, hb => by cases h; exact hb
 | x :: xs, _, h, b, hb => by
  obtain ⟨y, zs, rfl, h1, h2⟩ := h
  simp only [q05, z0q] at hb ⊢
  exact hb.imp (qyc x y h1 b) (q9a xs zs h2 b)
end
theorem qf4 {xs ys : List AV} (h : q2z xs ys) (hp : q05 xs = []) : q05 ys = [] :=
 z45.2 fun b hb => by have := q9a xs ys h b hb; rw [hp] at this; cases this
mutual
theorem rel_weak {ι : Loc} {w : World} : ∀ (x y : AV) (v : Value), weak x y → rel Hd ι w x v → rel Hd ι w y v
 | .agg xs, y, _, h, hr => by
  rcases h with rfl | ⟨ys, rfl, h⟩
  · exact True.intro
  · obtain ⟨vs, rfl, hr⟩ := hr; exact ⟨vs, rfl, q3r xs ys vs h hr⟩
 | .tup xs, y, _, h, hr => by
  rcases h with rfl | ⟨ys, rfl, h⟩
  · exact True.intro
  · obtain ⟨vs, rfl, hr⟩ := hr; exact ⟨vs, rfl, q3r xs ys vs h hr⟩
 | .sl sz xs, y, _, h, hr => by
  rcases h with rfl | ⟨ys, rfl, h⟩
  · exact True.intro
  · obtain ⟨hp, a, cap, vs, rfl, hc, hr, hm⟩ := hr
    have hl := qgp h
    refine ⟨qf4 h hp, a, cap, vs, by rw [hl], by rw [← hl]; exact hc, q3r xs ys vs h hr, hm.imp (fun e => ?_) id⟩
    subst e
    exact h
 | .v x, y, _, h, hr => by
  rcases h with rfl | rfl | ⟨h, sz, rfl⟩
  · exact True.intro
  · exact hr
  · cases h
    cases hr
    exact ⟨rfl, none, 0, [], rfl, z09 _, rfl, .inl rfl⟩
 | .rp cs, y, _, h, hr => by
  rcases h with rfl | rfl | ⟨h, _⟩
  · exact True.intro
  · exact hr
  · cases h
 | .own b' sz off len, y, _, h, hr => by
  rcases h with rfl | rfl | ⟨h, _⟩
  · exact True.intro
  · exact hr
  · cases h
 | .ptr b' c, y, _, h, hr => by
  rcases h with rfl | rfl | ⟨h, _⟩
  · exact True.intro
  · exact hr
  · cases h
 | .ep b' sz i c, y, _, h, hr => by
  rcases h with rfl | rfl | ⟨h, _⟩
  · exact True.intro
  · exact hr
  · cases h
 | .fn f caps, y, _, h, hr => by
  rcases h with rfl | rfl | ⟨h, _⟩
  · exact True.intro
  · exact hr
  · cases h
 | .any, y, _, h, hr => by
  rcases h with rfl | rfl | ⟨h, _⟩
  · exact True.intro
  · exact hr
  · cases h
theorem q3r {ι : Loc} {w : World} : ∀ (xs ys : List AV) (vs : List Value), q2z xs ys → rels Hd ι w xs vs → rels Hd ι w ys vs
 | [], _, _, h, hr => by cases h; exact hr
 | x :: xs, _, _, h, hr => by
  obtain ⟨y, zs, rfl, h1, h2⟩ := h
  obtain ⟨v, vs, rfl, h3, h4⟩ := hr
  exact ⟨v, vs, rfl, rel_weak x y v h1 h3, q3r xs zs vs h2 h4⟩
end
def weakB : AB → AB → Prop
 | .box cs, z => ∃ ds, z = .box ds ∧ q2z cs ds
 | .row t sz xs, z => ∃ ys, z = .row t sz ys ∧ q2z xs ys
 | .rowc t sz xs N, z => ∃ ys, z = .rowc t sz ys N ∧ q2z xs ys
 | b, z => z = b
def q8r : List AB → List AB → Prop
 | [], m => m = []
 | b :: m, n => ∃ c n', n = c :: n' ∧ weakB b c ∧ q8r m n'
theorem q5j : ∀ b : AB, weakB b b
 | .box cs => ⟨cs, rfl, q2g cs⟩
 | .row t sz xs => ⟨xs, rfl, q2g xs⟩
 | .rowc t sz xs N => ⟨xs, rfl, q2g xs⟩
 | .gone => rfl
 | .tr _ _ => rfl
theorem qbj : ∀ m : List AB, q8r m m
 | [] => rfl
 | b :: m => ⟨b, m, rfl, q5j b, qbj m⟩
theorem qmv : ∀ {m n : List AB} {i : Nat} {c : AB}, q8r m n → n[i]? = some c → ∃ b, m[i]? = some b ∧ weakB b c
 | [], _, i, c, h, hc => by cases h; simp at hc
 | b :: m, _, 0, c, h, hc => by
  obtain ⟨c', n', rfl, h1, h2⟩ := h
  simp only [z01, z1d] at hc
  subst hc
  exact ⟨b, rfl, h1⟩
 | b :: m, _, i + 1, c, h, hc => by
  obtain ⟨c', n', rfl, h1, h2⟩ := h
  have hc' : n'[i]? = some c := by simpa using hc
  obtain ⟨b', hb, hw⟩ := qmv (m := m) h2 hc'
  exact ⟨b', by simpa using hb, hw⟩
theorem qgt : ∀ {m n : List AB}, q8r m n → m.length = n.length
 | [], _, h => by cases h; rfl
 | b :: m, _, h => by obtain ⟨c', n', rfl, _, h2⟩ := h; simp [qgt h2]
theorem q0c.refl (s : St) : q0c s s := fun Hd B ι a w h => ⟨ι, h, fun _ => Ext.refl _ _⟩
theorem q0c.weak {s s' : St} (h1 : q2z s.tmps s'.tmps) (h2 : q8r s.mem s'.mem) : q0c s s' := by
 intro Hd B ι a w h
 refine ⟨ι, ⟨by rw [← qgt h2]; exact h.len, h.lt, h.inj, q3r _ _ _ h1 h.tmps, ?_, h.marks, h.hid, h.glob⟩, fun _ => Ext.refl _ _⟩
 intro i c hc
 obtain ⟨b, hb, hw⟩ := qmv h2 hc
 have hm := h.mem i b hb
 cases b with
 | box cs =>
  obtain ⟨ds, rfl, hw⟩ := hw
  obtain ⟨r, t, vs, k1, k2, k3⟩ := hm
  exact ⟨r, t, vs, k1, k2, q3r _ _ _ hw k3⟩
 | row t sz xs =>
  obtain ⟨ys, rfl, hw⟩ := hw
  obtain ⟨hp, hm⟩ := hm
  refine ⟨qf4 hw hp, ?_⟩
  rcases hm with ⟨r, cells, vs, k1, k2, k3, k4⟩ | ⟨k1, k2⟩
  · exact .inl ⟨r, cells, vs, k1, k2, q3r _ _ _ hw k3, k4⟩
  · subst k2; cases hw; exact .inr ⟨k1, rfl⟩
 | rowc t sz xs N =>
  obtain ⟨ys, rfl, hw⟩ := hw
  obtain ⟨⟨hp, hm⟩, hcap⟩ := hm
  refine ⟨⟨qf4 hw hp, ?_⟩, hcap⟩
  rcases hm with ⟨r, cells, vs, k1, k2, k3, k4⟩ | ⟨k1, k2⟩
  · exact .inl ⟨r, cells, vs, k1, k2, q3r _ _ _ hw k3, k4⟩
  · subst k2; cases hw; exact .inr ⟨k1, rfl⟩
 | gone => cases hw; exact True.intro
 | tr _ _ => cases hw; exact True.intro
theorem ACall.weaken {m : List AB} {K K' : AV → List AB → Prop} (h : ACall P g m args K) (hk : ∀ x m', K x m' → ∃ x' m'', q0c ⟨[x], m'⟩ ⟨[x'], m''⟩ ∧ K' x' m'') : ACall P g m args K' := by
 refine ⟨h.1, fun Hd ι w vs hR => (h.2 Hd ι w vs hR).mono ?_⟩
 rintro e w' ⟨y, x, ι', m', rfl, h1, h2, h3⟩
 obtain ⟨x', m'', ht, hk'⟩ := hk x m' h3
 obtain ⟨ι2, h4, h5⟩ := ht Hd 0 ι' _ w' h1
 exact ⟨y, x', ι2, m'', rfl, h4, fun L => (h2 L).trans (h5 L), hk'⟩
theorem q08.weaken {x y : AV} (h : q08 P g args (fun z => z = x)) (hw : Sym.weak x y) : q08 P g args (fun z => z = y) :=
 ACall.weaken h fun z m' ⟨h1, h2⟩ => ⟨y, [], by subst h1; subst h2; exact q0c.weak ⟨y, [], rfl, hw, rfl⟩ rfl, rfl, rfl⟩
theorem ACall.weakArgs {m : List AB} {args' : List AV} {K : AV → List AB → Prop} (h : ACall P g m args' K) (hw : q2z args args') : ACall P g m args K :=
 ⟨h.1, fun Hd ι w vs hR => h.2 Hd ι w vs ⟨hR.len, hR.lt, hR.inj, q3r _ _ _ hw hR.tmps, hR.mem, hR.marks, hR.hid, hR.glob⟩⟩
theorem q08.weakArgs {args' : List AV} {R : AV → Prop} (h : q08 P g args' R) (hw : q2z args args') : q08 P g args R := ACall.weakArgs h hw
def loopT (P : Program) (T : TypeId → Option TI) (L : Nat) {α : Type} (k : List Fr) (K : AExit → St → Prop) (N : Nat) (live : List Nat) (Inv : α → Prop) (st : α → St) (m : α → Nat) (x : α) : AExit → St → Prop
 | .normal, s2 => ∃ x', Inv x' ∧ m x' < m x ∧ q0c ((s2.trunc N).keep live) (st x')
 | .exit id, s2 => q7w P T L id k s2 K
 | .ret, s2 => K .ret s2
section
variable {α : Type} {k : List Fr} {K : AExit → St → Prop} {N : Nat} {live : List Nat} {Inv : α → Prop} {st : α → St} {m : α → Nat} {x : α} {s2 : St}
theorem qvm {id : Nat} : loopT P T L k K N live Inv st m x (.exit id) s2 = q7w P T L id k s2 K := _root_.id rfl
theorem qxu : loopT P T L k K N live Inv st m x .ret s2 = K .ret s2 := _root_.id rfl
end
