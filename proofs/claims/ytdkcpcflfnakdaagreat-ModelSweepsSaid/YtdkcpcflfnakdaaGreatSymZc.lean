/- A text of the walk that proves a law of this seat; joined by a program. -/
import Derived.Test.YtdkcpcflfnakdaaGreatSymZb
set_option linter.unusedSimpArgs false
set_option linter.unusedVariables false
namespace Go.Proofs.YtdkcpcflfnakdaaGreat.Sym
open Go Go.RowKit
variable {L : Nat} {Hd : Nat → Prop} {P : Program} {T : TypeId → Option TI}
mutual
def weak : AV → AV → Prop
  | .agg xs, z => z = .any ∨ ∃ ys, z = .agg ys ∧ weaks xs ys
  | .tup xs, z => z = .any ∨ ∃ ys, z = .tup ys ∧ weaks xs ys
  | .sl sz xs, z => z = .any ∨ ∃ ys, z = .sl sz ys ∧ weaks xs ys
  | x, z => z = .any ∨ z = x ∨ (x = .v (.slice none 0 0) ∧ ∃ sz, z = .sl sz [])
def weaks : List AV → List AV → Prop
  | [], ys => ys = []
  | x :: xs, ys => ∃ y zs, ys = y :: zs ∧ weak x y ∧ weaks xs zs
end
mutual
theorem q0s : ∀ x : AV, weak x x
  | .v _ => .inr (.inl rfl)
  | .agg xs => .inr ⟨xs, rfl, q1q xs⟩
  | .tup xs => .inr ⟨xs, rfl, q1q xs⟩
  | .sl sz xs => .inr ⟨xs, rfl, q1q xs⟩
  | .rp _ => .inr (.inl rfl)
  | .own _ _ _ _ => .inr (.inl rfl)
  | .ptr _ _ => .inr (.inl rfl)
  | .ep _ _ _ _ => .inr (.inl rfl)
  | .fn _ _ => .inr (.inl rfl)
  | .any => .inl rfl
theorem q1q : ∀ xs : List AV, weaks xs xs
  | [] => rfl
  | x :: xs => ⟨x, xs, rfl, q0s x, q1q xs⟩
end
theorem q3y (sz : Nat) : weak (.v (.slice none 0 0)) (.sl sz []) := .inr (.inr ⟨rfl, sz, rfl⟩)
theorem weaks_length : ∀ {xs ys : List AV}, weaks xs ys → xs.length = ys.length
  | [], _, h => by cases h; rfl
  | x :: xs, _, h => by obtain ⟨y, zs, rfl, _, h2⟩ := h; simp [weaks_length h2]
mutual
theorem weak_refs : ∀ (x y : AV), weak x y → ∀ b ∈ y.refs, b ∈ x.refs
  | .agg xs, y, h, b, hb => by
    rcases h with rfl | ⟨ys, rfl, h⟩
    · simp [AV.refs] at hb
    · exact weaks_refs xs ys h b hb
  | .tup xs, y, h, b, hb => by
    rcases h with rfl | ⟨ys, rfl, h⟩
    · simp [AV.refs] at hb
    · exact weaks_refs xs ys h b hb
  | .sl sz xs, y, h, b, hb => by
    rcases h with rfl | ⟨ys, rfl, h⟩
    · simp [AV.refs] at hb
    · exact weaks_refs xs ys h b hb
  | .v x, y, h, b, hb => by rcases h with rfl | rfl | ⟨_, sz, rfl⟩ <;> simp [AV.refs, q04] at hb
  | .rp cs, y, h, b, hb => by
    rcases h with rfl | rfl | ⟨h, _⟩
    · simp [AV.refs] at hb
    · exact hb
    · cases h
  | .own b' sz off len, y, h, b, hb => by
    rcases h with rfl | rfl | ⟨h, _⟩
    · simp [AV.refs] at hb
    · exact hb
    · cases h
  | .ptr b' c, y, h, b, hb => by
    rcases h with rfl | rfl | ⟨h, _⟩
    · simp [AV.refs] at hb
    · exact hb
    · cases h
  | .ep b' sz i c, y, h, b, hb => by
    rcases h with rfl | rfl | ⟨h, _⟩
    · simp [AV.refs] at hb
    · exact hb
    · cases h
  | .fn f caps, y, h, b, hb => by
    rcases h with rfl | rfl | ⟨h, _⟩
    · simp [AV.refs] at hb
    · exact hb
    · cases h
  | .any, y, h, b, hb => by
    rcases h with rfl | rfl | ⟨h, _⟩
    · simp [AV.refs] at hb
    · exact hb
    · cases h
theorem weaks_refs : ∀ (xs ys : List AV), weaks xs ys → ∀ b ∈ q04 ys, b ∈ q04 xs
  | [], _, h, b, hb => by cases h; exact hb
  | x :: xs, _, h, b, hb => by
    obtain ⟨y, zs, rfl, h1, h2⟩ := h
    simp only [q04, List.mem_append] at hb ⊢
    exact hb.imp (weak_refs x y h1 b) (weaks_refs xs zs h2 b)
end
theorem weaks_pure {xs ys : List AV} (h : weaks xs ys) (hp : q04 xs = []) : q04 ys = [] :=
  List.eq_nil_iff_forall_not_mem.2 fun b hb => by have := weaks_refs xs ys h b hb; rw [hp] at this; cases this
mutual
theorem rel_weak {ι : Loc} {w : World} : ∀ (x y : AV) (v : Value), weak x y → rel Hd ι w x v → rel Hd ι w y v
  | .agg xs, y, _, h, hr => by
    rcases h with rfl | ⟨ys, rfl, h⟩
    · exact True.intro
    · obtain ⟨vs, rfl, hr⟩ := hr; exact ⟨vs, rfl, q34 xs ys vs h hr⟩
  | .tup xs, y, _, h, hr => by
    rcases h with rfl | ⟨ys, rfl, h⟩
    · exact True.intro
    · obtain ⟨vs, rfl, hr⟩ := hr; exact ⟨vs, rfl, q34 xs ys vs h hr⟩
  | .sl sz xs, y, _, h, hr => by
    rcases h with rfl | ⟨ys, rfl, h⟩
    · exact True.intro
    · obtain ⟨hp, a, cap, vs, rfl, hc, hr, hm⟩ := hr
      have hl := weaks_length h
      refine ⟨weaks_pure h hp, a, cap, vs, by rw [hl], by rw [← hl]; exact hc, q34 xs ys vs h hr, hm.imp (fun e => ?_) id⟩
      subst e
      exact h
  | .v x, y, _, h, hr => by
    rcases h with rfl | rfl | ⟨h, sz, rfl⟩
    · exact True.intro
    · exact hr
    · cases h
      cases hr
      exact ⟨rfl, none, 0, [], rfl, Nat.le_refl _, rfl, .inl rfl⟩
  | .rp cs, y, _, h, hr => by
    rcases h with rfl | rfl | ⟨h, _⟩
    · exact True.intro
    · exact hr
    · cases h
  | .own b' sz off len, y, _, h, hr => by
    rcases h with rfl | rfl | ⟨h, _⟩
    · exact True.intro
    · exact hr
    · cases h
  | .ptr b' c, y, _, h, hr => by
    rcases h with rfl | rfl | ⟨h, _⟩
    · exact True.intro
    · exact hr
    · cases h
  | .ep b' sz i c, y, _, h, hr => by
    rcases h with rfl | rfl | ⟨h, _⟩
    · exact True.intro
    · exact hr
    · cases h
  | .fn f caps, y, _, h, hr => by
    rcases h with rfl | rfl | ⟨h, _⟩
    · exact True.intro
    · exact hr
    · cases h
  | .any, y, _, h, hr => by
    rcases h with rfl | rfl | ⟨h, _⟩
    · exact True.intro
    · exact hr
    · cases h
theorem q34 {ι : Loc} {w : World} : ∀ (xs ys : List AV) (vs : List Value), weaks xs ys → rels Hd ι w xs vs → rels Hd ι w ys vs
  | [], _, _, h, hr => by cases h; exact hr
  | x :: xs, _, _, h, hr => by
    obtain ⟨y, zs, rfl, h1, h2⟩ := h
    obtain ⟨v, vs, rfl, h3, h4⟩ := hr
    exact ⟨v, vs, rfl, rel_weak x y v h1 h3, q34 xs zs vs h2 h4⟩
end
def weakB : AB → AB → Prop
  | .box cs, z => ∃ ds, z = .box ds ∧ weaks cs ds
  | .row t sz xs, z => ∃ ys, z = .row t sz ys ∧ weaks xs ys
  | .rowc t sz xs N, z => ∃ ys, z = .rowc t sz ys N ∧ weaks xs ys
  | b, z => z = b
def weakM : List AB → List AB → Prop
  | [], m => m = []
  | b :: m, n => ∃ c n', n = c :: n' ∧ weakB b c ∧ weakM m n'
theorem weakB_refl : ∀ b : AB, weakB b b
  | .box cs => ⟨cs, rfl, q1q cs⟩
  | .row t sz xs => ⟨xs, rfl, q1q xs⟩
  | .rowc t sz xs N => ⟨xs, rfl, q1q xs⟩
  | .gone => rfl
  | .tr _ _ => rfl
theorem weakM_refl : ∀ m : List AB, weakM m m
  | [] => rfl
  | b :: m => ⟨b, m, rfl, weakB_refl b, weakM_refl m⟩
theorem weakM_get : ∀ {m n : List AB} {i : Nat} {c : AB}, weakM m n → n[i]? = some c → ∃ b, m[i]? = some b ∧ weakB b c
  | [], _, i, c, h, hc => by cases h; simp at hc
  | b :: m, _, 0, c, h, hc => by
    obtain ⟨c', n', rfl, h1, h2⟩ := h
    simp only [List.getElem?_cons_zero, Option.some.injEq] at hc
    subst hc
    exact ⟨b, rfl, h1⟩
  | b :: m, _, i + 1, c, h, hc => by
    obtain ⟨c', n', rfl, h1, h2⟩ := h
    have hc' : n'[i]? = some c := by simpa using hc
    obtain ⟨b', hb, hw⟩ := weakM_get (m := m) h2 hc'
    exact ⟨b', by simpa using hb, hw⟩
theorem weakM_length : ∀ {m n : List AB}, weakM m n → m.length = n.length
  | [], _, h => by cases h; rfl
  | b :: m, _, h => by obtain ⟨c', n', rfl, _, h2⟩ := h; simp [weakM_length h2]
theorem Turns.refl (s : St) : Turns s s := fun Hd B ι a w h => ⟨ι, h, fun _ => Ext.refl _ _⟩
theorem Turns.weak {s s' : St} (h1 : weaks s.tmps s'.tmps) (h2 : weakM s.mem s'.mem) : Turns s s' := by
  intro Hd B ι a w h
  refine ⟨ι, ⟨by rw [← weakM_length h2]; exact h.len, h.lt, h.inj, q34 _ _ _ h1 h.tmps, ?_, h.marks, h.hid, h.glob⟩, fun _ => Ext.refl _ _⟩
  intro i c hc
  obtain ⟨b, hb, hw⟩ := weakM_get h2 hc
  have hm := h.mem i b hb
  cases b with
  | box cs =>
    obtain ⟨ds, rfl, hw⟩ := hw
    obtain ⟨r, t, vs, k1, k2, k3⟩ := hm
    exact ⟨r, t, vs, k1, k2, q34 _ _ _ hw k3⟩
  | row t sz xs =>
    obtain ⟨ys, rfl, hw⟩ := hw
    obtain ⟨hp, hm⟩ := hm
    refine ⟨weaks_pure hw hp, ?_⟩
    rcases hm with ⟨r, cells, vs, k1, k2, k3, k4⟩ | ⟨k1, k2⟩
    · exact .inl ⟨r, cells, vs, k1, k2, q34 _ _ _ hw k3, k4⟩
    · subst k2; cases hw; exact .inr ⟨k1, rfl⟩
  | rowc t sz xs N =>
    obtain ⟨ys, rfl, hw⟩ := hw
    obtain ⟨⟨hp, hm⟩, hcap⟩ := hm
    refine ⟨⟨weaks_pure hw hp, ?_⟩, hcap⟩
    rcases hm with ⟨r, cells, vs, k1, k2, k3, k4⟩ | ⟨k1, k2⟩
    · exact .inl ⟨r, cells, vs, k1, k2, q34 _ _ _ hw k3, k4⟩
    · subst k2; cases hw; exact .inr ⟨k1, rfl⟩
  | gone => cases hw; exact True.intro
  | tr _ _ => cases hw; exact True.intro
theorem ACall.weaken {g : FuncId} {m : List AB} {args : List AV} {K K' : AV → List AB → Prop} (h : ACall P g m args K) (hk : ∀ x m', K x m' → ∃ x' m'', Turns ⟨[x], m'⟩ ⟨[x'], m''⟩ ∧ K' x' m'') : ACall P g m args K' := by
  refine ⟨h.1, fun Hd ι w vs hR => (h.2 Hd ι w vs hR).mono ?_⟩
  rintro e w' ⟨y, x, ι', m', rfl, h1, h2, h3⟩
  obtain ⟨x', m'', ht, hk'⟩ := hk x m' h3
  obtain ⟨ι2, h4, h5⟩ := ht Hd 0 ι' _ w' h1
  exact ⟨y, x', ι2, m'', rfl, h4, fun L => (h2 L).trans (h5 L), hk'⟩
theorem PCall.weaken {g : FuncId} {args : List AV} {x y : AV} (h : PCall P g args (fun z => z = x)) (hw : Sym.weak x y) : PCall P g args (fun z => z = y) :=
  ACall.weaken h fun z m' ⟨h1, h2⟩ => ⟨y, [], by subst h1; subst h2; exact Turns.weak ⟨y, [], rfl, hw, rfl⟩ rfl, rfl, rfl⟩
def loopT (P : Program) (T : TypeId → Option TI) (L : Nat) {α : Type} (k : List Fr) (K : AExit → St → Prop) (N : Nat) (live : List Nat) (Inv : α → Prop) (st : α → St) (m : α → Nat) (x : α) : AExit → St → Prop
  | .normal, s2 => ∃ x', Inv x' ∧ m x' < m x ∧ Turns ((s2.trunc N).keep live) (st x')
  | .exit id, s2 => exitK P T L id k s2 K
  | .ret, s2 => K .ret s2
section
variable {α : Type} {k : List Fr} {K : AExit → St → Prop} {N : Nat} {live : List Nat} {Inv : α → Prop} {st : α → St} {m : α → Nat} {x : α} {s2 : St}
theorem loopT_exit {id : Nat} : loopT P T L k K N live Inv st m x (.exit id) s2 = exitK P T L id k s2 K := _root_.id rfl
theorem loopT_ret : loopT P T L k K N live Inv st m x .ret s2 = K .ret s2 := _root_.id rfl
end
end Go.Proofs.YtdkcpcflfnakdaaGreat.Sym
