/- A text of the walk that proves a law of this seat; joined by a program. -/
import Derived.Test.YtdkcpcflfnakdaaGreatSymZe
set_option linter.unusedSimpArgs false
set_option linter.unusedVariables false
namespace Go.Proofs.YtdkcpcflfnakdaaGreat.Sym
open Go Go.RowKit
variable {L : Nat} {Hd : Nat → Prop} {P : Program}
mutual
def coldV (m : List AB) (b : Nat) : AV → AV
  | .agg xs => .agg (coldVs m b xs)
  | .tup xs => .tup (coldVs m b xs)
  | .own b' sz off len => shutV m b (.own b' sz off len)
  | .ptr b' c => if b' = b then (match m[b]? with
      | some (.box cs) => if q0r cs = true then .rp (cs.drop c) else .any
      | _ => .any) else .ptr b' c
  | .ep b' sz i c => if b' = b then .any else .ep b' sz i c
  | .fn f caps => .fn f (coldVs m b caps)
  | x => x
def coldVs (m : List AB) (b : Nat) : List AV → List AV
  | [] => []
  | x :: xs => coldV m b x :: coldVs m b xs
end
def AB.cold (m : List AB) (b : Nat) : AB → AB
  | .box cs => .box (coldVs m b cs)
  | x => x
def St.cold (s : St) (b : Nat) : St := ⟨coldVs s.mem b s.tmps, (s.mem.map (AB.cold s.mem b)).set b .gone⟩
def St.colds (s : St) : List Nat → St
  | [] => s
  | b :: bs => (s.cold b).colds bs
mutual
theorem coldV_rel {ι : Loc} {w : World} {m : List AB} {b : Nat} (hm : ∀ blk, m[b]? = some blk → q1w Hd ι w b blk) (hinj : ∀ i j r : Nat, ι[i]? = some (some r) → ι[j]? = some (some r) → i = j) (hlt : ∀ r : Nat, some r ∈ ι → r < w.heap.size) (hnh : ∀ r : Nat, some r ∈ ι → ¬ Hd r) :
    ∀ (x : AV) (y : Value), rel Hd ι w x y → rel Hd (ι.set b none) w (coldV m b x) y
  | .v _, _, h => h
  | .agg xs, _, h => by obtain ⟨vs, rfl, h⟩ := h; exact ⟨vs, rfl, q4p hm hinj hlt hnh xs vs h⟩
  | .tup xs, _, h => by obtain ⟨vs, rfl, h⟩ := h; exact ⟨vs, rfl, q4p hm hinj hlt hnh xs vs h⟩
  | .sl sz xs, y, h => shutV_rel hm hinj hlt hnh (.sl sz xs) y h
  | .rp cs, y, h => shutV_rel hm hinj hlt hnh (.rp cs) y h
  | .own b' sz off len, y, h => shutV_rel hm hinj hlt hnh (.own b' sz off len) y h
  | .ptr b' c, y, h => by
    simp only [coldV]
    by_cases e : b' = b
    · subst e
      rw [if_pos rfl]
      cases hb : m[b']? with
      | none => exact True.intro
      | some blk =>
        have hmr := hm blk hb
        cases blk with
        | row _ _ _ => exact True.intro
        | gone => exact True.intro
        | rowc _ _ _ _ => exact True.intro
        | tr _ _ => exact True.intro
        | box cs =>
          simp only
          by_cases hc : q0r cs = true
          · rw [if_pos hc]
            obtain ⟨r, rfl, hbr⟩ := h
            obtain ⟨r', t, vs, k1, k2, k3⟩ := hmr
            obtain rfl : r = r' := by rw [hbr] at k1; simpa using k1
            have hp0 : q04 cs = [] := q25 k3 hc
            have hp1 := q1m hp0 c
            refine ⟨hp1, r, c, vs.toList.drop c, rfl, ⟨hlt r (List.mem_of_getElem? hbr), ?_, hnh r (List.mem_of_getElem? hbr)⟩, q27 (fun r hh => q1a hh) hlt hp1 (q1i _ k3), ?_⟩
            · intro hh
              obtain ⟨i, hi⟩ := List.getElem?_of_mem hh
              by_cases c' : b' = i
              · subst c'
                rw [List.getElem?_set_self (List.getElem?_eq_some_iff.1 hbr).1] at hi
                cases hi
              · rw [List.getElem?_set_ne c'] at hi
                exact c' (hinj _ _ _ hbr hi)
            · have := (q1k k2).drop c
              rw [Nat.zero_add] at this
              exact this
          · rw [if_neg hc]; exact True.intro
    · rw [if_neg e]
      obtain ⟨r, rfl, hb⟩ := h
      exact ⟨r, rfl, by rw [List.getElem?_set_ne (Ne.symm e)]; exact hb⟩
  | .ep b' sz i c, y, h => shutV_rel hm hinj hlt hnh (.ep b' sz i c) y h
  | .fn f caps, _, h => by obtain ⟨vs, rfl, h⟩ := h; exact ⟨vs, rfl, q4p hm hinj hlt hnh caps vs h⟩
  | .any, _, _ => True.intro
theorem q4p {ι : Loc} {w : World} {m : List AB} {b : Nat} (hm : ∀ blk, m[b]? = some blk → q1w Hd ι w b blk) (hinj : ∀ i j r : Nat, ι[i]? = some (some r) → ι[j]? = some (some r) → i = j) (hlt : ∀ r : Nat, some r ∈ ι → r < w.heap.size) (hnh : ∀ r : Nat, some r ∈ ι → ¬ Hd r) :
    ∀ (xs : List AV) (ys : List Value), rels Hd ι w xs ys → rels Hd (ι.set b none) w (coldVs m b xs) ys
  | [], _, h => h
  | x :: xs, _, h => by
    obtain ⟨y, zs, rfl, h1, h2⟩ := h
    exact ⟨y, zs, rfl, coldV_rel hm hinj hlt hnh x y h1, q4p hm hinj hlt hnh xs zs h2⟩
end
theorem Rel.cold {B : Nat} {ι : Loc} {s : St} {a : Act} {w : World} (h : Rel Hd B ι s a w) (b : Nat) : Rel Hd B (ι.set b none) (s.cold b) a w := by
  have e := ext_set_none (L := 0) ι w b (Nat.zero_le _)
  refine ⟨by simp [St.cold, h.len], fun r hr => h.lt r (q1a hr), ?_, q4p (h.mem b) h.inj h.lt h.nhid _ _ h.tmps, ?_, h.marks.ext e, h.hidExt e, h.glob.ext e⟩
  · intro i j r hi hj
    have key : ∀ k : Nat, (ι.set b none)[k]? = some (some r) → ι[k]? = some (some r) := by
      intro k hk
      by_cases c : b = k
      · subst c
        by_cases hl : b < ι.length
        · rw [List.getElem?_set_self hl] at hk; cases hk
        · rw [List.getElem?_eq_none (by simp; omega)] at hk; cases hk
      · rw [List.getElem?_set_ne c] at hk; exact hk
    exact h.inj i j r (key i hi) (key j hj)
  · intro i blk hi
    simp only [St.cold] at hi
    by_cases c : b = i
    · subst c
      by_cases hl : b < s.mem.length
      · rw [List.getElem?_set_self (by simpa using hl)] at hi
        cases hi; exact True.intro
      · rw [List.getElem?_eq_none (by simp; omega)] at hi; cases hi
    · rw [List.getElem?_set_ne c, List.getElem?_map] at hi
      cases hm : s.mem[i]? with
      | none => rw [hm] at hi; cases hi
      | some blk0 =>
        rw [hm] at hi
        cases hi
        have h0 := h.mem i blk0 hm
        cases blk0 with
        | box cs =>
          obtain ⟨r, t, vs, h1, h2, h3⟩ := h0
          exact ⟨r, t, vs, by rw [List.getElem?_set_ne c]; exact h1, h2, q4p (h.mem b) h.inj h.lt h.nhid _ _ h3⟩
        | row t sz xs =>
          obtain ⟨hp, h0⟩ := h0
          refine ⟨hp, ?_⟩
          rcases h0 with ⟨r, cells, vs, h1, h2, h3, h4⟩ | ⟨h1, h2⟩
          · exact .inl ⟨r, cells, vs, by rw [List.getElem?_set_ne c]; exact h1, h2, q27 (fun r hh => q1a hh) h.lt hp h3, h4⟩
          · exact .inr ⟨by rw [List.getElem?_set_ne c]; exact h1, h2⟩
        | rowc t sz xs N =>
          obtain ⟨⟨hp, h0⟩, hcap⟩ := h0
          refine ⟨⟨hp, ?_⟩, hcap.move (fun o ho => by rw [List.getElem?_set_ne c]; exact ho) (fun _ _ => rfl)⟩
          rcases h0 with ⟨r, cells, vs, h1, h2, h3, h4⟩ | ⟨h1, h2⟩
          · exact .inl ⟨r, cells, vs, by rw [List.getElem?_set_ne c]; exact h1, h2, q27 (fun r hh => q1a hh) h.lt hp h3, h4⟩
          · exact .inr ⟨by rw [List.getElem?_set_ne c]; exact h1, h2⟩
        | gone => exact True.intro
        | tr _ _ => exact True.intro
def coldL (ι : Loc) : List Nat → Loc
  | [] => ι
  | b :: bs => coldL (ι.set b none) bs
theorem coldL_mem {r : Nat} : ∀ {bs : List Nat} {ι : Loc}, some r ∈ coldL ι bs → some r ∈ ι
  | [], _, h => h
  | b :: bs, _, h => q1a (coldL_mem (bs := bs) h)
theorem coldL_out : ∀ {bs : List Nat} {ι : Loc} {b : Nat}, b ∉ bs → (coldL ι bs)[b]? = ι[b]?
  | [], _, _, _ => rfl
  | c :: bs, ι, b, h => by
    have h1 : c ≠ b := fun e => h (by rw [e]; exact List.mem_cons_self)
    exact (coldL_out (bs := bs) (ι := ι.set c none) (fun hh => h (List.mem_cons_of_mem _ hh))).trans (List.getElem?_set_ne h1)
theorem coldL_in : ∀ {bs : List Nat} {ι : Loc} {b r : Nat}, b ∈ bs → (coldL ι bs)[b]? ≠ some (some r)
  | c :: bs, ι, b, r, h => by
    by_cases hb : b ∈ bs
    · exact coldL_in (bs := bs) hb
    · rcases List.mem_cons.1 h with rfl | h
      · show (coldL (ι.set b none) bs)[b]? ≠ _
        rw [coldL_out hb]
        by_cases hl : b < ι.length
        · rw [List.getElem?_set_self hl]; intro hh; cases hh
        · rw [List.getElem?_eq_none (by simp; omega)]; intro hh; cases hh
      · exact absurd h hb
theorem Rel.colds {B : Nat} {a : Act} {w : World} : ∀ (bs : List Nat) {ι : Loc} {s : St}, Rel Hd B ι s a w → Rel Hd B (coldL ι bs) (s.colds bs) a w
  | [], _, _, h => h
  | b :: bs, _, _, h => Rel.colds bs (h.cold b)
def litT (vs : List Value) : List Nat → List AV → List AV
  | [], xs => xs
  | i :: is, xs => litT vs is (xs.set i (.v (vs.getD i undef)))
theorem litT_rel {ι : Loc} {w : World} {vs : List Value} : ∀ (is : List Nat) {xs : List AV}, rels Hd ι w xs vs → rels Hd ι w (litT vs is xs) vs
  | [], _, h => h
  | i :: is, _, h => litT_rel is (q5c i h fun y hy => by
      show y = vs.getD i undef
      rw [List.getD_eq_getElem?_getD, hy]; rfl)
mutual
def AV.bare (fz : List Nat) : AV → Bool
  | .v _ => true
  | .agg xs => baresV fz xs
  | .tup xs => baresV fz xs
  | .sl _ _ => false
  | .rp _ => false
  | .own b _ _ _ => !fz.elem b
  | .ptr b _ => !fz.elem b
  | .ep b _ _ _ => !fz.elem b
  | .fn _ caps => baresV fz caps
  | .any => true
def baresV (fz : List Nat) : List AV → Bool
  | [] => true
  | x :: xs => x.bare fz && baresV fz xs
end
mutual
theorem bare_rel {fz : List Nat} {ι ι' : Loc} {w : World} (hk : ∀ b, b ∉ fz → ι'[b]? = ι[b]?) : ∀ (x : AV) (y : Value), x.bare fz = true → rel Hd ι w x y → rel Hd ι' w x y
  | .v _, _, _, h => h
  | .agg xs, _, hb, h => by obtain ⟨vs, rfl, h⟩ := h; exact ⟨vs, rfl, bares_rel hk xs vs hb h⟩
  | .tup xs, _, hb, h => by obtain ⟨vs, rfl, h⟩ := h; exact ⟨vs, rfl, bares_rel hk xs vs hb h⟩
  | .sl _ _, _, hb, _ => by simp [AV.bare] at hb
  | .rp _, _, hb, _ => by simp [AV.bare] at hb
  | .own b sz off len, _, hb, h => by
    have hn : b ∉ fz := by simpa [AV.bare] using hb
    rcases h with ⟨r, cap, n, t, rfl, hc, hm, hb, hs, hn'⟩ | ⟨a0, rfl, h1, h2, h3⟩
    · exact .inl ⟨r, cap, n, t, rfl, hc, hm, (hk b hn).trans hb, hs, hn'⟩
    · exact .inr ⟨a0, rfl, h1, h2, (hk b hn).trans h3⟩
  | .ptr b c, _, hb, h => by
    have hn : b ∉ fz := by simpa [AV.bare] using hb
    obtain ⟨r, rfl, hr⟩ := h; exact ⟨r, rfl, (hk b hn).trans hr⟩
  | .ep b sz i c, _, hb, h => by
    have hn : b ∉ fz := by simpa [AV.bare] using hb
    obtain ⟨r, rfl, hr⟩ := h; exact ⟨r, rfl, (hk b hn).trans hr⟩
  | .fn f caps, _, hb, h => by obtain ⟨vs, rfl, h⟩ := h; exact ⟨vs, rfl, bares_rel hk caps vs hb h⟩
  | .any, _, _, _ => True.intro
theorem bares_rel {fz : List Nat} {ι ι' : Loc} {w : World} (hk : ∀ b, b ∉ fz → ι'[b]? = ι[b]?) : ∀ (xs : List AV) (ys : List Value), baresV fz xs = true → rels Hd ι w xs ys → rels Hd ι' w xs ys
  | [], _, _, h => h
  | x :: xs, _, hb, h => by
    obtain ⟨y, zs, rfl, h1, h2⟩ := h
    rw [baresV, Bool.and_eq_true] at hb
    exact ⟨y, zs, rfl, bare_rel hk x y hb.1 h1, bares_rel hk xs zs hb.2 h2⟩
end
def AB.bare (fz : List Nat) : AB → Bool
  | .box cs => baresV fz cs
  | .row _ _ xs => baresV fz xs
  | .rowc _ _ _ _ => false
  | .gone => true
  | .tr _ _ => false
def thawT (fz lt : List Nat) : Nat → List AV → List AV → List AV
  | i, x :: xs, y :: ys => (if lt.elem i then x else if y.bare fz then y else .any) :: thawT fz lt (i + 1) xs ys
  | _, _, ys => List.replicate ys.length .any
def thawM (fz : List Nat) (L : Nat) : Nat → List AB → List AB → List AB
  | i, b :: bs, c :: cs => (if fz.elem i && decide (i < L) then b else if c.bare fz then c else .gone) :: thawM fz L (i + 1) bs cs
  | _, _, cs => List.replicate cs.length .gone
def AB.fzOk (L : Nat) : AB → Bool
  | .box cs => (q03 cs).all fun b => decide (b < L)
  | .row _ _ _ => true
  | _ => false
theorem rels_any {ι : Loc} {w : World} : ∀ {n : Nat} {ys : List Value}, ys.length = n → rels Hd ι w (List.replicate n .any) ys
  | 0, ys, h => List.eq_nil_of_length_eq_zero h
  | n + 1, y :: ys, h => ⟨y, ys, rfl, True.intro, rels_any (by simpa using h)⟩
theorem thawT_rel {fz lt : List Nat} {ι ι' ι'' : Loc} {w w' : World} (E : Ext L ι w ι'' w') (hl : ∀ r : Nat, some r ∈ ι → r < w.heap.size) (hk : ∀ b, b ∉ fz → ι''[b]? = ι'[b]?) :
    ∀ (i : Nat) (xs ys : List AV) (vs us : List Value), rels Hd ι w xs vs → rels Hd ι' w' ys us → (∀ j, i + j ∈ lt → j < ys.length → ys[j]? = some (.v (vs.getD j undef)) ∧ ∀ x, xs[j]? = some x → (bks x).all (fun b => decide (b < L)) = true) →
      rels Hd ι'' w' (thawT fz lt i xs ys) us
  | i, [], ys, vs, us, _, h2, _ => by
    have := q0b h2
    exact rels_any this.symm
  | i, x :: xs, [], vs, us, _, h2, _ => by
    have := q0b h2
    exact rels_any this.symm
  | i, x :: xs, y :: ys, vs, us, h1, h2, hlt => by
    obtain ⟨v, vs, rfl, a1, a2⟩ := h1
    obtain ⟨u, us, rfl, b1, b2⟩ := h2
    refine ⟨u, us, rfl, ?_, thawT_rel E hl hk (i + 1) xs ys vs us a2 b2 fun j hj hj2 => ?_⟩
    · by_cases c : lt.elem i = true
      · rw [if_pos c]
        obtain ⟨q1, q2⟩ := hlt 0 (by simpa using c) (by simp)
        have e1 : y = .v v := by simpa using q1
        subst e1
        have e2 : u = v := b1
        subst e2
        have q3 := q2 x rfl
        exact rel_ext E hl x u (fun b hb o ho => E.keep b o (by simpa using List.all_eq_true.1 q3 b (refs_bks x u a1 b hb)) ho) a1
      · rw [if_neg c]
        by_cases d : y.bare fz = true
        · rw [if_pos d]; exact bare_rel hk y u d b1
        · rw [if_neg d]; exact True.intro
    · have := hlt (j + 1) (by rw [show i + (j + 1) = i + 1 + j by omega]; exact hj) (by simpa using hj2)
      simpa using this
theorem thawM_len {fz : List Nat} {L : Nat} : ∀ {i : Nat} {bs cs : List AB}, (thawM fz L i bs cs).length = cs.length
  | i, [], cs => by simp [thawM]
  | i, b :: bs, [] => by simp [thawM]
  | i, b :: bs, c :: cs => by simp [thawM, thawM_len (i := i + 1) (bs := bs) (cs := cs)]
theorem thawM_get {fz : List Nat} {L : Nat} : ∀ {i : Nat} {bs cs : List AB} {j : Nat} {blk : AB}, (thawM fz L i bs cs)[j]? = some blk →
    (((fz.elem (i + j) && decide (i + j < L)) = true ∧ bs[j]? = some blk) ∨ (¬ (fz.elem (i + j) && decide (i + j < L)) = true ∧ cs[j]? = some blk ∧ blk.bare fz = true) ∨ blk = .gone)
  | i, [], cs, j, blk, h => by
    have h : (List.replicate cs.length AB.gone)[j]? = some blk := h
    exact .inr (.inr (List.eq_of_mem_replicate (List.mem_of_getElem? h)))
  | i, b :: bs, [], j, blk, h => by simp [thawM] at h
  | i, b :: bs, c :: cs, 0, blk, h => by
    simp only [thawM, List.getElem?_cons_zero, Option.some.injEq] at h
    by_cases e : (fz.elem i && decide (i < L)) = true
    · rw [if_pos e] at h; exact .inl ⟨e, by rw [← h]; rfl⟩
    · rw [if_neg e] at h
      by_cases d : c.bare fz = true
      · rw [if_pos d] at h; subst h; exact .inr (.inl ⟨e, rfl, d⟩)
      · rw [if_neg d] at h; exact .inr (.inr h.symm)
  | i, b :: bs, c :: cs, j + 1, blk, h => by
    have h : (thawM fz L (i + 1) bs cs)[j]? = some blk := by simpa [thawM] using h
    have := thawM_get h
    rw [show i + 1 + j = i + (j + 1) by omega] at this
    simpa using this
theorem asem0_thaw {c : Code} {s : St} {K : AExit → St → Prop} (lt fz : List Nat) (hfz : ∀ b ∈ fz, b < s.mem.length) (hok : ∀ b ∈ fz, b < L → ∀ blk, s.mem[b]? = some blk → blk.fzOk L = true)
    (hbk : ∀ i ∈ lt, ∀ x, s.tmps[i]? = some x → (bks x).all (fun b => decide (b < L)) = true)
    (h : ∀ vs : List Value, ASem0 P L c ((⟨litT vs lt s.tmps, s.mem⟩ : St).colds fz) (fun e s' => L ≤ s'.mem.length ∧ (∀ i ∈ lt, i < s'.tmps.length → s'.tmps[i]? = some (.v (vs.getD i undef))) ∧ K e ⟨thawT fz lt 0 s.tmps s'.tmps, thawM fz L 0 s.mem s'.mem⟩)) : ASem0 P L c s K := by
  intro n Hd B ι a w hB hR Q hq
  have hR1 : Rel Hd B ι ⟨litT a.tmps.toList lt s.tmps, s.mem⟩ a w := ⟨hR.len, hR.lt, hR.inj, litT_rel lt hR.tmps, hR.mem, hR.marks, hR.hid, hR.glob⟩
  have hR2 := hR1.colds fz
  refine h a.tmps.toList n Hd B _ a w hB hR2 Q ?_
  rintro e s' ι' a' w' ⟨hL', hlit, hK⟩ hR' hE'
  let ι'' : Loc := (List.range ι'.length).map fun b => if fz.elem b && decide (b < L) then ι.getD b none else ι'.getD b none
  have hll : ι''.length = ι'.length := by simp [ι'']
  have hlen' : ι'.length = s'.mem.length := hR'.len
  have hg : ∀ b, b < ι'.length → ι''[b]? = some (if fz.elem b && decide (b < L) then ι.getD b none else ι'.getD b none) := fun b hb => by
    show ((List.range ι'.length).map _)[b]? = _
    rw [List.getElem?_map, List.getElem?_range hb]; rfl
  have hout : ∀ b, ¬ (fz.elem b && decide (b < L)) = true → ι''[b]? = ι'[b]? := fun b hb => by
    by_cases c : b < ι'.length
    · rw [hg b c, if_neg hb, List.getD_eq_getElem?_getD, List.getElem?_eq_getElem c]; rfl
    · rw [List.getElem?_eq_none (by omega), List.getElem?_eq_none (by omega)]
  have hin : ∀ b, (fz.elem b && decide (b < L)) = true → ι''[b]? = ι[b]? := fun b hb => by
    have h1 : b ∈ fz ∧ b < L := by simpa using hb
    have hbl : b < ι.length := by rw [hR.len]; exact hfz b h1.1
    rw [hg b (by omega), if_pos hb, List.getD_eq_getElem?_getD, List.getElem?_eq_getElem hbl]; rfl
  have hmem : ∀ r : Nat, some r ∈ ι'' → (some r ∈ ι' ∧ ∃ b, ¬ (fz.elem b && decide (b < L)) = true ∧ ι'[b]? = some (some r)) ∨ ∃ b, b ∈ fz ∧ b < L ∧ ι[b]? = some (some r) := fun r hr => by
    obtain ⟨b, hb⟩ := List.getElem?_of_mem hr
    by_cases c : (fz.elem b && decide (b < L)) = true
    · rw [hin b c] at hb
      have h1 : b ∈ fz ∧ b < L := by simpa using c
      exact .inr ⟨b, h1.1, h1.2, hb⟩
    · rw [hout b c] at hb
      exact .inl ⟨List.mem_of_getElem? hb, b, c, hb⟩
  have hcold : ∀ b r : Nat, b ∈ fz → ι[b]? = some (some r) → some r ∉ coldL ι fz := fun b r hb hr hh => by
    obtain ⟨i, hi⟩ := List.getElem?_of_mem hh
    by_cases c : i ∈ fz
    · exact coldL_in c hi
    · rw [coldL_out c] at hi
      exact c (hR.inj i b r hi hr ▸ hb)
  have hnot : ∀ b r : Nat, b ∈ fz → ι[b]? = some (some r) → some r ∉ ι' := fun b r hb hr => (hE'.imm r (hR.lt r (List.mem_of_getElem? hr)) (hcold b r hb hr)).1
  have hheap : ∀ b r : Nat, b ∈ fz → ι[b]? = some (some r) → w'.heap[r]? = w.heap[r]? := fun b r hb hr => (hE'.imm r (hR.lt r (List.mem_of_getElem? hr)) (hcold b r hb hr)).2
  have E : Ext L ι w ι'' w' := by
    refine ⟨hE'.os, hE'.tape, hE'.output, hE'.size, fun r hr hn => ?_, hE'.shape, fun b o hb ho => ?_⟩
    · obtain ⟨q1, q2⟩ := hE'.imm r hr (fun hh => hn (coldL_mem (ι := ι) hh))
      refine ⟨fun hh => ?_, q2⟩
      rcases hmem r hh with ⟨h1, _⟩ | ⟨b, _, _, h3⟩
      · exact q1 h1
      · exact hn (List.mem_of_getElem? h3)
    · by_cases c : b ∈ fz
      · rw [hin b (by simp [c, hb])]; exact ho
      · rw [hout b (by simp [c])]
        exact hE'.keep b o hb (by rw [coldL_out c]; exact ho)
  have hkf : ∀ b, b ∉ fz → ι''[b]? = ι'[b]? := fun b hb => hout b (by simp [hb])
  have hT : rels Hd ι'' w' (thawT fz lt 0 s.tmps s'.tmps) a'.tmps.toList :=
    thawT_rel E hR.lt hkf 0 _ _ _ _ hR.tmps hR'.tmps fun j hj hj2 => ⟨hlit j (by simpa using hj) hj2, fun x hx => hbk j (by simpa using hj) x hx⟩
  have hImm : ∀ r, w'.heap[r]? = some (.deferred (some [])) → Imm Hd ι' w' r → Imm Hd ι'' w' r := fun r hd hi => by
    refine ⟨hi.1, fun hh => ?_, hi.2.2⟩
    rcases hmem r hh with ⟨h1, _⟩ | ⟨b, h1, h2, h3⟩
    · exact hi.2.1 h1
    · have hbm : b < s.mem.length := hfz b h1
      have hf := hok b h1 h2 _ (List.getElem?_eq_getElem hbm)
      have hm := hR.mem b _ (List.getElem?_eq_getElem hbm)
      have hh2 := hheap b r h1 h3
      rw [hd] at hh2
      generalize s.mem[b] = blk at hf hm
      cases blk with
      | box cs =>
        obtain ⟨r', t, vs, k1, k2, k3⟩ := hm
        rw [h3] at k1; cases k1
        rw [← hh2] at k2; cases k2
      | row t sz xs =>
        rcases hm.2 with ⟨r', cells, vs, k1, k2, k3, k4⟩ | ⟨k1, k2⟩
        · rw [h3] at k1; cases k1
          rw [← hh2] at k2; cases k2
        · rw [h3] at k1; cases k1
      | rowc _ _ _ _ => cases hf
      | gone => cases hf
      | tr _ _ => cases hf
  refine hq e _ ι'' a' w' hK ⟨?_, ?_, ?_, hT, ?_, ?_, hR.hidExt E, hR.glob.ext E⟩ E
  · show ι''.length = (thawM fz L 0 s.mem s'.mem).length
    rw [thawM_len, hll, hlen']
  · intro r hr
    rcases hmem r hr with ⟨h1, _⟩ | ⟨b, _, _, h3⟩
    · exact hR'.lt r h1
    · exact Nat.lt_of_lt_of_le (hR.lt r (List.mem_of_getElem? h3)) hE'.size
  · intro i j r hi hj
    have key : ∀ k : Nat, ι''[k]? = some (some r) → ((fz.elem k && decide (k < L)) = true ∧ ι[k]? = some (some r)) ∨ (¬ (fz.elem k && decide (k < L)) = true ∧ ι'[k]? = some (some r)) := fun k hk => by
      by_cases c : (fz.elem k && decide (k < L)) = true
      · rw [hin k c] at hk; exact .inl ⟨c, hk⟩
      · rw [hout k c] at hk; exact .inr ⟨c, hk⟩
    rcases key i hi with ⟨a1, a2⟩ | ⟨a1, a2⟩ <;> rcases key j hj with ⟨b1, b2⟩ | ⟨b1, b2⟩
    · exact hR.inj i j r a2 b2
    · have h1 : i ∈ fz ∧ i < L := by simpa using a1
      exact absurd (List.mem_of_getElem? b2) (hnot i r h1.1 a2)
    · have h1 : j ∈ fz ∧ j < L := by simpa using b1
      exact absurd (List.mem_of_getElem? a2) (hnot j r h1.1 b2)
    · exact hR'.inj i j r a2 b2
  · intro i blk hi
    have hi : (thawM fz L 0 s.mem s'.mem)[i]? = some blk := hi
    rcases thawM_get hi with ⟨h1, h2⟩ | ⟨h1, h2, h3⟩ | rfl
    · rw [Nat.zero_add] at h1
      have hb : i ∈ fz ∧ i < L := by simpa using h1
      have hf := hok i hb.1 hb.2 _ h2
      have hm := hR.mem i _ h2
      have hii := hin i h1
      cases blk with
      | box cs =>
        obtain ⟨r, t, vs, k1, k2, k3⟩ := hm
        exact ⟨r, t, vs, hii.trans k1, (hheap i r hb.1 k1).trans k2, q0l E hR.lt _ _ (fun b hb2 o ho => E.keep b o (by simpa using List.all_eq_true.1 hf b (q49 _ _ k3 b hb2)) ho) k3⟩
      | row t sz xs =>
        obtain ⟨hp, hm⟩ := hm
        refine ⟨hp, ?_⟩
        rcases hm with ⟨r, cells, vs, k1, k2, k3, k4⟩ | ⟨k1, k2⟩
        · exact .inl ⟨r, cells, vs, hii.trans k1, (hheap i r hb.1 k1).trans k2, q0l E hR.lt _ _ (fun b hb2 => by rw [hp] at hb2; cases hb2) k3, k4.1, fun j hj => (q11 (hheap i r hb.1 k1) _).trans (k4.2.1 j hj), k4.2.2⟩
        · exact .inr ⟨hii.trans k1, k2⟩
      | rowc _ _ _ _ => cases hf
      | gone => cases hf
      | tr _ _ => cases hf
    · rw [Nat.zero_add] at h1
      have hm := hR'.mem i _ h2
      have hii := hout i h1
      cases blk with
      | box cs =>
        obtain ⟨r, t, vs, k1, k2, k3⟩ := hm
        exact ⟨r, t, vs, hii.trans k1, k2, bares_rel hkf _ _ h3 k3⟩
      | row t sz xs =>
        obtain ⟨hp, hm⟩ := hm
        refine ⟨hp, ?_⟩
        rcases hm with ⟨r, cells, vs, k1, k2, k3, k4⟩ | ⟨k1, k2⟩
        · exact .inl ⟨r, cells, vs, hii.trans k1, k2, bares_rel hkf _ _ h3 k3, k4⟩
        · exact .inr ⟨hii.trans k1, k2⟩
      | rowc _ _ _ _ => cases h3
      | gone => exact True.intro
      | tr _ _ => cases h3
    · exact True.intro
  · obtain ⟨rs, k1, k2, k3⟩ := hR'.marks
    exact ⟨rs, k1, k2, fun r hr => ⟨(k3 r hr).1, hImm r (k3 r hr).2.2 (k3 r hr).2.1, (k3 r hr).2.2⟩⟩
theorem ASemY.of0 {Γ : Type} {al : Γ → List AV → Prop} {an : Γ → List AV → Bool → Γ} {y : Value} {c : Code} {s : St} {g : Γ} {K : AExit → St → Γ → Prop} (h : ASem0 P L c s (fun e s' => K e s' g)) : ASemY P L al an y c s g K :=
  fun Y n Hd B ι a w hB hR hJ Q hq => h n Hd B ι a w hB hR Q fun e s' ι' a' w' k1 k2 k3 => hq e s' g Hd ι' a' w' k1 k3.size k2 (Y.ext hJ k3 k2.lt)
theorem ASem0.mono {c : Code} {s : St} {K K' : AExit → St → Prop} (h : ASem0 P L c s K) (hk : ∀ e s, K e s → K' e s) : ASem0 P L c s K' :=
  fun n Hd B ι a w hB hR Q hq => h n Hd B ι a w hB hR Q fun e s' ι' a' w' k1 k2 k3 => hq e s' ι' a' w' (hk _ _ k1) k2 k3
theorem restY_thaw {T : TypeId → Option TI} {Γ : Type} {al : Γ → List AV → Prop} {an : Γ → List AV → Bool → Γ} {y : Value} {yl : Bool} {c : Code} {k : List Fr} {s : St} {g : Γ} {K : AExit → St → Γ → Prop} (lt fz : List Nat) (hfz : ∀ b ∈ fz, b < s.mem.length)
    (hok : ∀ b ∈ fz, b < L → ∀ blk, s.mem[b]? = some blk → blk.fzOk L = true) (hbk : ∀ i ∈ lt, ∀ x, s.tmps[i]? = some x → (bks x).all (fun b => decide (b < L)) = true)
    (h : ∀ vs : List Value, restY P T L noAl noAn noY false c [] ((⟨litT vs lt s.tmps, s.mem⟩ : St).colds fz) () (fun e s' _ => L ≤ s'.mem.length ∧ (∀ i ∈ lt, i < s'.tmps.length → s'.tmps[i]? = some (.v (vs.getD i undef))) ∧
      goYE P T L al an y yl k e ⟨thawT fz lt 0 s.tmps s'.tmps, thawM fz L 0 s.mem s'.mem⟩ g K)) : restY P T L al an y yl c k s g K :=
  ASemY.of0 (asem0_thaw lt fz hfz hok hbk fun vs => q5h (ASemY.mono (h vs) fun e s g hk => hk))
theorem goYE_normal {T : TypeId → Option TI} {Γ : Type} {al : Γ → List AV → Prop} {an : Γ → List AV → Bool → Γ} {y : Value} {yl : Bool} {k : List Fr} {s : St} {g : Γ} {K : AExit → St → Γ → Prop} : goYE P T L al an y yl k .normal s g K = goY P T L al an y yl k s g K := _root_.id rfl
theorem ACall.readopt {g : FuncId} {m : List AB} {args : List AV} {K K' : AV → List AB → Prop} (h : ACall P g m args K) (b c d : Nat) (e : TypeId) (sz : Nat)
    (hk : ∀ x m', K x m' → ∃ cs, ((m'.map (AB.kill d)).set d (.row e sz []))[b]? = some (.box cs) ∧ cs[c]? = some (.v (.slice none 0 0)) ∧ d < m'.length ∧
      K' (killV d x) (((m'.map (AB.kill d)).set d (.row e sz [])).set b (.box (cs.set c (.own d sz 0 0))))) : q0j P (fun i => i != d) g m args K' := by
  refine ⟨h.1, fun Hd ι w vs hR => (h.2 Hd ι w vs hR).mono ?_⟩
  rintro e1 w' ⟨y, x, ι', m', rfl, h1, h2, h3⟩
  obtain ⟨cs, k1, k2, k3, k4⟩ := hk x m' h3
  have E := ext_set_none (L := 0) ι' w' d (Nat.zero_le _)
  have hlen : ι'.length = m'.length := h1.len
  have hR1 : Rel Hd 0 (ι'.set d none) ((⟨[x], m'⟩ : St).rehome d (.row e sz [])) ⟨#[y], []⟩ w' := by
    refine h1.rehome E (by simp) (fun b' o hb ho => by rw [List.getElem?_set_ne (Ne.symm hb)]; exact ho) (fun r hr => h1.lt r (q1a hr)) ?_ (fun _ _ _ _ => rfl) ⟨rfl, .inr ⟨List.getElem?_set_self (by omega), rfl⟩⟩
    intro i j r hi hj
    have key : ∀ k : Nat, (ι'.set d none)[k]? = some (some r) → ι'[k]? = some (some r) := by
      intro k hk
      by_cases c : d = k
      · subst c
        rw [List.getElem?_set_self (by omega)] at hk; cases hk
      · rw [List.getElem?_set_ne c] at hk; exact hk
    exact h1.inj i j r (key i hi) (key j hj)
  have hR2 := hR1.inBox (b := b) (c := c) (cs := cs) (x := .own d sz 0 0) k1 k2 (.inr ⟨_, rfl, rfl, rfl, List.getElem?_set_self (by omega)⟩)
  refine ⟨y, killV d x, _, _, rfl, hR2, ((h2 0).trans E), fun b' o hb ho => ?_, k4⟩
  rw [List.getElem?_set_ne (by intro hh; subst hh; simp at hb)]
  exact (h2 (b' + 1)).keep b' o (Nat.lt_succ_self _) ho
end Go.Proofs.YtdkcpcflfnakdaaGreat.Sym
