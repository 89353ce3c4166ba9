/- A text of the walk that proves a law of this seat; joined by a program. -/
import Derived.Test.YtdkcpcflfnakdaaGreatSymZe
set_option linter.unusedSimpArgs false
set_option linter.unusedVariables false
namespace Go.Proofs.YtdkcpcflfnakdaaGreat.Sym
open Go Go.RowKit
variable {L : Nat} {Hd : Nat → Prop} {P : Program}
variable {c : Code} {fz : List Nat} {m : List AB} {s : St} {w : World} {y : Value} {Γ : Type} {ι ι' : Loc} {K : AExit → St → Γ → Prop} {al : Γ → List AV → Prop} {an : Γ → List AV → Bool → Γ} {g : Γ}
mutual
def coldV (m : List AB) (b : Nat) : AV → AV
 | .agg xs => .agg (qaq m b xs)
 | .tup xs => .tup (qaq m b xs)
 | .own b' sz off len => q5u m b (.own b' sz off len)
 | .ptr b' c => if b' = b then (match m[b]? with
  | some (.box cs) => if q18 cs = true then .rp (cs.drop c) else .any
  | _ => .any) else .ptr b' c
 | .ep b' sz i c => if b' = b then .any else .ep b' sz i c
 | .fn f caps => .fn f (qaq m b caps)
 | x => x
def qaq (m : List AB) (b : Nat) : List AV → List AV
 | [] => []
 | x :: xs => coldV m b x :: qaq m b xs
end
def AB.cold (m : List AB) (b : Nat) : AB → AB
 | .box cs => .box (qaq m b cs)
 | x => x
def St.cold (s : St) (b : Nat) : St := ⟨qaq s.mem b s.tmps, (s.mem.map (AB.cold s.mem b)).set b .gone⟩
def St.colds (s : St) : List Nat → St
 | [] => s
 | b :: bs => (s.cold b).colds bs
mutual
theorem qy9 {b : Nat} (hm : ∀ blk, m[b]? = some blk → q2j Hd ι w b blk) (hinj : ∀ i j r : Nat, ι[i]? = some (some r) → ι[j]? = some (some r) → i = j) (hlt : ∀ r : Nat, some r ∈ ι → r < w.heap.size) (hnh : ∀ r : Nat, some r ∈ ι → ¬ Hd r) :
 ∀ (x : AV) (y : Value), rel Hd ι w x y → rel Hd (ι.set b none) w (coldV m b x) y
 | .v _, _, h => h
 | .agg xs, _, h => by obtain ⟨vs, rfl, h⟩ := h; exact ⟨vs, rfl, q77 hm hinj hlt hnh xs vs h⟩
 | .tup xs, _, h => by obtain ⟨vs, rfl, h⟩ := h; exact ⟨vs, rfl, q77 hm hinj hlt hnh xs vs h⟩
 | .sl sz xs, y, h => qb1 hm hinj hlt hnh (.sl sz xs) y h
 | .rp cs, y, h => qb1 hm hinj hlt hnh (.rp cs) y h
 | .own b' sz off len, y, h => qb1 hm hinj hlt hnh (.own b' sz off len) y h
 | .ptr b' c, y, h => by
  simp only [coldV]
  by_cases e : b' = b
  · subst e
    rw [if_pos rfl]
    cases hb : m[b']? with
    | none => exact True.intro
    | some blk =>
     have hmr := hm blk hb
     cases blk with
     | row _ _ _ => exact True.intro
     | gone => exact True.intro
     | rowc _ _ _ _ => exact True.intro
     | tr _ _ => exact True.intro
     | box cs =>
      simp only
      by_cases hc : q18 cs = true
      · rw [if_pos hc]
        obtain ⟨r, rfl, hbr⟩ := h
        obtain ⟨r', t, vs, k1, k2, k3⟩ := hmr
        obtain rfl : r = r' := by rw [hbr] at k1; simpa using k1
        have hp0 : q05 cs = [] := q2o k3 hc
        have hp1 := q25 hp0 c
        refine ⟨hp1, r, c, vs.toList.drop c, rfl, ⟨hlt r (z06 hbr), ?_, hnh r (z06 hbr)⟩, q2s (fun r hh => q1k hh) hlt hp1 (q1u _ k3), ?_⟩
        · intro hh
          obtain ⟨i, hi⟩ := z1m hh
          by_cases c' : b' = i
          · subst c'
            rw [z0m (z08.1 hbr).1] at hi
            cases hi
          · rw [z0e c'] at hi
            exact c' (hinj _ _ _ hbr hi)
        · have := (q1x k2).drop c
          rw [z16] at this
          exact this
      · rw [if_neg hc]; exact True.intro
  · rw [if_neg e]
    obtain ⟨r, rfl, hb⟩ := h
    exact ⟨r, rfl, by rw [z0e (z37 e)]; exact hb⟩
 | .ep b' sz i c, y, h => qb1 hm hinj hlt hnh (.ep b' sz i c) y h
 | .fn f caps, _, h => by obtain ⟨vs, rfl, h⟩ := h; exact ⟨vs, rfl, q77 hm hinj hlt hnh caps vs h⟩
 | .any, _, _ => True.intro
theorem q77 {b : Nat} (hm : ∀ blk, m[b]? = some blk → q2j Hd ι w b blk) (hinj : ∀ i j r : Nat, ι[i]? = some (some r) → ι[j]? = some (some r) → i = j) (hlt : ∀ r : Nat, some r ∈ ι → r < w.heap.size) (hnh : ∀ r : Nat, some r ∈ ι → ¬ Hd r) :
 ∀ (xs : List AV) (ys : List Value), rels Hd ι w xs ys → rels Hd (ι.set b none) w (qaq m b xs) ys
 | [], _, h => h
 | x :: xs, _, h => by
  obtain ⟨y, zs, rfl, h1, h2⟩ := h
  exact ⟨y, zs, rfl, qy9 hm hinj hlt hnh x y h1, q77 hm hinj hlt hnh xs zs h2⟩
end
theorem Rel.cold {B : Nat} {a : Act} (h : Rel Hd B ι s a w) (b : Nat) : Rel Hd B (ι.set b none) (s.cold b) a w := by
 have e := qc9 (L := 0) ι w b (z00 _)
 refine ⟨by simp [St.cold, h.len], fun r hr => h.lt r (q1k hr), ?_, q77 (h.mem b) h.inj h.lt h.nhid _ _ h.tmps, ?_, h.marks.ext e, h.hidExt e, h.glob.ext e⟩
 · intro i j r hi hj
   have key : ∀ k : Nat, (ι.set b none)[k]? = some (some r) → ι[k]? = some (some r) := by
    intro k hk
    by_cases c : b = k
    · subst c
      by_cases hl : b < ι.length
      · rw [z0m hl] at hk; cases hk
      · rw [z0p (by simp; omega)] at hk; cases hk
    · rw [z0e c] at hk; exact hk
   exact h.inj i j r (key i hi) (key j hj)
 · intro i blk hi
   simp only [St.cold] at hi
   by_cases c : b = i
   · subst c
     by_cases hl : b < s.mem.length
     · rw [z0m (by simpa using hl)] at hi
       cases hi; exact True.intro
     · rw [z0p (by simp; omega)] at hi; cases hi
   · rw [z0e c, z11] at hi
     cases hm : s.mem[i]? with
     | none => rw [hm] at hi; cases hi
     | some blk0 =>
      rw [hm] at hi
      cases hi
      have h0 := h.mem i blk0 hm
      cases blk0 with
      | box cs =>
       obtain ⟨r, t, vs, h1, h2, h3⟩ := h0
       exact ⟨r, t, vs, by rw [z0e c]; exact h1, h2, q77 (h.mem b) h.inj h.lt h.nhid _ _ h3⟩
      | row t sz xs =>
       obtain ⟨hp, h0⟩ := h0
       refine ⟨hp, ?_⟩
       rcases h0 with ⟨r, cells, vs, h1, h2, h3, h4⟩ | ⟨h1, h2⟩
       · exact .inl ⟨r, cells, vs, by rw [z0e c]; exact h1, h2, q2s (fun r hh => q1k hh) h.lt hp h3, h4⟩
       · exact .inr ⟨by rw [z0e c]; exact h1, h2⟩
      | rowc t sz xs N =>
       obtain ⟨⟨hp, h0⟩, hcap⟩ := h0
       refine ⟨⟨hp, ?_⟩, hcap.move (fun o ho => by rw [z0e c]; exact ho) (fun _ _ => rfl)⟩
       rcases h0 with ⟨r, cells, vs, h1, h2, h3, h4⟩ | ⟨h1, h2⟩
       · exact .inl ⟨r, cells, vs, by rw [z0e c]; exact h1, h2, q2s (fun r hh => q1k hh) h.lt hp h3, h4⟩
       · exact .inr ⟨by rw [z0e c]; exact h1, h2⟩
      | gone => exact True.intro
      | tr _ _ => exact True.intro
def qez (ι : Loc) : List Nat → Loc
 | [] => ι
 | b :: bs => qez (ι.set b none) bs
theorem qmz {r : Nat} : ∀ {bs : List Nat} {ι : Loc}, some r ∈ qez ι bs → some r ∈ ι
 | [], _, h => h
 | b :: bs, _, h => q1k (qmz (bs := bs) h)
theorem qd1 : ∀ {bs : List Nat} {ι : Loc} {b : Nat}, b ∉ bs → (qez ι bs)[b]? = ι[b]?
 | [], _, _, _ => rfl
 | c :: bs, ι, b, h => by
  have h1 : c ≠ b := fun e => h (by rw [e]; exact z3b)
  exact (qd1 (bs := bs) (ι := ι.set c none) (fun hh => h (z3g _ hh))).trans (z0e h1)
theorem qpf : ∀ {bs : List Nat} {ι : Loc} {b r : Nat}, b ∈ bs → (qez ι bs)[b]? ≠ some (some r)
 | c :: bs, ι, b, r, h => by
  by_cases hb : b ∈ bs
  · exact qpf (bs := bs) hb
  · rcases z26.1 h with rfl | h
    · show (qez (ι.set b none) bs)[b]? ≠ _
      rw [qd1 hb]
      by_cases hl : b < ι.length
      · rw [z0m hl]; intro hh; cases hh
      · rw [z0p (by simp; omega)]; intro hh; cases hh
    · exact absurd h hb
theorem Rel.colds {B : Nat} {a : Act} : ∀ (bs : List Nat) {ι : Loc} {s : St}, Rel Hd B ι s a w → Rel Hd B (qez ι bs) (s.colds bs) a w
 | [], _, _, h => h
 | b :: bs, _, _, h => Rel.colds bs (h.cold b)
def litT (vs : List Value) : List Nat → List AV → List AV
 | [], xs => xs
 | i :: is, xs => litT vs is (xs.set i (.v (vs.getD i undef)))
theorem qpe {vs : List Value} : ∀ (is : List Nat) {xs : List AV}, rels Hd ι w xs vs → rels Hd ι w (litT vs is xs) vs
 | [], _, h => h
 | i :: is, _, h => qpe is (q94 i h fun y hy => by
  show y = vs.getD i undef
  rw [z04, hy]; rfl)
mutual
def AV.bare (fz : List Nat) : AV → Bool
 | .v _ => true
 | .agg xs => q6p fz xs
 | .tup xs => q6p fz xs
 | .sl _ _ => false
 | .rp _ => false
 | .own b _ _ _ => !fz.elem b
 | .ptr b _ => !fz.elem b
 | .ep b _ _ _ => !fz.elem b
 | .fn _ caps => q6p fz caps
 | .any => true
def q6p (fz : List Nat) : List AV → Bool
 | [] => true
 | x :: xs => x.bare fz && q6p fz xs
end
mutual
theorem qoy (hk : ∀ b, b ∉ fz → ι'[b]? = ι[b]?) : ∀ (x : AV) (y : Value), x.bare fz = true → rel Hd ι w x y → rel Hd ι' w x y
 | .v _, _, _, h => h
 | .agg xs, _, hb, h => by obtain ⟨vs, rfl, h⟩ := h; exact ⟨vs, rfl, q8c hk xs vs hb h⟩
 | .tup xs, _, hb, h => by obtain ⟨vs, rfl, h⟩ := h; exact ⟨vs, rfl, q8c hk xs vs hb h⟩
 | .sl _ _, _, hb, _ => by simp [AV.bare] at hb
 | .rp _, _, hb, _ => by simp [AV.bare] at hb
 | .own b sz off len, _, hb, h => by
  have hn : b ∉ fz := by simpa [AV.bare] using hb
  rcases h with ⟨r, cap, n, t, rfl, hc, hm, hb, hs, hn'⟩ | ⟨a0, rfl, h1, h2, h3⟩
  · exact .inl ⟨r, cap, n, t, rfl, hc, hm, (hk b hn).trans hb, hs, hn'⟩
  · exact .inr ⟨a0, rfl, h1, h2, (hk b hn).trans h3⟩
 | .ptr b c, _, hb, h => by
  have hn : b ∉ fz := by simpa [AV.bare] using hb
  obtain ⟨r, rfl, hr⟩ := h; exact ⟨r, rfl, (hk b hn).trans hr⟩
 | .ep b sz i c, _, hb, h => by
  have hn : b ∉ fz := by simpa [AV.bare] using hb
  obtain ⟨r, rfl, hr⟩ := h; exact ⟨r, rfl, (hk b hn).trans hr⟩
 | .fn f caps, _, hb, h => by obtain ⟨vs, rfl, h⟩ := h; exact ⟨vs, rfl, q8c hk caps vs hb h⟩
 | .any, _, _, _ => True.intro
theorem q8c (hk : ∀ b, b ∉ fz → ι'[b]? = ι[b]?) : ∀ (xs : List AV) (ys : List Value), q6p fz xs = true → rels Hd ι w xs ys → rels Hd ι' w xs ys
 | [], _, _, h => h
 | x :: xs, _, hb, h => by
  obtain ⟨y, zs, rfl, h1, h2⟩ := h
  rw [q6p, z0d] at hb
  exact ⟨y, zs, rfl, qoy hk x y hb.1 h1, q8c hk xs zs hb.2 h2⟩
end
def AB.bare (fz : List Nat) : AB → Bool
 | .box cs => q6p fz cs
 | .row _ _ xs => q6p fz xs
 | .rowc _ _ _ _ => false
 | .gone => true
 | .tr _ _ => false
def qhj (fz lt : List Nat) : Nat → List AV → List AV → List AV
 | i, x :: xs, y :: ys => (if lt.elem i then x else if y.bare fz then y else .any) :: qhj fz lt (i + 1) xs ys
 | _, _, ys => List.replicate ys.length .any
def q5q (fz : List Nat) (L : Nat) : Nat → List AB → List AB → List AB
 | i, b :: bs, c :: cs => (if fz.elem i && decide (i < L) then b else if c.bare fz then c else .gone) :: q5q fz L (i + 1) bs cs
 | _, _, cs => List.replicate cs.length .gone
def AB.fzOk (L : Nat) : AB → Bool
 | .box cs => (q03 cs).all fun b => decide (b < L)
 | .row _ _ _ => true
 | _ => false
theorem qjq : ∀ {n : Nat} {ys : List Value}, ys.length = n → rels Hd ι w (List.replicate n .any) ys
 | 0, ys, h => z1a h
 | n + 1, y :: ys, h => ⟨y, ys, rfl, True.intro, qjq (by simpa using h)⟩
theorem qn0 {lt : List Nat} {ι'' : Loc} {w' : World} (E : Ext L ι w ι'' w') (hl : ∀ r : Nat, some r ∈ ι → r < w.heap.size) (hk : ∀ b, b ∉ fz → ι''[b]? = ι'[b]?) :
 ∀ (i : Nat) (xs ys : List AV) (vs us : List Value), rels Hd ι w xs vs → rels Hd ι' w' ys us → (∀ j, i + j ∈ lt → j < ys.length → ys[j]? = some (.v (vs.getD j undef)) ∧ ∀ x, xs[j]? = some x → (bks x).all (fun b => decide (b < L)) = true) →
  rels Hd ι'' w' (qhj fz lt i xs ys) us
 | i, [], ys, vs, us, _, h2, _ => by
  have := q0h h2
  exact qjq this.symm
 | i, x :: xs, [], vs, us, _, h2, _ => by
  have := q0h h2
  exact qjq this.symm
 | i, x :: xs, y :: ys, vs, us, h1, h2, hlt => by
  obtain ⟨v, vs, rfl, a1, a2⟩ := h1
  obtain ⟨u, us, rfl, b1, b2⟩ := h2
  refine ⟨u, us, rfl, ?_, qn0 E hl hk (i + 1) xs ys vs us a2 b2 fun j hj hj2 => ?_⟩
  · by_cases c : lt.elem i = true
    · rw [if_pos c]
      obtain ⟨q1, q2⟩ := hlt 0 (by simpa using c) (by simp)
      have e1 : y = .v v := by simpa using q1
      subst e1
      have e2 : u = v := b1
      subst e2
      have q3 := q2 x rfl
      exact q66 E hl x u (fun b hb o ho => E.keep b o (by simpa using z0l.1 q3 b (qjs x u a1 b hb)) ho) a1
    · rw [if_neg c]
      by_cases d : y.bare fz = true
      · rw [if_pos d]; exact qoy hk y u d b1
      · rw [if_neg d]; exact True.intro
  · have := hlt (j + 1) (by rw [show i + (j + 1) = i + 1 + j by omega]; exact hj) (by simpa using hj2)
    simpa using this
theorem qn1 {L : Nat} : ∀ {i : Nat} {bs cs : List AB}, (q5q fz L i bs cs).length = cs.length
 | i, [], cs => by simp [q5q]
 | i, b :: bs, [] => by simp [q5q]
 | i, b :: bs, c :: cs => by simp [q5q, qn1 (i := i + 1) (bs := bs) (cs := cs)]
theorem qn2 {L : Nat} : ∀ {i : Nat} {bs cs : List AB} {j : Nat} {blk : AB}, (q5q fz L i bs cs)[j]? = some blk →
 (((fz.elem (i + j) && decide (i + j < L)) = true ∧ bs[j]? = some blk) ∨ (¬ (fz.elem (i + j) && decide (i + j < L)) = true ∧ cs[j]? = some blk ∧ blk.bare fz = true) ∨ blk = .gone)
 | i, [], cs, j, blk, h => by
  have h : (List.replicate cs.length AB.gone)[j]? = some blk := h
  exact .inr (.inr (z1h (z06 h)))
 | i, b :: bs, [], j, blk, h => by simp [q5q] at h
 | i, b :: bs, c :: cs, 0, blk, h => by
  simp only [q5q, z01, z1d] at h
  by_cases e : (fz.elem i && decide (i < L)) = true
  · rw [if_pos e] at h; exact .inl ⟨e, by rw [← h]; rfl⟩
  · rw [if_neg e] at h
    by_cases d : c.bare fz = true
    · rw [if_pos d] at h; subst h; exact .inr (.inl ⟨e, rfl, d⟩)
    · rw [if_neg d] at h; exact .inr (.inr h.symm)
 | i, b :: bs, c :: cs, j + 1, blk, h => by
  have h : (q5q fz L (i + 1) bs cs)[j]? = some blk := by simpa [q5q] using h
  have := qn2 h
  rw [show i + 1 + j = i + (j + 1) by omega] at this
  simpa using this
theorem qun {K : AExit → St → Prop} (lt fz : List Nat) (hfz : ∀ b ∈ fz, b < s.mem.length) (hok : ∀ b ∈ fz, b < L → ∀ blk, s.mem[b]? = some blk → blk.fzOk L = true) (hbk : ∀ i ∈ lt, ∀ x, s.tmps[i]? = some x → (bks x).all (fun b => decide (b < L)) = true) (h : ∀ vs : List Value, qa7 P L c ((⟨litT vs lt s.tmps, s.mem⟩ : St).colds fz) (fun e s' => L ≤ s'.mem.length ∧ (∀ i ∈ lt, i < s'.tmps.length → s'.tmps[i]? = some (.v (vs.getD i undef))) ∧ K e ⟨qhj fz lt 0 s.tmps s'.tmps, q5q fz L 0 s.mem s'.mem⟩)) : qa7 P L c s K := by
 intro n Hd B ι a w hB hR Q hq
 have hR1 : Rel Hd B ι ⟨litT a.tmps.toList lt s.tmps, s.mem⟩ a w := ⟨hR.len, hR.lt, hR.inj, qpe lt hR.tmps, hR.mem, hR.marks, hR.hid, hR.glob⟩
 have hR2 := hR1.colds fz
 refine h a.tmps.toList n Hd B _ a w hB hR2 Q ?_
 rintro e s' ι' a' w' ⟨hL', hlit, hK⟩ hR' hE'
 let ι'' : Loc := (List.range ι'.length).map fun b => if fz.elem b && decide (b < L) then ι.getD b none else ι'.getD b none
 have hll : ι''.length = ι'.length := by simp [ι'']
 have hlen' : ι'.length = s'.mem.length := hR'.len
 have hg : ∀ b, b < ι'.length → ι''[b]? = some (if fz.elem b && decide (b < L) then ι.getD b none else ι'.getD b none) := fun b hb => by
  show ((List.range ι'.length).map _)[b]? = _
  rw [z11, z5a hb]; rfl
 have hout : ∀ b, ¬ (fz.elem b && decide (b < L)) = true → ι''[b]? = ι'[b]? := fun b hb => by
  by_cases c : b < ι'.length
  · rw [hg b c, if_neg hb, z04, z05 c]; rfl
  · rw [z0p (by omega), z0p (by omega)]
 have hin : ∀ b, (fz.elem b && decide (b < L)) = true → ι''[b]? = ι[b]? := fun b hb => by
  have h1 : b ∈ fz ∧ b < L := by simpa using hb
  have hbl : b < ι.length := by rw [hR.len]; exact hfz b h1.1
  rw [hg b (by omega), if_pos hb, z04, z05 hbl]; rfl
 have hmem : ∀ r : Nat, some r ∈ ι'' → (some r ∈ ι' ∧ ∃ b, ¬ (fz.elem b && decide (b < L)) = true ∧ ι'[b]? = some (some r)) ∨ ∃ b, b ∈ fz ∧ b < L ∧ ι[b]? = some (some r) := fun r hr => by
  obtain ⟨b, hb⟩ := z1m hr
  by_cases c : (fz.elem b && decide (b < L)) = true
  · rw [hin b c] at hb
    have h1 : b ∈ fz ∧ b < L := by simpa using c
    exact .inr ⟨b, h1.1, h1.2, hb⟩
  · rw [hout b c] at hb
    exact .inl ⟨z06 hb, b, c, hb⟩
 have hcold : ∀ b r : Nat, b ∈ fz → ι[b]? = some (some r) → some r ∉ qez ι fz := fun b r hb hr hh => by
  obtain ⟨i, hi⟩ := z1m hh
  by_cases c : i ∈ fz
  · exact qpf c hi
  · rw [qd1 c] at hi
    exact c (hR.inj i b r hi hr ▸ hb)
 have hnot : ∀ b r : Nat, b ∈ fz → ι[b]? = some (some r) → some r ∉ ι' := fun b r hb hr => (hE'.imm r (hR.lt r (z06 hr)) (hcold b r hb hr)).1
 have hheap : ∀ b r : Nat, b ∈ fz → ι[b]? = some (some r) → w'.heap[r]? = w.heap[r]? := fun b r hb hr => (hE'.imm r (hR.lt r (z06 hr)) (hcold b r hb hr)).2
 have E : Ext L ι w ι'' w' := by
  refine ⟨hE'.os, hE'.tape, hE'.output, hE'.size, fun r hr hn => ?_, hE'.shape, fun b o hb ho => ?_⟩
  · obtain ⟨q1, q2⟩ := hE'.imm r hr (fun hh => hn (qmz (ι := ι) hh))
    refine ⟨fun hh => ?_, q2⟩
    rcases hmem r hh with ⟨h1, _⟩ | ⟨b, _, _, h3⟩
    · exact q1 h1
    · exact hn (z06 h3)
  · by_cases c : b ∈ fz
    · rw [hin b (by simp [c, hb])]; exact ho
    · rw [hout b (by simp [c])]
      exact hE'.keep b o hb (by rw [qd1 c]; exact ho)
 have hkf : ∀ b, b ∉ fz → ι''[b]? = ι'[b]? := fun b hb => hout b (by simp [hb])
 have hT : rels Hd ι'' w' (qhj fz lt 0 s.tmps s'.tmps) a'.tmps.toList :=
  qn0 E hR.lt hkf 0 _ _ _ _ hR.tmps hR'.tmps fun j hj hj2 => ⟨hlit j (by simpa using hj) hj2, fun x hx => hbk j (by simpa using hj) x hx⟩
 have hImm : ∀ r, w'.heap[r]? = some (.deferred (some [])) → Imm Hd ι' w' r → Imm Hd ι'' w' r := fun r hd hi => by
  refine ⟨hi.1, fun hh => ?_, hi.2.2⟩
  rcases hmem r hh with ⟨h1, _⟩ | ⟨b, h1, h2, h3⟩
  · exact hi.2.1 h1
  · have hbm : b < s.mem.length := hfz b h1
    have hf := hok b h1 h2 _ (z05 hbm)
    have hm := hR.mem b _ (z05 hbm)
    have hh2 := hheap b r h1 h3
    rw [hd] at hh2
    generalize s.mem[b] = blk at hf hm
    cases blk with
    | box cs =>
     obtain ⟨r', t, vs, k1, k2, k3⟩ := hm
     rw [h3] at k1; cases k1
     rw [← hh2] at k2; cases k2
    | row t sz xs =>
     rcases hm.2 with ⟨r', cells, vs, k1, k2, k3, k4⟩ | ⟨k1, k2⟩
     · rw [h3] at k1; cases k1
       rw [← hh2] at k2; cases k2
     · rw [h3] at k1; cases k1
    | rowc _ _ _ _ => cases hf
    | gone => cases hf
    | tr _ _ => cases hf
 refine hq e _ ι'' a' w' hK ⟨?_, ?_, ?_, hT, ?_, ?_, hR.hidExt E, hR.glob.ext E⟩ E
 · show ι''.length = (q5q fz L 0 s.mem s'.mem).length
   rw [qn1, hll, hlen']
 · intro r hr
   rcases hmem r hr with ⟨h1, _⟩ | ⟨b, _, _, h3⟩
   · exact hR'.lt r h1
   · exact z10 (hR.lt r (z06 h3)) hE'.size
 · intro i j r hi hj
   have key : ∀ k : Nat, ι''[k]? = some (some r) → ((fz.elem k && decide (k < L)) = true ∧ ι[k]? = some (some r)) ∨ (¬ (fz.elem k && decide (k < L)) = true ∧ ι'[k]? = some (some r)) := fun k hk => by
    by_cases c : (fz.elem k && decide (k < L)) = true
    · rw [hin k c] at hk; exact .inl ⟨c, hk⟩
    · rw [hout k c] at hk; exact .inr ⟨c, hk⟩
   rcases key i hi with ⟨a1, a2⟩ | ⟨a1, a2⟩ <;> rcases key j hj with ⟨b1, b2⟩ | ⟨b1, b2⟩
   · exact hR.inj i j r a2 b2
   · have h1 : i ∈ fz ∧ i < L := by simpa using a1
     exact absurd (z06 b2) (hnot i r h1.1 a2)
   · have h1 : j ∈ fz ∧ j < L := by simpa using b1
     exact absurd (z06 a2) (hnot j r h1.1 b2)
   · exact hR'.inj i j r a2 b2
 · intro i blk hi
   have hi : (q5q fz L 0 s.mem s'.mem)[i]? = some blk := hi
   rcases qn2 hi with ⟨h1, h2⟩ | ⟨h1, h2, h3⟩ | rfl
   · rw [z16] at h1
     have hb : i ∈ fz ∧ i < L := by simpa using h1
     have hf := hok i hb.1 hb.2 _ h2
     have hm := hR.mem i _ h2
     have hii := hin i h1
     cases blk with
     | box cs =>
      obtain ⟨r, t, vs, k1, k2, k3⟩ := hm
      exact ⟨r, t, vs, hii.trans k1, (hheap i r hb.1 k1).trans k2, q0l E hR.lt _ _ (fun b hb2 o ho => E.keep b o (by simpa using z0l.1 hf b (q62 _ _ k3 b hb2)) ho) k3⟩
     | row t sz xs =>
      obtain ⟨hp, hm⟩ := hm
      refine ⟨hp, ?_⟩
      rcases hm with ⟨r, cells, vs, k1, k2, k3, k4⟩ | ⟨k1, k2⟩
      · exact .inl ⟨r, cells, vs, hii.trans k1, (hheap i r hb.1 k1).trans k2, q0l E hR.lt _ _ (fun b hb2 => by rw [hp] at hb2; cases hb2) k3, k4.1, fun j hj => (q15 (hheap i r hb.1 k1) _).trans (k4.2.1 j hj), k4.2.2⟩
      · exact .inr ⟨hii.trans k1, k2⟩
     | rowc _ _ _ _ => cases hf
     | gone => cases hf
     | tr _ _ => cases hf
   · rw [z16] at h1
     have hm := hR'.mem i _ h2
     have hii := hout i h1
     cases blk with
     | box cs =>
      obtain ⟨r, t, vs, k1, k2, k3⟩ := hm
      exact ⟨r, t, vs, hii.trans k1, k2, q8c hkf _ _ h3 k3⟩
     | row t sz xs =>
      obtain ⟨hp, hm⟩ := hm
      refine ⟨hp, ?_⟩
      rcases hm with ⟨r, cells, vs, k1, k2, k3, k4⟩ | ⟨k1, k2⟩
      · exact .inl ⟨r, cells, vs, hii.trans k1, k2, q8c hkf _ _ h3 k3, k4⟩
      · exact .inr ⟨hii.trans k1, k2⟩
     | rowc _ _ _ _ => cases h3
     | gone => exact True.intro
     | tr _ _ => cases h3
   · exact True.intro
 · obtain ⟨rs, k1, k2, k3⟩ := hR'.marks
   exact ⟨rs, k1, k2, fun r hr => ⟨(k3 r hr).1, hImm r (k3 r hr).2.2 (k3 r hr).2.1, (k3 r hr).2.2⟩⟩
theorem q4l.of0 (h : qa7 P L c s (fun e s' => K e s' g)) : q4l P L al an y c s g K :=
 fun Y n Hd B ι a w hB hR hJ Q hq => h n Hd B ι a w hB hR Q fun e s' ι' a' w' k1 k2 k3 => hq e s' g Hd ι' a' w' k1 k3.size k2 (Y.ext hJ k3 k2.lt)
theorem qa7.mono {K K' : AExit → St → Prop} (h : qa7 P L c s K) (hk : ∀ e s, K e s → K' e s) : qa7 P L c s K' :=
 fun n Hd B ι a w hB hR Q hq => h n Hd B ι a w hB hR Q fun e s' ι' a' w' k1 k2 k3 => hq e s' ι' a' w' (hk _ _ k1) k2 k3
theorem qut {T : TypeId → Option TI} {yl : Bool} {k : List Fr} (lt fz : List Nat) (hfz : ∀ b ∈ fz, b < s.mem.length) (hok : ∀ b ∈ fz, b < L → ∀ blk, s.mem[b]? = some blk → blk.fzOk L = true) (hbk : ∀ i ∈ lt, ∀ x, s.tmps[i]? = some x → (bks x).all (fun b => decide (b < L)) = true) (h : ∀ vs : List Value, qbl P T L noAl noAn noY false c [] ((⟨litT vs lt s.tmps, s.mem⟩ : St).colds fz) () (fun e s' _ => L ≤ s'.mem.length ∧ (∀ i ∈ lt, i < s'.tmps.length → s'.tmps[i]? = some (.v (vs.getD i undef))) ∧
 goYE P T L al an y yl k e ⟨qhj fz lt 0 s.tmps s'.tmps, q5q fz L 0 s.mem s'.mem⟩ g K)) : qbl P T L al an y yl c k s g K :=
 q4l.of0 (qun lt fz hfz hok hbk fun vs => q9x (q4l.mono (h vs) fun e s g hk => hk))
theorem qsd {T : TypeId → Option TI} {yl : Bool} {k : List Fr} : goYE P T L al an y yl k .normal s g K = goY P T L al an y yl k s g K := _root_.id rfl
theorem ACall.readopt {g : FuncId} {args : List AV} {K K' : AV → List AB → Prop} (h : ACall P g m args K) (b c d : Nat) (e : TypeId) (sz : Nat) (hk : ∀ x m', K x m' → ∃ cs, ((m'.map (AB.kill d)).set d (.row e sz []))[b]? = some (.box cs) ∧ cs[c]? = some (.v (.slice none 0 0)) ∧ d < m'.length ∧
 K' (q0w d x) (((m'.map (AB.kill d)).set d (.row e sz [])).set b (.box (cs.set c (.own d sz 0 0))))) : q0r P (fun i => i != d) g m args K' := by
 refine ⟨h.1, fun Hd ι w vs hR => (h.2 Hd ι w vs hR).mono ?_⟩
 rintro e1 w' ⟨y, x, ι', m', rfl, h1, h2, h3⟩
 obtain ⟨cs, k1, k2, k3, k4⟩ := hk x m' h3
 have E := qc9 (L := 0) ι' w' d (z00 _)
 have hlen : ι'.length = m'.length := h1.len
 have hR1 : Rel Hd 0 (ι'.set d none) ((⟨[x], m'⟩ : St).rehome d (.row e sz [])) ⟨#[y], []⟩ w' := by
  refine h1.rehome E (by simp) (fun b' o hb ho => by rw [z0e (z37 hb)]; exact ho) (fun r hr => h1.lt r (q1k hr)) ?_ (fun _ _ _ _ => rfl) ⟨rfl, .inr ⟨z0m (by omega), rfl⟩⟩
  intro i j r hi hj
  have key : ∀ k : Nat, (ι'.set d none)[k]? = some (some r) → ι'[k]? = some (some r) := by
   intro k hk
   by_cases c : d = k
   · subst c
     rw [z0m (by omega)] at hk; cases hk
   · rw [z0e c] at hk; exact hk
  exact h1.inj i j r (key i hi) (key j hj)
 have hR2 := hR1.inBox (b := b) (c := c) (cs := cs) (x := .own d sz 0 0) k1 k2 (.inr ⟨_, rfl, rfl, rfl, z0m (by omega)⟩)
 refine ⟨y, q0w d x, _, _, rfl, hR2, ((h2 0).trans E), fun b' o hb ho => ?_, k4⟩
 rw [z0e (by intro hh; subst hh; simp at hb)]
 exact (h2 (b' + 1)).keep b' o (z3r _) ho
