/- A call that is lent rows of ours, and leaves new blocks that name nothing else. -/
import Derived.Test.YtfkpjdcjjfpigaaSymZg
namespace Go.Proofs.Ytfkpjdcjjfpigaa.Sym
open Go Go.RowKit
set_option linter.unusedVariables false
set_option linter.unusedSimpArgs false
variable {L : Nat} {Hd : Nat → Prop} {P : Program}

mutual
/-- It names blocks of our own alone, and no memory that lies elsewhere. -/
def AV.sown : AV → Bool
  | .v _ => true
  | .agg xs => sownAll xs
  | .tup xs => sownAll xs
  | .own _ _ _ _ => true
  | .ptr _ _ => true
  | .ep _ _ _ _ => true
  | .any => true
  | _ => false
def sownAll : List AV → Bool
  | [] => true
  | x :: xs => x.sown && sownAll xs
end
def AB.sown : AB → Bool
  | .box cs => sownAll cs
  | .row _ _ xs => sownAll xs
  | .rowc _ _ xs _ => sownAll xs
  | .gone => true
  | .tr _ _ => true

mutual
theorem rel_sown {Hd Hd' : Nat → Prop} {ι : Loc} {w : World} : ∀ (x : AV) (y : Value), x.sown = true → rel Hd ι w x y → rel Hd' ι w x y
  | .v _, _, _, h => h
  | .agg xs, _, hp, h => by obtain ⟨vs, rfl, h⟩ := h; exact ⟨vs, rfl, rels_sown xs vs hp h⟩
  | .tup xs, _, hp, h => by obtain ⟨vs, rfl, h⟩ := h; exact ⟨vs, rfl, rels_sown xs vs hp h⟩
  | .any, _, _, _ => True.intro
  | .sl _ _, _, hp, _ => by simp [AV.sown] at hp
  | .rp _, _, hp, _ => by simp [AV.sown] at hp
  | .own _ _ _ _, _, _, h => h
  | .ptr _ _, _, _, h => h
  | .ep _ _ _ _, _, _, h => h
  | .fn _ _, _, hp, _ => by simp [AV.sown] at hp
theorem rels_sown {Hd Hd' : Nat → Prop} {ι : Loc} {w : World} : ∀ (xs : List AV) (ys : List Value), sownAll xs = true → rels Hd ι w xs ys → rels Hd' ι w xs ys
  | [], _, _, h => h
  | x :: xs, _, hp, h => by
    obtain ⟨y, zs, rfl, h1, h2⟩ := h
    simp only [sownAll, Bool.and_eq_true] at hp
    exact ⟨y, zs, rfl, rel_sown x y hp.1 h1, rels_sown xs zs hp.2 h2⟩
end
theorem memRel_sown {Hd Hd' : Nat → Prop} {ι : Loc} {w : World} {i : Nat} {blk : AB} (hp : blk.sown = true) (h : memRel Hd ι w i blk) : memRel Hd' ι w i blk := by
  cases blk with
  | box cs =>
    obtain ⟨r, t, vs, h1, h2, h3⟩ := h
    exact ⟨r, t, vs, h1, h2, rels_sown _ _ hp h3⟩
  | row t sz xs =>
    obtain ⟨hq, h⟩ := h
    refine ⟨hq, ?_⟩
    rcases h with ⟨r, cells, vs, h1, h2, h3, h4⟩ | ⟨h1, h2⟩
    · exact .inl ⟨r, cells, vs, h1, h2, rels_sown _ _ hp h3, h4⟩
    · exact .inr ⟨h1, h2⟩
  | rowc t sz xs N =>
    obtain ⟨⟨hq, h⟩, hcap⟩ := h
    refine ⟨⟨hq, ?_⟩, hcap⟩
    rcases h with ⟨r, cells, vs, h1, h2, h3, h4⟩ | ⟨h1, h2⟩
    · exact .inl ⟨r, cells, vs, h1, h2, rels_sown _ _ hp h3, h4⟩
    · exact .inr ⟨h1, h2⟩
  | gone => exact True.intro
  | tr _ _ => exact True.intro

/-- A call on values alone, to which rows of ours are lent; it leaves new blocks. -/
theorem ACall.lends {g : FuncId} {args args0 : List AV} {K0 : AV → List AB → Prop} (h : ACall P g [] args0 K0) {m : List AB} {K : AV → List AB → Prop} (ht : truncVs m 0 args = args0) (hp : ∀ x M, K0 x M → x.sown = true ∧ M.all AB.sown = true)
    (hk : ∀ x M, K0 x M → K (ren (List.range' m.length M.length) x) (m ++ renM (List.range' m.length M.length) M)) : ACall P g m args K := by
  subst ht
  refine ⟨h.1, fun Hd ι w vs hR => ?_⟩
  have hT := (hR.trunc (L := 0) 0 (Nat.le_refl _)).1
  simp only [List.take_zero] at hT
  have hr0 : rels Hd [] w (truncVs m 0 args) vs := by simpa [St.trunc] using hT.tmps
  refine (h.2 Hd [] w vs ⟨rfl, (fun r hh => by cases hh), (fun i j r hi => by simp at hi), by simpa using hr0, (fun i blk hi => by simp at hi), ⟨[], rfl, List.nodup_nil, fun r hr => by cases hr⟩,
    (fun r hh => ⟨(hR.hid r hh).1, by simp⟩), hT.glob⟩).mono ?_
  rintro e w' ⟨y, x, ι', M, rfl, hR', hE', hx⟩
  obtain ⟨y', z', e1, hxy, rfl⟩ := hR'.tmps
  simp only [List.cons.injEq] at e1
  obtain ⟨rfl, _⟩ := e1
  obtain ⟨hsx, hsM⟩ := hp x M hx
  have hE0 := hE' 0
  have hlen : ι'.length = M.length := hR'.len
  have hk' : ∀ (b : Nat) (o : Option Nat), ι[b]? = some o → (ι ++ ι')[b]? = some o := fun b o ho => by
    rw [List.getElem?_append_left (List.getElem?_eq_some_iff.1 ho).1]; exact ho
  have hin : ∀ r : Nat, some r ∈ ι' → ¬ Hd r ∧ some r ∉ ι := fun r hr' =>
    ⟨hR'.nhid r hr', fun hh => (hE0.imm r (hR.lt r hh) (by simp)).1 hr'⟩
  have hEE : ∀ L, Ext L ι w (ι ++ ι') w' := fun L => ⟨hE0.os, hE0.tape, hE0.output, hE0.size, fun r hr hn => by
    obtain ⟨q1, q2⟩ := hE0.imm r hr (by simp)
    refine ⟨?_, q2⟩
    rw [List.mem_append]; exact fun hh => hh.elim hn q1, hE0.shape, fun b o _ ho => hk' b o ho⟩
  have hI : ∀ r, Imm (fun _ => True) ι' w' r → Imm Hd (ι ++ ι') w' r := fun r hi => absurd True.intro hi.2.2
  have hι : ∀ (b : Nat) (o : Option Nat), ι'[b]? = some o → (ι ++ ι')[(List.range' m.length M.length).getD b 0]? = some o := fun b o ho => by
    have hb := (List.getElem?_eq_some_iff.1 ho).1
    have hml : ι.length = m.length := hR.len
    rw [range_getD (by omega), ← hml, List.getElem?_append_right (by omega), show ι.length + b - ι.length = b by omega]; exact ho
  have hmem : ∀ r : Nat, some r ∈ ι → w'.heap[r]? = w.heap[r]? := fun r hr => (hE0.imm r (hR.lt r hr) (by simp)).2
  have hlt : ∀ r : Nat, some r ∈ ι ++ ι' → r < w'.heap.size := fun r hr => by
    rcases List.mem_append.1 hr with hr | hr
    · exact Nat.lt_of_lt_of_le (hR.lt r hr) hE0.size
    · exact hR'.lt r hr
  have hml : ι.length = m.length := hR.len
  refine ⟨y, ren (List.range' m.length M.length) x, ι ++ ι', m ++ renM (List.range' m.length M.length) M, rfl, ⟨by simp [renM_length, hml, hlen], hlt, ?_, ⟨y, [], rfl, rel_ren hI hι x y (rel_sown x y hsx hxy), rfl⟩, ?_, ⟨[], rfl, List.nodup_nil, fun r hr => by cases hr⟩, hR.hidExt (hEE 0), hR.glob.ext (hEE 0)⟩, hEE, hk x M hx⟩
  · intro i j r hi hj
    have key : ∀ k : Nat, (ι ++ ι')[k]? = some (some r) → (k < ι.length ∧ ι[k]? = some (some r)) ∨ (ι.length ≤ k ∧ ι'[k - ι.length]? = some (some r)) := fun k hk0 => by
      by_cases c : k < ι.length
      · rw [List.getElem?_append_left c] at hk0; exact .inl ⟨c, hk0⟩
      · rw [List.getElem?_append_right (by omega)] at hk0; exact .inr ⟨by omega, hk0⟩
    rcases key i hi with ⟨a1, a2⟩ | ⟨a1, a2⟩ <;> rcases key j hj with ⟨b1, b2⟩ | ⟨b1, b2⟩
    · exact hR.inj i j r a2 b2
    · exact absurd (List.mem_of_getElem? a2) (hin r (List.mem_of_getElem? b2)).2
    · exact absurd (List.mem_of_getElem? b2) (hin r (List.mem_of_getElem? a2)).2
    · have := hR'.inj _ _ r a2 b2; omega
  · intro i blk hi
    have hi : (m ++ renM (List.range' m.length M.length) M)[i]? = some blk := hi
    by_cases c : i < m.length
    · rw [List.getElem?_append_left c] at hi
      exact memRel_ext (hEE 0) hR.lt hk' (fun r hr => hmem r (List.mem_of_getElem? hr)) (hR.mem i blk hi)
    · rw [List.getElem?_append_right (by omega), renM_get] at hi
      cases hM : M[i - m.length]? with
      | none => rw [hM] at hi; cases hi
      | some blk0 =>
        rw [hM] at hi
        cases hi
        have hb := (List.getElem?_eq_some_iff.1 hM).1
        have := memRel_ren (bs := List.range' m.length M.length) hI hι (memRel_sown (List.all_eq_true.1 hsM blk0 (List.mem_of_getElem? hM)) (hR'.mem _ _ hM))
        rw [range_getD (by omega), show m.length + (i - m.length) = i by omega] at this
        exact this

theorem ACall.lend1 {g : FuncId} {args args0 : List AV} {x0 : AV} {blk : AB} (h : ACall P g [] args0 (fun x m => x = x0 ∧ m = [blk])) {m : List AB} {K : AV → List AB → Prop} (ht : truncVs m 0 args = args0) (hp : x0.sown = true) (hb : blk.sown = true)
    (hk : K (ren [m.length] x0) (m ++ [AB.ren [m.length] blk])) : ACall P g m args K :=
  h.lends ht (by rintro x M ⟨rfl, rfl⟩; simp [hp, hb]) (by rintro x M ⟨rfl, rfl⟩; exact hk)

theorem ACall.lend2 {g : FuncId} {args args0 : List AV} {x0 : AV} {b1 b2 : AB} (h : ACall P g [] args0 (fun x m => x = x0 ∧ m = [b1, b2])) {m : List AB} {K : AV → List AB → Prop} (ht : truncVs m 0 args = args0) (hp : x0.sown = true) (h1 : b1.sown = true) (h2 : b2.sown = true)
    (hk : K (ren [m.length, m.length + 1] x0) (m ++ [AB.ren [m.length, m.length + 1] b1, AB.ren [m.length, m.length + 1] b2])) : ACall P g m args K :=
  h.lends ht (by rintro x M ⟨rfl, rfl⟩; simp [hp, h1, h2]) (by rintro x M ⟨rfl, rfl⟩; exact hk)
theorem sownAll_append : ∀ (xs ys : List AV), sownAll (xs ++ ys) = (sownAll xs && sownAll ys)
  | [], _ => by simp [sownAll]
  | x :: xs, ys => by simp [sownAll, sownAll_append xs ys, Bool.and_assoc]

theorem RowAt.short {w : World} {r off sz : Nat} {vs : List Value} (h : RowAt w r off sz vs) (n : Nat) : RowAt w r off sz (vs.take n) := by
  have e : flatV vs = flatV (vs.take n) ++ flatV (vs.drop n) := by rw [← flatV_append, List.take_append_drop]
  refine ⟨fun v hv => h.1 v (List.mem_of_mem_take hv), fun i hi => ?_, fun u hu => h.2.2 u (by rw [e]; exact List.mem_append_left _ hu)⟩
  have h0 := h.2.1 i (by rw [e, List.length_append]; omega)
  rw [h0]
  simp only [e, List.getElem_append_left hi]
/-- Of a row the elements behind so many are not told any more. -/
theorem Turns.short {tm : List AV} {m : List AB} {b : Nat} {t : TypeId} {sz : Nat} {xs g : List AV} (hb : m[b]? = some (.row t sz (xs ++ g))) : Turns ⟨tm, m⟩ ⟨tm, m.set b (.row t sz xs)⟩ := by
  intro Hd B ι a w h
  refine ⟨ι, ⟨by simpa using h.len, h.lt, h.inj, h.tmps, ?_, h.marks, h.hid, h.glob⟩, fun L => Ext.refl _ _⟩
  intro i blk hi
  have hi : (m.set b (.row t sz xs))[i]? = some blk := hi
  by_cases c : b = i
  · subst c
    rw [List.getElem?_set_self (List.getElem?_eq_some_iff.1 hb).1] at hi
    cases hi
    obtain ⟨hp, hm⟩ := h.mem b _ hb
    refine ⟨by have := refsAll_take hp xs.length; rwa [List.take_left] at this, ?_⟩
    rcases hm with ⟨r, cells, vs, h1, h2, h3, h4⟩ | ⟨h1, h2⟩
    · have h3' := rels_take xs.length h3
      rw [List.take_left] at h3'
      exact .inl ⟨r, cells, _, h1, h2, h3', h4.short _⟩
    · exact .inr ⟨h1, (List.append_eq_nil_iff.1 h2).1⟩
  · rw [List.getElem?_set_ne c] at hi
    exact h.mem i blk hi
end Go.Proofs.Ytfkpjdcjjfpigaa.Sym
