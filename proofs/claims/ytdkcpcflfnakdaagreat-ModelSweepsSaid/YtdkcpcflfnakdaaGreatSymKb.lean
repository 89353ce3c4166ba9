/- A text of the walk that proves a law of this seat; joined by a program. -/
import Derived.Test.YtdkcpcflfnakdaaGreatSymKa
set_option linter.unusedSimpArgs false
set_option linter.unusedVariables false
namespace Go.Proofs.YtdkcpcflfnakdaaGreat.Sym
open Go Go.RowKit
variable {L : Nat} {Hd Hd' : Nat → Prop} {P : Program} {T : TypeId → Option TI}
mutual
def ren (bs : List Nat) : AV → AV
  | .agg xs => .agg (q0e bs xs)
  | .tup xs => .tup (q0e bs xs)
  | .own b sz off len => .own (bs.getD b 0) sz off len
  | .ptr b c => .ptr (bs.getD b 0) c
  | .ep b sz i c => .ep (bs.getD b 0) sz i c
  | .fn f caps => .fn f (q0e bs caps)
  | x => x
def q0e (bs : List Nat) : List AV → List AV
  | [] => []
  | x :: xs => ren bs x :: q0e bs xs
end
def AB.ren (bs : List Nat) : AB → AB
  | .box cs => .box (q0e bs cs)
  | x => x
def renM (bs : List Nat) : List AB → List AB
  | [] => []
  | b :: m => AB.ren bs b :: renM bs m
def putL {α : Type} (l : List α) : List Nat → List α → List α
  | b :: bs, x :: xs => putL (l.set b x) bs xs
  | _, _ => l
theorem putL_length {α : Type} : ∀ (bs : List Nat) (xs l : List α), (putL l bs xs).length = l.length
  | [], xs, _ => by cases xs <;> rfl
  | _ :: _, [], _ => rfl
  | b :: bs, x :: xs, l => by simp only [putL]; rw [putL_length bs xs]; simp
theorem q3t {α : Type} : ∀ (bs : List Nat) (xs l : List α) (b : Nat), b ∉ bs → (putL l bs xs)[b]? = l[b]?
  | [], xs, _, _, _ => by cases xs <;> rfl
  | _ :: _, [], _, _, _ => rfl
  | c :: bs, x :: xs, l, b, h => by
    simp only [List.mem_cons, not_or] at h
    simp only [putL]
    rw [q3t bs xs _ b h.2, List.getElem?_set_ne (Ne.symm h.1)]
theorem putL_in {α : Type} : ∀ (bs : List Nat) (xs l : List α) (i b : Nat) (x : α), bs.Nodup → bs[i]? = some b → xs[i]? = some x → b < l.length → (putL l bs xs)[b]? = some x
  | [], _, _, _, _, _, _, h, _, _ => by simp at h
  | _ :: _, [], _, _, _, _, _, _, h, _ => by simp at h
  | c :: bs, y :: xs, l, 0, b, x, hn, hb, hx, hl => by
    simp only [List.getElem?_cons_zero, Option.some.injEq] at hb hx
    subst hb; subst hx
    simp only [putL]
    rw [q3t bs xs _ _ (List.nodup_cons.1 hn).1, List.getElem?_set_self hl]
  | c :: bs, y :: xs, l, i + 1, b, x, hn, hb, hx, hl => by
    simp only [List.getElem?_cons_succ] at hb hx
    simp only [putL]
    exact putL_in bs xs _ i b x (List.nodup_cons.1 hn).2 hb hx (by simpa using hl)
theorem q37 {bs : List Nat} {i : Nat} (h : i < bs.length) : bs[i]? = some (bs.getD i 0) := by
  rw [List.getD_eq_getElem?_getD, List.getElem?_eq_getElem h]; rfl
mutual
theorem rel_ren {ι ι0 : Loc} {w : World} {bs : List Nat} (hI : ∀ r, Imm Hd' ι0 w r → Imm Hd ι w r) (hι : ∀ (b : Nat) (o : Option Nat), ι0[b]? = some o → ι[bs.getD b 0]? = some o) : ∀ (x : AV) (y : Value), rel Hd' ι0 w x y → rel Hd ι w (ren bs x) y
  | .v _, _, h => h
  | .agg xs, _, h => by obtain ⟨vs, rfl, h⟩ := h; exact ⟨vs, rfl, rels_ren hI hι xs vs h⟩
  | .tup xs, _, h => by obtain ⟨vs, rfl, h⟩ := h; exact ⟨vs, rfl, rels_ren hI hι xs vs h⟩
  | .sl sz xs, _, h => rel_free hI (.sl sz xs) _ h.1 h
  | .rp cs, _, h => rel_free hI (.rp cs) _ h.1 h
  | .own b sz off len, _, h => by
    rcases h with ⟨r, cap, n, t, rfl, hc, hm, hb, hs, hn⟩ | ⟨a0, rfl, h1, h2, h3⟩
    · exact .inl ⟨r, cap, n, t, rfl, hc, hm, hι _ _ hb, hs, hn⟩
    · exact .inr ⟨a0, rfl, h1, h2, hι _ _ h3⟩
  | .ptr b c, _, h => by obtain ⟨r, rfl, hb⟩ := h; exact ⟨r, rfl, hι _ _ hb⟩
  | .ep b sz i c, _, h => by obtain ⟨r, rfl, hb⟩ := h; exact ⟨r, rfl, hι _ _ hb⟩
  | .fn f caps, _, h => by obtain ⟨vs, rfl, h⟩ := h; exact ⟨vs, rfl, rels_ren hI hι caps vs h⟩
  | .any, _, _ => True.intro
theorem rels_ren {ι ι0 : Loc} {w : World} {bs : List Nat} (hI : ∀ r, Imm Hd' ι0 w r → Imm Hd ι w r) (hι : ∀ (b : Nat) (o : Option Nat), ι0[b]? = some o → ι[bs.getD b 0]? = some o) : ∀ (xs : List AV) (ys : List Value), rels Hd' ι0 w xs ys → rels Hd ι w (q0e bs xs) ys
  | [], _, h => h
  | x :: xs, _, h => by obtain ⟨y, zs, rfl, h1, h2⟩ := h; exact ⟨y, zs, rfl, rel_ren hI hι x y h1, rels_ren hI hι xs zs h2⟩
end
mutual
theorem rel_unren {ι ι0 : Loc} {w : World} {bs : List Nat} (hI : ∀ r, Imm Hd ι w r → Imm Hd' ι0 w r) (hι : ∀ (b : Nat) (o : Option Nat), b < bs.length → ι[bs.getD b 0]? = some o → ι0[b]? = some o) : ∀ (x : AV) (y : Value), (∀ b ∈ bks x, b < bs.length) → rel Hd ι w (ren bs x) y → rel Hd' ι0 w x y
  | .v _, _, _, h => h
  | .agg xs, _, hk, h => by obtain ⟨vs, rfl, h⟩ := h; exact ⟨vs, rfl, q3w hI hι xs vs hk h⟩
  | .tup xs, _, hk, h => by obtain ⟨vs, rfl, h⟩ := h; exact ⟨vs, rfl, q3w hI hι xs vs hk h⟩
  | .sl sz xs, _, _, h => rel_free hI (.sl sz xs) _ h.1 h
  | .rp cs, _, _, h => rel_free hI (.rp cs) _ h.1 h
  | .own b sz off len, _, hk, h => by
    have hb' := hk b (by simp [bks])
    rcases h with ⟨r, cap, n, t, rfl, hc, hm, hb, hs, hn⟩ | ⟨a0, rfl, h1, h2, h3⟩
    · exact .inl ⟨r, cap, n, t, rfl, hc, hm, hι _ _ hb' hb, hs, hn⟩
    · exact .inr ⟨a0, rfl, h1, h2, hι _ _ hb' h3⟩
  | .ptr b c, _, hk, h => by obtain ⟨r, rfl, hb⟩ := h; exact ⟨r, rfl, hι _ _ (hk b (by simp [bks])) hb⟩
  | .ep b sz i c, _, hk, h => by obtain ⟨r, rfl, hb⟩ := h; exact ⟨r, rfl, hι _ _ (hk b (by simp [bks])) hb⟩
  | .fn f caps, _, hk, h => by obtain ⟨vs, rfl, h⟩ := h; exact ⟨vs, rfl, q3w hI hι caps vs hk h⟩
  | .any, _, _, _ => True.intro
theorem q3w {ι ι0 : Loc} {w : World} {bs : List Nat} (hI : ∀ r, Imm Hd ι w r → Imm Hd' ι0 w r) (hι : ∀ (b : Nat) (o : Option Nat), b < bs.length → ι[bs.getD b 0]? = some o → ι0[b]? = some o) : ∀ (xs : List AV) (ys : List Value), (∀ b ∈ q03 xs, b < bs.length) → rels Hd ι w (q0e bs xs) ys → rels Hd' ι0 w xs ys
  | [], _, _, h => h
  | x :: xs, _, hk, h => by
    obtain ⟨y, zs, rfl, h1, h2⟩ := h
    exact ⟨y, zs, rfl, rel_unren hI hι x y (fun b hb => hk b (by simp [q03, hb])) h1, q3w hI hι xs zs (fun b hb => hk b (by simp [q03, hb])) h2⟩
end
theorem q2c (bs : List Nat) : ∀ (m : List AB) (i : Nat), (renM bs m)[i]? = (m[i]?).map (AB.ren bs)
  | [], i => by simp [renM]
  | b :: m, 0 => by simp [renM]
  | b :: m, i + 1 => by simp [renM, q2c bs m i]
theorem q1h (bs : List Nat) : ∀ m : List AB, (renM bs m).length = m.length
  | [] => rfl
  | b :: m => by simp [renM, q1h bs m]
def AB.inR (n : Nat) : AB → Bool
  | .box cs => (q03 cs).all (fun b => decide (b < n))
  | _ => true
def kpOf (kp0 : Nat → Bool) : List Nat → Nat → Nat → Bool
  | [], _, _ => true
  | c :: cs, i, b => if c = b then kp0 i else kpOf kp0 cs (i + 1) b
theorem q3q {kp0 : Nat → Bool} : ∀ {bs : List Nat} {i b : Nat}, b ∉ bs → kpOf kp0 bs i b = true
  | [], _, _, _ => rfl
  | c :: cs, i, b, h => by
    simp only [List.mem_cons, not_or] at h
    rw [kpOf, if_neg (Ne.symm h.1)]
    exact q3q h.2
theorem kpOf_in {kp0 : Nat → Bool} : ∀ {bs : List Nat} {i j b : Nat}, bs.Nodup → bs[j]? = some b → kpOf kp0 bs i b = kp0 (i + j)
  | [], _, _, _, _, h => by simp at h
  | c :: cs, i, 0, b, hn, h => by
    simp only [List.getElem?_cons_zero, Option.some.injEq] at h
    rw [kpOf, if_pos h]; rfl
  | c :: cs, i, j + 1, b, hn, h => by
    simp only [List.getElem?_cons_succ] at h
    have hne : c ≠ b := fun e => (List.nodup_cons.1 hn).1 (by rw [e]; exact List.mem_of_getElem? h)
    rw [kpOf, if_neg hne, kpOf_in (List.nodup_cons.1 hn).2 h]
    congr 1; omega
theorem memRel_ren {ι ι0 : Loc} {w : World} {bs : List Nat} (hI : ∀ r, Imm Hd' ι0 w r → Imm Hd ι w r) (hι : ∀ (b : Nat) (o : Option Nat), ι0[b]? = some o → ι[bs.getD b 0]? = some o) {i : Nat} {blk : AB} (h : q1w Hd' ι0 w i blk) : q1w Hd ι w (bs.getD i 0) (AB.ren bs blk) := by
  cases blk with
  | box cs =>
    obtain ⟨r, t, vs, h1, h2, h3⟩ := h
    exact ⟨r, t, vs, hι _ _ h1, h2, rels_ren hI hι _ _ h3⟩
  | row t sz xs =>
    obtain ⟨hp, h⟩ := h
    refine ⟨hp, ?_⟩
    rcases h with ⟨r, cells, vs, h1, h2, h3, h4⟩ | ⟨h1, h2⟩
    · exact .inl ⟨r, cells, vs, hι _ _ h1, h2, q1o hI _ _ hp h3, h4⟩
    · exact .inr ⟨hι _ _ h1, h2⟩
  | rowc t sz xs N =>
    obtain ⟨⟨hp, h⟩, hcap⟩ := h
    refine ⟨⟨hp, ?_⟩, hcap.move (fun o ho => hι _ _ ho) (fun _ _ => rfl)⟩
    rcases h with ⟨r, cells, vs, h1, h2, h3, h4⟩ | ⟨h1, h2⟩
    · exact .inl ⟨r, cells, vs, hι _ _ h1, h2, q1o hI _ _ hp h3, h4⟩
    · exact .inr ⟨hι _ _ h1, h2⟩
  | gone => exact True.intro
  | tr _ _ => exact True.intro
theorem memRel_unren {ι ι0 : Loc} {w : World} {bs : List Nat} (hI : ∀ r, Imm Hd ι w r → Imm Hd' ι0 w r) (hι : ∀ (b : Nat) (o : Option Nat), b < bs.length → ι[bs.getD b 0]? = some o → ι0[b]? = some o) {i : Nat} (hi : i < bs.length) {blk : AB} (hr : blk.inR bs.length = true)
    (h : q1w Hd ι w (bs.getD i 0) (AB.ren bs blk)) : q1w Hd' ι0 w i blk := by
  cases blk with
  | box cs =>
    obtain ⟨r, t, vs, h1, h2, h3⟩ := h
    exact ⟨r, t, vs, hι _ _ hi h1, h2, q3w hI hι _ _ (fun b hb => by simpa using List.all_eq_true.1 hr b hb) h3⟩
  | row t sz xs =>
    obtain ⟨hp, h⟩ := h
    refine ⟨hp, ?_⟩
    rcases h with ⟨r, cells, vs, h1, h2, h3, h4⟩ | ⟨h1, h2⟩
    · exact .inl ⟨r, cells, vs, hι _ _ hi h1, h2, q1o hI _ _ hp h3, h4⟩
    · exact .inr ⟨hι _ _ hi h1, h2⟩
  | rowc t sz xs N =>
    obtain ⟨⟨hp, h⟩, hcap⟩ := h
    refine ⟨⟨hp, ?_⟩, hcap.move (fun o ho => hι _ _ hi ho) (fun _ _ => rfl)⟩
    rcases h with ⟨r, cells, vs, h1, h2, h3, h4⟩ | ⟨h1, h2⟩
    · exact .inl ⟨r, cells, vs, hι _ _ hi h1, h2, q1o hI _ _ hp h3, h4⟩
    · exact .inr ⟨hι _ _ hi h1, h2⟩
  | gone => exact True.intro
  | tr _ _ => exact True.intro
def outOk (kp : Nat → Bool) (bs : List Nat) : Nat → List AB → Bool
  | _, [] => true
  | b, .box cs :: m => (bs.contains b || (q03 cs).all kp) && outOk kp bs (b + 1) m
  | b, _ :: m => outOk kp bs (b + 1) m
theorem outOk_spec {kp : Nat → Bool} {bs : List Nat} : ∀ {m : List AB} {b0 : Nat}, outOk kp bs b0 m = true → ∀ i cs, m[i]? = some (.box cs) → b0 + i ∉ bs → (q03 cs).all kp = true
  | [], _, _, i, cs, hi, _ => by simp at hi
  | blk :: m, b0, h, 0, cs, hi, hn => by
    simp only [List.getElem?_cons_zero, Option.some.injEq] at hi
    subst hi
    rw [outOk, Bool.and_eq_true, Bool.or_eq_true] at h
    rcases h.1 with h1 | h1
    · exact absurd (by simpa using h1) hn
    · exact h1
  | blk :: m, b0, h, i + 1, cs, hi, hn => by
    simp only [List.getElem?_cons_succ] at hi
    have h2 : outOk kp bs (b0 + 1) m = true := by
      cases blk with
      | box cs' => rw [outOk, Bool.and_eq_true] at h; exact h.2
      | row t sz xs => exact h
      | rowc t sz xs N => exact h
      | gone => exact h
      | tr a b => exact h
    exact outOk_spec h2 i cs hi (by rw [show b0 + 1 + i = b0 + (i + 1) by omega]; exact hn)
theorem q0j.frame {g : FuncId} {m0 m : List AB} {args0 args : List AV} {kp0 : Nat → Bool} {K0 K : AV → List AB → Prop} (h : q0j P kp0 g m0 args0 K0) (bs : List Nat) (hnd : bs.Nodup)
    (hm : bs.map (fun b => m[b]?) = (renM bs m0).map some) (ha : args = q0e bs args0) (hk1 : (q03 args0).all (fun b => decide (b < bs.length)) = true) (hk2 : m0.all (AB.inR bs.length) = true) (hout : outOk (kpOf kp0 bs 0) bs 0 m = true)
    (hK : ∀ x m0', K0 x m0' → m0'.length = m0.length ∧ K (ren bs x) (putL m bs (renM bs m0'))) : q0j P (kpOf kp0 bs 0) g m args K := by
  refine ⟨h.1, fun Hd ι w vs hR => ?_⟩
  subst ha
  have hlen0 : bs.length = m0.length := by have := congrArg List.length hm; simpa [q1h] using this
  have hmi : ∀ i, i < bs.length → m[bs.getD i 0]? = (m0[i]?).map (AB.ren bs) := by
    intro i hi
    have := congrArg (·[i]?) hm
    simp only [List.getElem?_map, q37 hi, Option.map_some, q2c] at this
    cases h0 : m0[i]? with
    | none => rw [List.getElem?_eq_none_iff] at h0; omega
    | some blk => rw [h0] at this; simpa using this
  have hbl : ∀ i, i < bs.length → bs.getD i 0 < ι.length := by
    intro i hi
    have := hmi i hi
    rw [List.getElem?_eq_getElem (by omega : i < m0.length)] at this
    rw [hR.len]
    exact (List.getElem?_eq_some_iff.1 this).1
  let ι0 : Loc := bs.map fun b => ι.getD b none
  have hι0 : ∀ i, i < bs.length → ι0[i]? = ι[bs.getD i 0]? := by
    intro i hi
    show (bs.map fun b => ι.getD b none)[i]? = _
    rw [List.getElem?_map, q37 hi, Option.map_some, List.getD_eq_getElem?_getD, List.getElem?_eq_getElem (hbl i hi)]
    rfl
  have hι0l : ι0.length = bs.length := by simp [ι0]
  have hin0 : ∀ r : Nat, some r ∈ ι0 → ∃ i, i < bs.length ∧ ι[bs.getD i 0]? = some (some r) := by
    intro r hr
    obtain ⟨i, hi⟩ := List.getElem?_of_mem hr
    have hil := (List.getElem?_eq_some_iff.1 hi).1
    rw [hι0l] at hil
    exact ⟨i, hil, by rw [← hι0 i hil]; exact hi⟩
  have hsub : ∀ r : Nat, some r ∈ ι0 → some r ∈ ι := fun r hr => by
    obtain ⟨i, _, hi⟩ := hin0 r hr
    exact List.mem_of_getElem? hi
  have hI1 : ∀ r, Imm Hd ι w r → Imm (fun r => Hd r ∨ (some r ∈ ι ∧ some r ∉ ι0)) ι0 w r := fun r hi => ⟨hi.1, fun hh => hi.2.1 (hsub r hh), fun hh => hh.elim hi.2.2 (fun h2 => hi.2.1 h2.1)⟩
  have hun : ∀ (b : Nat) (o : Option Nat), b < bs.length → ι[bs.getD b 0]? = some o → ι0[b]? = some o := fun b o hb ho => by rw [hι0 b hb]; exact ho
  have hinj : ∀ i j : Nat, i < bs.length → j < bs.length → bs.getD i 0 = bs.getD j 0 → i = j := by
    intro i j hi hj e
    have h1 := q37 hi
    have h2 := q37 hj
    rw [e, ← h2] at h1
    exact (List.getElem?_inj hi hnd).1 h1
  have hR0 : Rel (fun r => Hd r ∨ (some r ∈ ι ∧ some r ∉ ι0)) 0 ι0 ⟨args0, m0⟩ ⟨vs.toArray, []⟩ w := by
    refine ⟨by rw [hι0l, hlen0], fun r hr => hR.lt r (hsub r hr), ?_, ?_, ?_, ⟨[], rfl, List.nodup_nil, fun r hr => by cases hr⟩, ?_, hR.glob.free hI1⟩
    · intro i j r hi hj
      have hil : i < bs.length := by rw [← hι0l]; exact (List.getElem?_eq_some_iff.1 hi).1
      have hjl : j < bs.length := by rw [← hι0l]; exact (List.getElem?_eq_some_iff.1 hj).1
      rw [hι0 i hil] at hi
      rw [hι0 j hjl] at hj
      exact hinj i j hil hjl (hR.inj _ _ r hi hj)
    · have := q3w hI1 hun args0 vs (fun b hb => by simpa using List.all_eq_true.1 hk1 b hb) (by simpa using hR.tmps)
      simpa using this
    · intro i blk hi
      have hil : i < bs.length := by rw [hlen0]; exact (List.getElem?_eq_some_iff.1 hi).1
      have hmr := hR.mem (bs.getD i 0) (AB.ren bs blk) (by show m[bs.getD i 0]? = _; rw [hmi i hil, hi]; rfl)
      exact memRel_unren hI1 hun hil (List.all_eq_true.1 hk2 blk (List.mem_of_getElem? hi)) hmr
    · rintro r (hr | ⟨hr, hn⟩)
      · exact ⟨(hR.hid r hr).1, fun hh => (hR.hid r hr).2 (hsub r hh)⟩
      · exact ⟨hR.lt r hr, hn⟩
  refine (h.2 _ ι0 w vs hR0).mono ?_
  rintro e w' ⟨y, x, ι0', m0', rfl, hR', hE', hkp, hx⟩
  obtain ⟨hml, hKx⟩ := hK x m0' hx
  obtain ⟨y', z', e1, hxy, rfl⟩ := hR'.tmps
  simp only [List.cons.injEq] at e1
  obtain ⟨rfl, _⟩ := e1
  have hl' : ι0'.length = bs.length := by have := hR'.len; simp only at this; omega
  let ι' : Loc := putL ι bs ι0'
  have hin : ∀ i, i < bs.length → ι'[bs.getD i 0]? = ι0'[i]? := by
    intro i hi
    rw [List.getElem?_eq_getElem (by omega : i < ι0'.length)]
    exact putL_in bs ι0' ι i _ _ hnd (q37 hi) (List.getElem?_eq_getElem (by omega)) (hbl i hi)
  have hout' : ∀ b, b ∉ bs → ι'[b]? = ι[b]? := fun b hb => q3t bs ι0' ι b hb
  have hmem' : ∀ r : Nat, some r ∈ ι' → some r ∈ ι0' ∨ (some r ∈ ι ∧ some r ∉ ι0 ∧ ∃ b, b ∉ bs ∧ ι[b]? = some (some r)) := by
    intro r hr
    obtain ⟨b, hb⟩ := List.getElem?_of_mem hr
    by_cases hbb : b ∈ bs
    · obtain ⟨i, hi⟩ := List.getElem?_of_mem hbb
      have hil := (List.getElem?_eq_some_iff.1 hi).1
      have e : bs.getD i 0 = b := by rw [List.getD_eq_getElem?_getD, hi]; rfl
      rw [← e, hin i hil] at hb
      exact .inl (List.mem_of_getElem? hb)
    · rw [hout' b hbb] at hb
      refine .inr ⟨List.mem_of_getElem? hb, fun hh => ?_, b, hbb, hb⟩
      obtain ⟨i, hil, hi⟩ := hin0 r hh
      have := hR.inj _ _ r hb hi
      exact hbb (by rw [this]; exact List.mem_of_getElem? (q37 hil))
  have hI2 : ∀ r, Imm (fun r => Hd r ∨ (some r ∈ ι ∧ some r ∉ ι0)) ι0' w' r → Imm Hd ι' w' r := by
    intro r hi
    refine ⟨hi.1, fun hh => ?_, fun hh => hi.2.2 (.inl hh)⟩
    rcases hmem' r hh with h1 | ⟨h1, h2, _⟩
    · exact hi.2.1 h1
    · exact hi.2.2 (.inr ⟨h1, h2⟩)
  have hre : ∀ (b : Nat) (o : Option Nat), ι0'[b]? = some o → ι'[bs.getD b 0]? = some o := by
    intro b o ho
    have hb : b < bs.length := by rw [← hl']; exact (List.getElem?_eq_some_iff.1 ho).1
    rw [hin b hb]; exact ho
  have hkeep : ∀ (b : Nat) (o : Option Nat), kpOf kp0 bs 0 b = true → ι[b]? = some o → ι'[b]? = some o := by
    intro b o hkb ho
    by_cases hbb : b ∈ bs
    · obtain ⟨i, hi⟩ := List.getElem?_of_mem hbb
      have hil := (List.getElem?_eq_some_iff.1 hi).1
      have e : bs.getD i 0 = b := by rw [List.getD_eq_getElem?_getD, hi]; rfl
      rw [kpOf_in hnd hi, Nat.zero_add] at hkb
      rw [← e, hin i hil]
      exact hkp i o hkb (by rw [hι0 i hil, e]; exact ho)
    · rw [hout' b hbb]; exact ho
  have hEE : Ext 0 ι w ι' w' := by
    refine ⟨hE'.os, hE'.tape, hE'.output, hE'.size, ?_, hE'.shape, fun b o hb => absurd hb (Nat.not_lt_zero b)⟩
    intro r hr hn
    obtain ⟨h1, h2⟩ := hE'.imm r hr (fun hh => hn (hsub r hh))
    refine ⟨fun hh => ?_, h2⟩
    rcases hmem' r hh with h3 | ⟨h3, _⟩
    · exact h1 h3
    · exact hn h3
  refine ⟨y, ren bs x, ι', putL m bs (renM bs m0'), rfl, ⟨?_, ?_, ?_, ⟨y, [], rfl, rel_ren hI2 hre x y hxy, rfl⟩, ?_, ⟨[], rfl, List.nodup_nil, fun r hr => by cases hr⟩, ?_, hR'.glob.free hI2⟩, hEE, hkeep, hKx⟩
  · show (putL ι bs ι0').length = _
    rw [putL_length, putL_length]; exact hR.len
  · intro r hr
    rcases hmem' r hr with h1 | ⟨h1, _⟩
    · exact hR'.lt r h1
    · exact Nat.lt_of_lt_of_le (hR.lt r h1) hE'.size
  · have key : ∀ a r : Nat, ι'[a]? = some (some r) → (∃ i, i < bs.length ∧ bs.getD i 0 = a ∧ ι0'[i]? = some (some r)) ∨ (a ∉ bs ∧ ι[a]? = some (some r) ∧ some r ∉ ι0') := by
      intro a r ha
      by_cases hbb : a ∈ bs
      · obtain ⟨i, hi⟩ := List.getElem?_of_mem hbb
        have hil := (List.getElem?_eq_some_iff.1 hi).1
        have e : bs.getD i 0 = a := by rw [List.getD_eq_getElem?_getD, hi]; rfl
        rw [← e, hin i hil] at ha
        exact .inl ⟨i, hil, e, ha⟩
      · rw [hout' a hbb] at ha
        refine .inr ⟨hbb, ha, fun hh => ?_⟩
        have hn0 : some r ∉ ι0 := fun hh0 => by
          obtain ⟨i, hil, hi⟩ := hin0 r hh0
          have := hR.inj _ _ r ha hi
          exact hbb (by rw [this]; exact List.mem_of_getElem? (q37 hil))
        exact (hR'.hid r (.inr ⟨List.mem_of_getElem? ha, hn0⟩)).2 hh
    intro a b r h1 h2
    rcases key a r h1 with ⟨i, hi, rfl, hi2⟩ | ⟨ha, ha2, ha3⟩ <;> rcases key b r h2 with ⟨j, hj, rfl, hj2⟩ | ⟨hb, hb2, hb3⟩
    · rw [hR'.inj i j r hi2 hj2]
    · exact absurd (List.mem_of_getElem? hi2) hb3
    · exact absurd (List.mem_of_getElem? hj2) ha3
    · exact hR.inj a b r ha2 hb2
  · intro b blk hb
    by_cases hbb : b ∈ bs
    · obtain ⟨i, hi⟩ := List.getElem?_of_mem hbb
      have hil := (List.getElem?_eq_some_iff.1 hi).1
      have e : bs.getD i 0 = b := by rw [List.getD_eq_getElem?_getD, hi]; rfl
      have hil' : i < m0'.length := by omega
      have hb2 : (putL m bs (renM bs m0'))[b]? = some (AB.ren bs m0'[i]) :=
        putL_in bs _ m i b _ hnd hi (by rw [q2c, List.getElem?_eq_getElem hil']; rfl) (by rw [← e]; have := hbl i hil; rw [hR.len] at this; exact this)
      have hb1 : (putL m bs (renM bs m0'))[b]? = some blk := hb
      rw [hb2] at hb1
      cases hb1
      rw [← e]
      exact memRel_ren hI2 hre (hR'.mem i _ (List.getElem?_eq_getElem hil'))
    · have hb1 : (putL m bs (renM bs m0'))[b]? = some blk := hb
      rw [q3t bs _ m b hbb] at hb1
      have h0 := hR.mem b blk hb1
      have hsame : ∀ r : Nat, ι[b]? = some (some r) → w'.heap[r]? = w.heap[r]? := fun r hr => by
        refine (hE'.imm r (hR.lt r (List.mem_of_getElem? hr)) fun hh => ?_).2
        obtain ⟨i, hil, hi⟩ := hin0 r hh
        have := hR.inj _ _ r hr hi
        exact hbb (by rw [this]; exact List.mem_of_getElem? (q37 hil))
      cases blk with
      | box cs =>
        obtain ⟨r, t, vs2, h1, h2, h3⟩ := h0
        refine ⟨r, t, vs2, by rw [hout' b hbb]; exact h1, (hsame r h1).trans h2, q0l hEE hR.lt _ _ (fun b' hb' o ho => hkeep b' o ?_ ho) h3⟩
        exact List.all_eq_true.1 (outOk_spec hout b cs hb1 (by rw [Nat.zero_add]; exact hbb)) b' (q49 _ _ h3 b' hb')
      | row t sz xs =>
        obtain ⟨hp, h0⟩ := h0
        refine ⟨hp, ?_⟩
        rcases h0 with ⟨r, cells, vs2, h1, h2, h3, h4⟩ | ⟨h1, h2⟩
        · exact .inl ⟨r, cells, vs2, by rw [hout' b hbb]; exact h1, (hsame r h1).trans h2, q0l hEE hR.lt _ _ (fun b' hb' => by rw [hp] at hb'; cases hb') h3, h4.1, fun j hj => (q11 (hsame r h1) _).trans (h4.2.1 j hj), h4.2.2⟩
        · exact .inr ⟨by rw [hout' b hbb]; exact h1, h2⟩
      | rowc t sz xs N =>
        obtain ⟨⟨hp, h0⟩, hcap⟩ := h0
        refine ⟨⟨hp, ?_⟩, hcap.move (fun o ho => by rw [hout' b hbb]; exact ho) (fun r hr => shape_of_heap (hsame r hr))⟩
        rcases h0 with ⟨r, cells, vs2, h1, h2, h3, h4⟩ | ⟨h1, h2⟩
        · exact .inl ⟨r, cells, vs2, by rw [hout' b hbb]; exact h1, (hsame r h1).trans h2, q0l hEE hR.lt _ _ (fun b' hb' => by rw [hp] at hb'; cases hb') h3, h4.1, fun j hj => (q11 (hsame r h1) _).trans (h4.2.1 j hj), h4.2.2⟩
        · exact .inr ⟨by rw [hout' b hbb]; exact h1, h2⟩
      | gone => exact True.intro
      | tr _ _ => exact True.intro
  · intro r hr
    refine ⟨Nat.lt_of_lt_of_le (hR.hid r hr).1 hE'.size, fun hh => ?_⟩
    rcases hmem' r hh with h1 | ⟨h1, _⟩
    · exact (hR'.hid r (.inl hr)).2 h1
    · exact (hR.hid r hr).2 h1
theorem kpOf_true : ∀ (bs : List Nat) (i b : Nat), kpOf (fun _ => true) bs i b = true
  | [], _, _ => rfl
  | c :: cs, i, b => by rw [kpOf]; split <;> first | rfl | exact kpOf_true cs (i + 1) b
theorem q4m {kp : Nat → Bool} (hk : ∀ b, kp b = true) (bs : List Nat) : ∀ (m : List AB) (b0 : Nat), outOk kp bs b0 m = true
  | [], _ => rfl
  | .box cs :: m, b0 => by
    rw [outOk, q4m hk bs m (b0 + 1), Bool.and_true, Bool.or_eq_true]
    exact .inr (List.all_eq_true.2 fun b _ => hk b)
  | .row _ _ _ :: m, b0 => q4m hk bs m (b0 + 1)
  | .rowc _ _ _ _ :: m, b0 => q4m hk bs m (b0 + 1)
  | .gone :: m, b0 => q4m hk bs m (b0 + 1)
  | .tr _ _ :: m, b0 => q4m hk bs m (b0 + 1)
theorem ACall.frame {g : FuncId} {m0 m : List AB} {args0 args : List AV} {K0 K : AV → List AB → Prop} (h : ACall P g m0 args0 K0) (bs : List Nat) (hnd : bs.Nodup)
    (hm : bs.map (fun b => m[b]?) = (renM bs m0).map some) (ha : args = q0e bs args0) (hk1 : (q03 args0).all (fun b => decide (b < bs.length)) = true) (hk2 : m0.all (AB.inR bs.length) = true)
    (hK : ∀ x m0', K0 x m0' → m0'.length = m0.length ∧ K (ren bs x) (putL m bs (renM bs m0'))) : ACall P g m args K := by
  have hX : q0j P (fun _ => true) g m0 args0 K0 := ⟨h.1, fun Hd ι w vs hR => (h.2 Hd ι w vs hR).mono fun e w' ⟨y, x, ι', m', h1, h2, h3, h4⟩ =>
    ⟨y, x, ι', m', h1, h2, h3 0, fun b o _ ho => (h3 (b + 1)).keep b o (Nat.lt_succ_self b) ho, h4⟩⟩
  obtain ⟨hE, hF⟩ := hX.frame (K := K) bs hnd hm ha hk1 hk2 (q4m (kpOf_true bs 0) bs m 0) hK
  refine ⟨hE, fun Hd ι w vs hR => (hF Hd ι w vs hR).mono ?_⟩
  rintro e w' ⟨y, x, ι', m', h1, h2, h3, h5, h4⟩
  exact ⟨y, x, ι', m', h1, h2, fun L => ⟨h3.os, h3.tape, h3.output, h3.size, h3.imm, h3.shape, fun b o _ ho => h5 b o (kpOf_true bs 0 b) ho⟩, h4⟩
end Go.Proofs.YtdkcpcflfnakdaaGreat.Sym
