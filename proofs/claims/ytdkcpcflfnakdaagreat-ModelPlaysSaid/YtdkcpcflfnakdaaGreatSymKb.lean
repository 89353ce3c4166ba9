/- A text of the walk that proves a law of this seat; joined by a program. -/
import Derived.Test.YtdkcpcflfnakdaaGreatSymKa
set_option linter.unusedSimpArgs false
set_option linter.unusedVariables false
namespace Go.Proofs.YtdkcpcflfnakdaaGreat.Sym
open Go Go.RowKit
variable {L : Nat} {Hd Hd' : Nat → Prop} {P : Program} {T : TypeId → Option TI}
variable {bs : List Nat} {i : Nat} {kp0 : Nat → Bool} {w : World} {α : Type} {ι ι0 : Loc}
mutual
def ren (bs : List Nat) : AV → AV
 | .agg xs => .agg (q0i bs xs)
 | .tup xs => .tup (q0i bs xs)
 | .own b sz off len => .own (bs.getD b 0) sz off len
 | .ptr b c => .ptr (bs.getD b 0) c
 | .ep b sz i c => .ep (bs.getD b 0) sz i c
 | .fn f caps => .fn f (q0i bs caps)
 | x => x
def q0i (bs : List Nat) : List AV → List AV
 | [] => []
 | x :: xs => ren bs x :: q0i bs xs
end
def AB.ren (bs : List Nat) : AB → AB
 | .box cs => .box (q0i bs cs)
 | x => x
def renM (bs : List Nat) : List AB → List AB
 | [] => []
 | b :: m => AB.ren bs b :: renM bs m
def putL {α : Type} (l : List α) : List Nat → List α → List α
 | b :: bs, x :: xs => putL (l.set b x) bs xs
 | _, _ => l
theorem qdh : ∀ (bs : List Nat) (xs l : List α), (putL l bs xs).length = l.length
 | [], xs, _ => by cases xs <;> rfl
 | _ :: _, [], _ => rfl
 | b :: bs, x :: xs, l => by simp only [putL]; rw [qdh bs xs]; simp
theorem q6m : ∀ (bs : List Nat) (xs l : List α) (b : Nat), b ∉ bs → (putL l bs xs)[b]? = l[b]?
 | [], xs, _, _, _ => by cases xs <;> rfl
 | _ :: _, [], _, _, _ => rfl
 | c :: bs, x :: xs, l, b, h => by
  simp only [z26, not_or] at h
  simp only [putL]
  rw [q6m bs xs _ b h.2, z0e (z37 h.1)]
theorem q9m : ∀ (bs : List Nat) (xs l : List α) (i b : Nat) (x : α), bs.Nodup → bs[i]? = some b → xs[i]? = some x → b < l.length → (putL l bs xs)[b]? = some x
 | [], _, _, _, _, _, _, h, _, _ => by simp at h
 | _ :: _, [], _, _, _, _, _, _, h, _ => by simp at h
 | c :: bs, y :: xs, l, 0, b, x, hn, hb, hx, hl => by
  simp only [z01, z1d] at hb hx
  subst hb; subst hx
  simp only [putL]
  rw [q6m bs xs _ _ (z3h.1 hn).1, z0m hl]
 | c :: bs, y :: xs, l, i + 1, b, x, hn, hb, hx, hl => by
  simp only [z03] at hb hx
  simp only [putL]
  exact q9m bs xs _ i b x (z3h.1 hn).2 hb hx (by simpa using hl)
theorem q49 (h : i < bs.length) : bs[i]? = some (bs.getD i 0) := by
 rw [z04, z05 h]; rfl
mutual
theorem qlu (hI : ∀ r, Imm Hd' ι0 w r → Imm Hd ι w r) (hι : ∀ (b : Nat) (o : Option Nat), ι0[b]? = some o → ι[bs.getD b 0]? = some o) : ∀ (x : AV) (y : Value), rel Hd' ι0 w x y → rel Hd ι w (ren bs x) y
 | .v _, _, h => h
 | .agg xs, _, h => by obtain ⟨vs, rfl, h⟩ := h; exact ⟨vs, rfl, qcl hI hι xs vs h⟩
 | .tup xs, _, h => by obtain ⟨vs, rfl, h⟩ := h; exact ⟨vs, rfl, qcl hI hι xs vs h⟩
 | .sl sz xs, _, h => q9u hI (.sl sz xs) _ h.1 h
 | .rp cs, _, h => q9u hI (.rp cs) _ h.1 h
 | .own b sz off len, _, h => by
  rcases h with ⟨r, cap, n, t, rfl, hc, hm, hb, hs, hn⟩ | ⟨a0, rfl, h1, h2, h3⟩
  · exact .inl ⟨r, cap, n, t, rfl, hc, hm, hι _ _ hb, hs, hn⟩
  · exact .inr ⟨a0, rfl, h1, h2, hι _ _ h3⟩
 | .ptr b c, _, h => by obtain ⟨r, rfl, hb⟩ := h; exact ⟨r, rfl, hι _ _ hb⟩
 | .ep b sz i c, _, h => by obtain ⟨r, rfl, hb⟩ := h; exact ⟨r, rfl, hι _ _ hb⟩
 | .fn f caps, _, h => by obtain ⟨vs, rfl, h⟩ := h; exact ⟨vs, rfl, qcl hI hι caps vs h⟩
 | .any, _, _ => True.intro
theorem qcl (hI : ∀ r, Imm Hd' ι0 w r → Imm Hd ι w r) (hι : ∀ (b : Nat) (o : Option Nat), ι0[b]? = some o → ι[bs.getD b 0]? = some o) : ∀ (xs : List AV) (ys : List Value), rels Hd' ι0 w xs ys → rels Hd ι w (q0i bs xs) ys
 | [], _, h => h
 | x :: xs, _, h => by obtain ⟨y, zs, rfl, h1, h2⟩ := h; exact ⟨y, zs, rfl, qlu hI hι x y h1, qcl hI hι xs zs h2⟩
end
mutual
theorem qwv (hI : ∀ r, Imm Hd ι w r → Imm Hd' ι0 w r) (hι : ∀ (b : Nat) (o : Option Nat), b < bs.length → ι[bs.getD b 0]? = some o → ι0[b]? = some o) : ∀ (x : AV) (y : Value), (∀ b ∈ bks x, b < bs.length) → rel Hd ι w (ren bs x) y → rel Hd' ι0 w x y
 | .v _, _, _, h => h
 | .agg xs, _, hk, h => by obtain ⟨vs, rfl, h⟩ := h; exact ⟨vs, rfl, q5h hI hι xs vs hk h⟩
 | .tup xs, _, hk, h => by obtain ⟨vs, rfl, h⟩ := h; exact ⟨vs, rfl, q5h hI hι xs vs hk h⟩
 | .sl sz xs, _, _, h => q9u hI (.sl sz xs) _ h.1 h
 | .rp cs, _, _, h => q9u hI (.rp cs) _ h.1 h
 | .own b sz off len, _, hk, h => by
  have hb' := hk b (by simp [bks])
  rcases h with ⟨r, cap, n, t, rfl, hc, hm, hb, hs, hn⟩ | ⟨a0, rfl, h1, h2, h3⟩
  · exact .inl ⟨r, cap, n, t, rfl, hc, hm, hι _ _ hb' hb, hs, hn⟩
  · exact .inr ⟨a0, rfl, h1, h2, hι _ _ hb' h3⟩
 | .ptr b c, _, hk, h => by obtain ⟨r, rfl, hb⟩ := h; exact ⟨r, rfl, hι _ _ (hk b (by simp [bks])) hb⟩
 | .ep b sz i c, _, hk, h => by obtain ⟨r, rfl, hb⟩ := h; exact ⟨r, rfl, hι _ _ (hk b (by simp [bks])) hb⟩
 | .fn f caps, _, hk, h => by obtain ⟨vs, rfl, h⟩ := h; exact ⟨vs, rfl, q5h hI hι caps vs hk h⟩
 | .any, _, _, _ => True.intro
theorem q5h (hI : ∀ r, Imm Hd ι w r → Imm Hd' ι0 w r) (hι : ∀ (b : Nat) (o : Option Nat), b < bs.length → ι[bs.getD b 0]? = some o → ι0[b]? = some o) : ∀ (xs : List AV) (ys : List Value), (∀ b ∈ q03 xs, b < bs.length) → rels Hd ι w (q0i bs xs) ys → rels Hd' ι0 w xs ys
 | [], _, _, h => h
 | x :: xs, _, hk, h => by
  obtain ⟨y, zs, rfl, h1, h2⟩ := h
  exact ⟨y, zs, rfl, qwv hI hι x y (fun b hb => hk b (by simp [q03, hb])) h1, q5h hI hι xs zs (fun b hb => hk b (by simp [q03, hb])) h2⟩
end
theorem q23 (bs : List Nat) : ∀ (m : List AB) (i : Nat), (renM bs m)[i]? = (m[i]?).map (AB.ren bs)
 | [], i => by simp [renM]
 | b :: m, 0 => by simp [renM]
 | b :: m, i + 1 => by simp [renM, q23 bs m i]
theorem q1y (bs : List Nat) : ∀ m : List AB, (renM bs m).length = m.length
 | [] => rfl
 | b :: m => by simp [renM, q1y bs m]
def AB.inR (n : Nat) : AB → Bool
 | .box cs => (q03 cs).all (fun b => decide (b < n))
 | _ => true
def kpOf (kp0 : Nat → Bool) : List Nat → Nat → Nat → Bool
 | [], _, _ => true
 | c :: cs, i, b => if c = b then kp0 i else kpOf kp0 cs (i + 1) b
theorem q9q : ∀ {bs : List Nat} {i b : Nat}, b ∉ bs → kpOf kp0 bs i b = true
 | [], _, _, _ => rfl
 | c :: cs, i, b, h => by
  simp only [z26, not_or] at h
  rw [kpOf, if_neg (z37 h.1)]
  exact q9q h.2
theorem qh9 : ∀ {bs : List Nat} {i j b : Nat}, bs.Nodup → bs[j]? = some b → kpOf kp0 bs i b = kp0 (i + j)
 | [], _, _, _, _, h => by simp at h
 | c :: cs, i, 0, b, hn, h => by
  simp only [z01, z1d] at h
  rw [kpOf, if_pos h]; rfl
 | c :: cs, i, j + 1, b, hn, h => by
  simp only [z03] at h
  have hne : c ≠ b := fun e => (z3h.1 hn).1 (by rw [e]; exact z06 h)
  rw [kpOf, if_neg hne, qh9 (z3h.1 hn).2 h]
  congr 1; omega
theorem qk1 (hI : ∀ r, Imm Hd' ι0 w r → Imm Hd ι w r) (hι : ∀ (b : Nat) (o : Option Nat), ι0[b]? = some o → ι[bs.getD b 0]? = some o) {blk : AB} (h : q2j Hd' ι0 w i blk) : q2j Hd ι w (bs.getD i 0) (AB.ren bs blk) := by
 cases blk with
 | box cs =>
  obtain ⟨r, t, vs, h1, h2, h3⟩ := h
  exact ⟨r, t, vs, hι _ _ h1, h2, qcl hI hι _ _ h3⟩
 | row t sz xs =>
  obtain ⟨hp, h⟩ := h
  refine ⟨hp, ?_⟩
  rcases h with ⟨r, cells, vs, h1, h2, h3, h4⟩ | ⟨h1, h2⟩
  · exact .inl ⟨r, cells, vs, hι _ _ h1, h2, q28 hI _ _ hp h3, h4⟩
  · exact .inr ⟨hι _ _ h1, h2⟩
 | rowc t sz xs N =>
  obtain ⟨⟨hp, h⟩, hcap⟩ := h
  refine ⟨⟨hp, ?_⟩, hcap.move (fun o ho => hι _ _ ho) (fun _ _ => rfl)⟩
  rcases h with ⟨r, cells, vs, h1, h2, h3, h4⟩ | ⟨h1, h2⟩
  · exact .inl ⟨r, cells, vs, hι _ _ h1, h2, q28 hI _ _ hp h3, h4⟩
  · exact .inr ⟨hι _ _ h1, h2⟩
 | gone => exact True.intro
 | tr _ _ => exact True.intro
theorem qfu (hI : ∀ r, Imm Hd ι w r → Imm Hd' ι0 w r) (hι : ∀ (b : Nat) (o : Option Nat), b < bs.length → ι[bs.getD b 0]? = some o → ι0[b]? = some o) (hi : i < bs.length) {blk : AB} (hr : blk.inR bs.length = true) (h : q2j Hd ι w (bs.getD i 0) (AB.ren bs blk)) : q2j Hd' ι0 w i blk := by
 cases blk with
 | box cs =>
  obtain ⟨r, t, vs, h1, h2, h3⟩ := h
  exact ⟨r, t, vs, hι _ _ hi h1, h2, q5h hI hι _ _ (fun b hb => by simpa using z0l.1 hr b hb) h3⟩
 | row t sz xs =>
  obtain ⟨hp, h⟩ := h
  refine ⟨hp, ?_⟩
  rcases h with ⟨r, cells, vs, h1, h2, h3, h4⟩ | ⟨h1, h2⟩
  · exact .inl ⟨r, cells, vs, hι _ _ hi h1, h2, q28 hI _ _ hp h3, h4⟩
  · exact .inr ⟨hι _ _ hi h1, h2⟩
 | rowc t sz xs N =>
  obtain ⟨⟨hp, h⟩, hcap⟩ := h
  refine ⟨⟨hp, ?_⟩, hcap.move (fun o ho => hι _ _ hi ho) (fun _ _ => rfl)⟩
  rcases h with ⟨r, cells, vs, h1, h2, h3, h4⟩ | ⟨h1, h2⟩
  · exact .inl ⟨r, cells, vs, hι _ _ hi h1, h2, q28 hI _ _ hp h3, h4⟩
  · exact .inr ⟨hι _ _ hi h1, h2⟩
 | gone => exact True.intro
 | tr _ _ => exact True.intro
def q5g (kp : Nat → Bool) (bs : List Nat) : Nat → List AB → Bool
 | _, [] => true
 | b, .box cs :: m => (bs.contains b || (q03 cs).all kp) && q5g kp bs (b + 1) m
 | b, _ :: m => q5g kp bs (b + 1) m
theorem qk2 {kp : Nat → Bool} : ∀ {m : List AB} {b0 : Nat}, q5g kp bs b0 m = true → ∀ i cs, m[i]? = some (.box cs) → b0 + i ∉ bs → (q03 cs).all kp = true
 | [], _, _, i, cs, hi, _ => by simp at hi
 | blk :: m, b0, h, 0, cs, hi, hn => by
  simp only [z01, z1d] at hi
  subst hi
  rw [q5g, z0d, z1q] at h
  rcases h.1 with h1 | h1
  · exact absurd (by simpa using h1) hn
  · exact h1
 | blk :: m, b0, h, i + 1, cs, hi, hn => by
  simp only [z03] at hi
  have h2 : q5g kp bs (b0 + 1) m = true := by
   cases blk with
   | box cs' => rw [q5g, z0d] at h; exact h.2
   | row t sz xs => exact h
   | rowc t sz xs N => exact h
   | gone => exact h
   | tr a b => exact h
  exact qk2 h2 i cs hi (by rw [show b0 + 1 + i = b0 + (i + 1) by omega]; exact hn)
theorem q0r.frame {g : FuncId} {m0 m : List AB} {args0 args : List AV} {K0 K : AV → List AB → Prop} (h : q0r P kp0 g m0 args0 K0) (bs : List Nat) (hnd : bs.Nodup) (hm : bs.map (fun b => m[b]?) = (renM bs m0).map some) (ha : args = q0i bs args0) (hk1 : (q03 args0).all (fun b => decide (b < bs.length)) = true) (hk2 : m0.all (AB.inR bs.length) = true) (hout : q5g (kpOf kp0 bs 0) bs 0 m = true) (hK : ∀ x m0', K0 x m0' → m0'.length = m0.length ∧ K (ren bs x) (putL m bs (renM bs m0'))) : q0r P (kpOf kp0 bs 0) g m args K := by
 refine ⟨h.1, fun Hd ι w vs hR => ?_⟩
 subst ha
 have hlen0 : bs.length = m0.length := by have := congrArg List.length hm; simpa [q1y] using this
 have hmi : ∀ i, i < bs.length → m[bs.getD i 0]? = (m0[i]?).map (AB.ren bs) := by
  intro i hi
  have := congrArg (·[i]?) hm
  simp only [z11, q49 hi, z19, q23] at this
  cases h0 : m0[i]? with
  | none => rw [z5n] at h0; omega
  | some blk => rw [h0] at this; simpa using this
 have hbl : ∀ i, i < bs.length → bs.getD i 0 < ι.length := by
  intro i hi
  have := hmi i hi
  rw [z05 (by omega : i < m0.length)] at this
  rw [hR.len]
  exact (z08.1 this).1
 let ι0 : Loc := bs.map fun b => ι.getD b none
 have hι0 : ∀ i, i < bs.length → ι0[i]? = ι[bs.getD i 0]? := by
  intro i hi
  show (bs.map fun b => ι.getD b none)[i]? = _
  rw [z11, q49 hi, z19, z04, z05 (hbl i hi)]
  rfl
 have hι0l : ι0.length = bs.length := by simp [ι0]
 have hin0 : ∀ r : Nat, some r ∈ ι0 → ∃ i, i < bs.length ∧ ι[bs.getD i 0]? = some (some r) := by
  intro r hr
  obtain ⟨i, hi⟩ := z1m hr
  have hil := (z08.1 hi).1
  rw [hι0l] at hil
  exact ⟨i, hil, by rw [← hι0 i hil]; exact hi⟩
 have hsub : ∀ r : Nat, some r ∈ ι0 → some r ∈ ι := fun r hr => by
  obtain ⟨i, _, hi⟩ := hin0 r hr
  exact z06 hi
 have hI1 : ∀ r, Imm Hd ι w r → Imm (fun r => Hd r ∨ (some r ∈ ι ∧ some r ∉ ι0)) ι0 w r := fun r hi => ⟨hi.1, fun hh => hi.2.1 (hsub r hh), fun hh => hh.elim hi.2.2 (fun h2 => hi.2.1 h2.1)⟩
 have hun : ∀ (b : Nat) (o : Option Nat), b < bs.length → ι[bs.getD b 0]? = some o → ι0[b]? = some o := fun b o hb ho => by rw [hι0 b hb]; exact ho
 have hinj : ∀ i j : Nat, i < bs.length → j < bs.length → bs.getD i 0 = bs.getD j 0 → i = j := by
  intro i j hi hj e
  have h1 := q49 hi
  have h2 := q49 hj
  rw [e, ← h2] at h1
  exact (List.getElem?_inj hi hnd).1 h1
 have hR0 : Rel (fun r => Hd r ∨ (some r ∈ ι ∧ some r ∉ ι0)) 0 ι0 ⟨args0, m0⟩ ⟨vs.toArray, []⟩ w := by
  refine ⟨by rw [hι0l, hlen0], fun r hr => hR.lt r (hsub r hr), ?_, ?_, ?_, ⟨[], rfl, z24, fun r hr => by cases hr⟩, ?_, hR.glob.free hI1⟩
  · intro i j r hi hj
    have hil : i < bs.length := by rw [← hι0l]; exact (z08.1 hi).1
    have hjl : j < bs.length := by rw [← hι0l]; exact (z08.1 hj).1
    rw [hι0 i hil] at hi
    rw [hι0 j hjl] at hj
    exact hinj i j hil hjl (hR.inj _ _ r hi hj)
  · have := q5h hI1 hun args0 vs (fun b hb => by simpa using z0l.1 hk1 b hb) (by simpa using hR.tmps)
    simpa using this
  · intro i blk hi
    have hil : i < bs.length := by rw [hlen0]; exact (z08.1 hi).1
    have hmr := hR.mem (bs.getD i 0) (AB.ren bs blk) (by show m[bs.getD i 0]? = _; rw [hmi i hil, hi]; rfl)
    exact qfu hI1 hun hil (z0l.1 hk2 blk (z06 hi)) hmr
  · rintro r (hr | ⟨hr, hn⟩)
    · exact ⟨(hR.hid r hr).1, fun hh => (hR.hid r hr).2 (hsub r hh)⟩
    · exact ⟨hR.lt r hr, hn⟩
 refine (h.2 _ ι0 w vs hR0).mono ?_
 rintro e w' ⟨y, x, ι0', m0', rfl, hR', hE', hkp, hx⟩
 obtain ⟨hml, hKx⟩ := hK x m0' hx
 obtain ⟨y', z', e1, hxy, rfl⟩ := hR'.tmps
 simp only [z0h] at e1
 obtain ⟨rfl, _⟩ := e1
 have hl' : ι0'.length = bs.length := by have := hR'.len; simp only at this; omega
 let ι' : Loc := putL ι bs ι0'
 have hin : ∀ i, i < bs.length → ι'[bs.getD i 0]? = ι0'[i]? := by
  intro i hi
  rw [z05 (by omega : i < ι0'.length)]
  exact q9m bs ι0' ι i _ _ hnd (q49 hi) (z05 (by omega)) (hbl i hi)
 have hout' : ∀ b, b ∉ bs → ι'[b]? = ι[b]? := fun b hb => q6m bs ι0' ι b hb
 have hmem' : ∀ r : Nat, some r ∈ ι' → some r ∈ ι0' ∨ (some r ∈ ι ∧ some r ∉ ι0 ∧ ∃ b, b ∉ bs ∧ ι[b]? = some (some r)) := by
  intro r hr
  obtain ⟨b, hb⟩ := z1m hr
  by_cases hbb : b ∈ bs
  · obtain ⟨i, hi⟩ := z1m hbb
    have hil := (z08.1 hi).1
    have e : bs.getD i 0 = b := by rw [z04, hi]; rfl
    rw [← e, hin i hil] at hb
    exact .inl (z06 hb)
  · rw [hout' b hbb] at hb
    refine .inr ⟨z06 hb, fun hh => ?_, b, hbb, hb⟩
    obtain ⟨i, hil, hi⟩ := hin0 r hh
    have := hR.inj _ _ r hb hi
    exact hbb (by rw [this]; exact z06 (q49 hil))
 have hI2 : ∀ r, Imm (fun r => Hd r ∨ (some r ∈ ι ∧ some r ∉ ι0)) ι0' w' r → Imm Hd ι' w' r := by
  intro r hi
  refine ⟨hi.1, fun hh => ?_, fun hh => hi.2.2 (.inl hh)⟩
  rcases hmem' r hh with h1 | ⟨h1, h2, _⟩
  · exact hi.2.1 h1
  · exact hi.2.2 (.inr ⟨h1, h2⟩)
 have hre : ∀ (b : Nat) (o : Option Nat), ι0'[b]? = some o → ι'[bs.getD b 0]? = some o := by
  intro b o ho
  have hb : b < bs.length := by rw [← hl']; exact (z08.1 ho).1
  rw [hin b hb]; exact ho
 have hkeep : ∀ (b : Nat) (o : Option Nat), kpOf kp0 bs 0 b = true → ι[b]? = some o → ι'[b]? = some o := by
  intro b o hkb ho
  by_cases hbb : b ∈ bs
  · obtain ⟨i, hi⟩ := z1m hbb
    have hil := (z08.1 hi).1
    have e : bs.getD i 0 = b := by rw [z04, hi]; rfl
    rw [qh9 hnd hi, z16] at hkb
    rw [← e, hin i hil]
    exact hkp i o hkb (by rw [hι0 i hil, e]; exact ho)
  · rw [hout' b hbb]; exact ho
 have hEE : Ext 0 ι w ι' w' := by
  refine ⟨hE'.os, hE'.tape, hE'.output, hE'.size, ?_, hE'.shape, fun b o hb => absurd hb (z28 b)⟩
  intro r hr hn
  obtain ⟨h1, h2⟩ := hE'.imm r hr (fun hh => hn (hsub r hh))
  refine ⟨fun hh => ?_, h2⟩
  rcases hmem' r hh with h3 | ⟨h3, _⟩
  · exact h1 h3
  · exact hn h3
 refine ⟨y, ren bs x, ι', putL m bs (renM bs m0'), rfl, ⟨?_, ?_, ?_, ⟨y, [], rfl, qlu hI2 hre x y hxy, rfl⟩, ?_, ⟨[], rfl, z24, fun r hr => by cases hr⟩, ?_, hR'.glob.free hI2⟩, hEE, hkeep, hKx⟩
 · show (putL ι bs ι0').length = _
   rw [qdh, qdh]; exact hR.len
 · intro r hr
   rcases hmem' r hr with h1 | ⟨h1, _⟩
   · exact hR'.lt r h1
   · exact z10 (hR.lt r h1) hE'.size
 · have key : ∀ a r : Nat, ι'[a]? = some (some r) → (∃ i, i < bs.length ∧ bs.getD i 0 = a ∧ ι0'[i]? = some (some r)) ∨ (a ∉ bs ∧ ι[a]? = some (some r) ∧ some r ∉ ι0') := by
    intro a r ha
    by_cases hbb : a ∈ bs
    · obtain ⟨i, hi⟩ := z1m hbb
      have hil := (z08.1 hi).1
      have e : bs.getD i 0 = a := by rw [z04, hi]; rfl
      rw [← e, hin i hil] at ha
      exact .inl ⟨i, hil, e, ha⟩
    · rw [hout' a hbb] at ha
      refine .inr ⟨hbb, ha, fun hh => ?_⟩
      have hn0 : some r ∉ ι0 := fun hh0 => by
       obtain ⟨i, hil, hi⟩ := hin0 r hh0
       have := hR.inj _ _ r ha hi
       exact hbb (by rw [this]; exact z06 (q49 hil))
      exact (hR'.hid r (.inr ⟨z06 ha, hn0⟩)).2 hh
   intro a b r h1 h2
   rcases key a r h1 with ⟨i, hi, rfl, hi2⟩ | ⟨ha, ha2, ha3⟩ <;> rcases key b r h2 with ⟨j, hj, rfl, hj2⟩ | ⟨hb, hb2, hb3⟩
   · rw [hR'.inj i j r hi2 hj2]
   · exact absurd (z06 hi2) hb3
   · exact absurd (z06 hj2) ha3
   · exact hR.inj a b r ha2 hb2
 · intro b blk hb
   by_cases hbb : b ∈ bs
   · obtain ⟨i, hi⟩ := z1m hbb
     have hil := (z08.1 hi).1
     have e : bs.getD i 0 = b := by rw [z04, hi]; rfl
     have hil' : i < m0'.length := by omega
     have hb2 : (putL m bs (renM bs m0'))[b]? = some (AB.ren bs m0'[i]) :=
      q9m bs _ m i b _ hnd hi (by rw [q23, z05 hil']; rfl) (by rw [← e]; have := hbl i hil; rw [hR.len] at this; exact this)
     have hb1 : (putL m bs (renM bs m0'))[b]? = some blk := hb
     rw [hb2] at hb1
     cases hb1
     rw [← e]
     exact qk1 hI2 hre (hR'.mem i _ (z05 hil'))
   · have hb1 : (putL m bs (renM bs m0'))[b]? = some blk := hb
     rw [q6m bs _ m b hbb] at hb1
     have h0 := hR.mem b blk hb1
     have hsame : ∀ r : Nat, ι[b]? = some (some r) → w'.heap[r]? = w.heap[r]? := fun r hr => by
      refine (hE'.imm r (hR.lt r (z06 hr)) fun hh => ?_).2
      obtain ⟨i, hil, hi⟩ := hin0 r hh
      have := hR.inj _ _ r hr hi
      exact hbb (by rw [this]; exact z06 (q49 hil))
     cases blk with
     | box cs =>
      obtain ⟨r, t, vs2, h1, h2, h3⟩ := h0
      refine ⟨r, t, vs2, by rw [hout' b hbb]; exact h1, (hsame r h1).trans h2, q0l hEE hR.lt _ _ (fun b' hb' o ho => hkeep b' o ?_ ho) h3⟩
      exact z0l.1 (qk2 hout b cs hb1 (by rw [z16]; exact hbb)) b' (q62 _ _ h3 b' hb')
     | row t sz xs =>
      obtain ⟨hp, h0⟩ := h0
      refine ⟨hp, ?_⟩
      rcases h0 with ⟨r, cells, vs2, h1, h2, h3, h4⟩ | ⟨h1, h2⟩
      · exact .inl ⟨r, cells, vs2, by rw [hout' b hbb]; exact h1, (hsame r h1).trans h2, q0l hEE hR.lt _ _ (fun b' hb' => by rw [hp] at hb'; cases hb') h3, h4.1, fun j hj => (q15 (hsame r h1) _).trans (h4.2.1 j hj), h4.2.2⟩
      · exact .inr ⟨by rw [hout' b hbb]; exact h1, h2⟩
     | rowc t sz xs N =>
      obtain ⟨⟨hp, h0⟩, hcap⟩ := h0
      refine ⟨⟨hp, ?_⟩, hcap.move (fun o ho => by rw [hout' b hbb]; exact ho) (fun r hr => qfc (hsame r hr))⟩
      rcases h0 with ⟨r, cells, vs2, h1, h2, h3, h4⟩ | ⟨h1, h2⟩
      · exact .inl ⟨r, cells, vs2, by rw [hout' b hbb]; exact h1, (hsame r h1).trans h2, q0l hEE hR.lt _ _ (fun b' hb' => by rw [hp] at hb'; cases hb') h3, h4.1, fun j hj => (q15 (hsame r h1) _).trans (h4.2.1 j hj), h4.2.2⟩
      · exact .inr ⟨by rw [hout' b hbb]; exact h1, h2⟩
     | gone => exact True.intro
     | tr _ _ => exact True.intro
 · intro r hr
   refine ⟨z10 (hR.hid r hr).1 hE'.size, fun hh => ?_⟩
   rcases hmem' r hh with h1 | ⟨h1, _⟩
   · exact (hR'.hid r (.inl hr)).2 h1
   · exact (hR.hid r hr).2 h1
theorem qh1 : ∀ (bs : List Nat) (i b : Nat), kpOf (fun _ => true) bs i b = true
 | [], _, _ => rfl
 | c :: cs, i, b => by rw [kpOf]; split <;> first | rfl | exact qh1 cs (i + 1) b
theorem q74 {kp : Nat → Bool} (hk : ∀ b, kp b = true) (bs : List Nat) : ∀ (m : List AB) (b0 : Nat), q5g kp bs b0 m = true
 | [], _ => rfl
 | .box cs :: m, b0 => by
  rw [q5g, q74 hk bs m (b0 + 1), z0t, z1q]
  exact .inr (z0l.2 fun b _ => hk b)
 | .row _ _ _ :: m, b0 => q74 hk bs m (b0 + 1)
 | .rowc _ _ _ _ :: m, b0 => q74 hk bs m (b0 + 1)
 | .gone :: m, b0 => q74 hk bs m (b0 + 1)
 | .tr _ _ :: m, b0 => q74 hk bs m (b0 + 1)
theorem ACall.frame {g : FuncId} {m0 m : List AB} {args0 args : List AV} {K0 K : AV → List AB → Prop} (h : ACall P g m0 args0 K0) (bs : List Nat) (hnd : bs.Nodup)
 (hm : bs.map (fun b => m[b]?) = (renM bs m0).map some) (ha : args = q0i bs args0) (hk1 : (q03 args0).all (fun b => decide (b < bs.length)) = true) (hk2 : m0.all (AB.inR bs.length) = true)
 (hK : ∀ x m0', K0 x m0' → m0'.length = m0.length ∧ K (ren bs x) (putL m bs (renM bs m0'))) : ACall P g m args K := by
 have hX : q0r P (fun _ => true) g m0 args0 K0 := ⟨h.1, fun Hd ι w vs hR => (h.2 Hd ι w vs hR).mono fun e w' ⟨y, x, ι', m', h1, h2, h3, h4⟩ =>
  ⟨y, x, ι', m', h1, h2, h3 0, fun b o _ ho => (h3 (b + 1)).keep b o (z3r b) ho, h4⟩⟩
 obtain ⟨hE, hF⟩ := hX.frame (K := K) bs hnd hm ha hk1 hk2 (q74 (qh1 bs 0) bs m 0) hK
 refine ⟨hE, fun Hd ι w vs hR => (hF Hd ι w vs hR).mono ?_⟩
 rintro e w' ⟨y, x, ι', m', h1, h2, h3, h5, h4⟩
 exact ⟨y, x, ι', m', h1, h2, fun L => ⟨h3.os, h3.tape, h3.output, h3.size, h3.imm, h3.shape, fun b o _ ho => h5 b o (qh1 bs 0 b) ho⟩, h4⟩
