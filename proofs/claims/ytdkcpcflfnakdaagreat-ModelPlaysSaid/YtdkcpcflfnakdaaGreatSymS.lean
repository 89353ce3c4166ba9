/- A text of the walk that proves a law of this seat; joined by a program. -/
import Derived.Test.YtdkcpcflfnakdaaGreatSymR
set_option linter.unusedSimpArgs false
set_option linter.unusedVariables false
namespace Go.Proofs.YtdkcpcflfnakdaaGreat.Sym
open Go Go.RowKit
variable {L : Nat} {Hd : Nat → Prop}
variable {B n : Nat} {F : Fence} {Q : Exit → Act → World → Prop} {ms : List Nat}
def maskOf (acc : List Nat) : List Edge → Nat
 | [] => 0
 | e :: es => (if Region.binds .any e = true then 2 ^ e.on ||| acc.getD e.on 0 else 0) ||| maskOf acc es
def q3n : List Oper → List Nat → List Nat
 | [], acc => acc
 | o :: os, acc => q3n os (acc ++ [maskOf acc o.after.toList])
theorem qir {acc : List Nat} {p : Nat} : ∀ {es : List Edge}, (maskOf acc es).testBit p = true → ∃ e ∈ es, Region.binds .any e = true ∧ (e.on = p ∨ (acc.getD e.on 0).testBit p = true)
 | [], h => by simp [maskOf] at h
 | e :: es, h => by
  rw [maskOf, Nat.testBit_or, z1q] at h
  rcases h with h | h
  · split at h
    · rename_i hb
      rw [Nat.testBit_or, z1q, Nat.testBit_two_pow] at h
      exact ⟨e, by simp, hb, h.imp of_decide_eq_true id⟩
    · simp at h
  · obtain ⟨e', h1, h2⟩ := qir h
    exact ⟨e', by simp [h1], h2⟩
theorem qex : ∀ (os : List Oper) (acc : List Nat), (∃ t, q3n os acc = acc ++ t) ∧
 ∀ j o, os[j]? = some o → ∀ p, ((q3n os acc).getD (acc.length + j) 0).testBit p = true → ∃ e ∈ o.after.toList, Region.binds .any e = true ∧ (e.on = p ∨ ((q3n os acc).getD e.on 0).testBit p = true)
 | [], acc => ⟨⟨[], by simp [q3n]⟩, fun j o h => by simp at h⟩
 | o :: os, acc => by
  obtain ⟨⟨t, ht⟩, hs⟩ := qex os (acc ++ [maskOf acc o.after.toList])
  have e0 : q3n (o :: os) acc = q3n os (acc ++ [maskOf acc o.after.toList]) := rfl
  refine ⟨⟨[maskOf acc o.after.toList] ++ t, by rw [e0, ht]; simp⟩, ?_⟩
  intro j o' hj p hp
  rw [e0] at hp ⊢
  cases j with
  | zero =>
   simp at hj
   subst hj
   have e1 : (q3n os (acc ++ [maskOf acc o.after.toList])).getD (acc.length + 0) 0 = maskOf acc o.after.toList := by
    rw [ht]; simp
   rw [e1] at hp
   obtain ⟨e, h1, h2, h3⟩ := qir hp
   refine ⟨e, h1, h2, h3.imp id fun h => ?_⟩
   by_cases hl : e.on < acc.length
   · have e2 : (q3n os (acc ++ [maskOf acc o.after.toList])).getD e.on 0 = acc.getD e.on 0 := by
      rw [ht, z04, z04, z1r, z0j hl]
     rw [e2]; exact h
   · rw [z04, z0p (by omega)] at h
     simp at h
  | succ j =>
   have := hs j o' (by simpa using hj) p
   rw [show (acc ++ [maskOf acc o.after.toList]).length + j = acc.length + (j + 1) by simp; omega] at this
   exact this hp
def qe3 : List Oper → Nat → Bool
 | [], _ => true
 | o :: os, i => o.after.toList.all (fun e => !Region.binds .any e || decide (e.on < i)) && qe3 os (i + 1)
theorem qdl : ∀ {os : List Oper} {i : Nat}, qe3 os i = true → ∀ j o, os[j]? = some o → ∀ e ∈ o.after.toList, Region.binds .any e = true → e.on < i + j
 | [], i, _, j, o, h => by simp at h
 | o :: os, i, h, j, o', hj => by
  rw [qe3, z0d] at h
  cases j with
  | zero =>
   simp at hj
   subst hj
   intro e he hb
   have := z0l.1 h.1 e he
   simp [hb] at this
   simpa using this
  | succ j =>
   intro e he hb
   have := qdl h.2 j o' (by simpa using hj) e he hb
   omega
def qc0 (ms : List Nat) (ops : Array Oper) (e1 e2 : Ent) : Bool := (ms.getD e2.i 0).testBit e1.i || (q9v ops e1.i e2.i && q9s e1 e2)
def qk4 (ms : List Nat) (ops : Array Oper) (e : Ent) : List Ent → Bool
 | [] => true
 | e2 :: l => qc0 ms ops e e2 && qk4 ms ops e l
def qb9 (ms : List Nat) (ops : Array Oper) : List Ent → Bool
 | [] => true
 | e :: l => qk4 ms ops e l && qb9 ms ops l
theorem qi2 {ops : Array Oper} {e : Ent} : ∀ {l : List Ent}, qk4 ms ops e l = true → ∀ x ∈ l, qc0 ms ops e x = true
 | [], _, x, hx => by cases hx
 | y :: l, h, x, hx => by
  rw [qk4, z0d] at h
  rcases z26.1 hx with rfl | hx
  · exact h.1
  · exact qi2 h.2 x hx
theorem qey {ops : Array Oper} : ∀ {l : List Ent}, qb9 ms ops l = true → l.Pairwise (fun x y => qc0 ms ops x y = true)
 | [], _ => .nil
 | e :: l, h => by
  rw [qb9, z0d] at h
  exact .cons (qi2 h.1) (qey h.2)
def RunE (P : Program) (T : TypeId → Option TI) (L : Nat) (ops : Array Oper) (nids : Nat → Nat) : List Ent → St → St → Prop
 | [], s, s' => s = s'
 | e :: es, s, s' => Ex P T L ops nids e s ∧ RunE P T L ops nids es (post ops e s) s'
section
variable {P : Program} {T : TypeId → Option TI} {ops : Array Oper} {nids : Nat → Nat}
theorem qft : ∀ {es : List Ent} {e : Ent} {s m s' : St}, RunE P T L ops nids es s m → Ex P T L ops nids e m → post ops e m = s' → RunE P T L ops nids (es ++ [e]) s s'
 | [], e, s, m, s', h, he, hp => by cases h; exact ⟨he, hp⟩
 | x :: es, e, s, m, s', h, he, hp => ⟨h.1, qft h.2 he hp⟩
theorem qf0 : ∀ {pre : List Ent} {e : Ent} {rest : List Ent} {s s' : St}, RunE P T L ops nids (pre ++ e :: rest) s s' → (∀ p ∈ pre, q9v ops p.i e.i = true ∧ q9s p e = true) →
 RunE P T L ops nids (e :: (pre ++ rest)) s s'
 | [], e, rest, s, s', h, _ => h
 | p :: pre, e, rest, s, s', h, hi => by
  have ih := qf0 (pre := pre) h.2 (fun q hq => hi q (by simp [hq]))
  obtain ⟨h1, h2⟩ := hi p (by simp)
  obtain ⟨k1, k2, k3⟩ := swap h.1 ih.1 h1 h2
  have ih2 := ih.2
  rw [k3] at ih2
  exact ⟨k1, k2, ih2⟩
mutual
theorem qsw : ∀ x : AV, x.pure = true → x.owners = []
 | .v _, _ => rfl
 | .agg xs, h => q7a xs h
 | .tup xs, h => q7a xs h
 | .sl _ _, _ => rfl
 | .rp _, _ => rfl
 | .own _ _ _ _, h => by simp [AV.pure] at h
 | .ptr _ _, _ => rfl
 | .ep _ _ _ _, _ => rfl
 | .fn f caps, h => by first | rfl | exact q7a caps h
 | .any, _ => rfl
theorem q7a : ∀ xs : List AV, q18 xs = true → q0z xs = []
 | [], _ => rfl
 | x :: xs, h => by
  simp only [q18, z0d] at h
  simp only [q0z]
  rw [qsw x h.1, q7a xs h.2]
  rfl
end
theorem qu1 (hT : TyOk P T) {ι : Loc} {s : St} {a : Act} {w : World} {next : Act → World → Prop} {o : Oper} {nid : Nat} {x : AV} {wr : Wr} (hF : Wide F) (h : Rel Hd B ι s a w) (hnew : q4g o.op = true → L ≤ nid ∧ nid < s.mem.length) (e : Act1 P T L nid o.op s x wr) (hn : ∀ y ι' w', rel Hd ι' w' x y → Rel Hd B ι' (s.app wr) a w' → Ext L ι w ι' w' → next (a.put o.dst y) w') : o.wpIn F n P a w next Q := by
 rcases e with ⟨hc, C, h1, hC⟩ | ⟨f, args, g, caps, hc, hf, hcall⟩
 · exact qrv hT hF h hnew h1 hC hn
 · unfold q1g at hc
   split at hc <;> try (cases hc; done)
   rename_i f' args' ts' ho
   cases hc
   refine q47 (L := L) hT hF h (K := fun x' s' => x' = x ∧ s' = s.app wr) ?_ ?_
   · rw [ho]
     left
     simp only [aop0]
     right; left
     unfold q6i
     rw [hf]
     rcases hcall with ⟨rfl, hp, hcall⟩ | ⟨rfl, hp, hcall⟩ | ⟨b, args0, blk0, blk1, x0, rfl, rfl, h3, h4, h5, h6, h7, hcall⟩ | ⟨b, t, sz, xs, ys, args0, x0, rfl, rfl, h3, hLb, h4, h5, h6, hcall⟩ | ⟨hnw, blk, x0, rfl, rfl, hp, hcall⟩ | ⟨hwd, rfl, hcall⟩
     · left
       show ACall P g s.mem (args.toList.map s.ev ++ caps) (fun x' m => x' = x ∧ ({ s with mem := m } : St) = s.app none)
       rw [← q4d]
       exact hcall.use hp (fun y hy => ⟨hy, rfl⟩)
     · left
       show ACall P g s.mem (args.toList.map s.ev ++ caps) (fun x' m => x' = x ∧ ({ s with mem := m } : St) = s.app none)
       rw [← q4d]
       exact hcall.borrow (by rintro _ rfl; exact hp) (fun y hy => ⟨hy, rfl⟩)
     · left
       show ACall P g s.mem (args.toList.map s.ev ++ caps) (fun x' m => x' = ren [b] x0 ∧ ({ s with mem := m } : St) = s.app (some (b, AB.ren [b] blk1, false)))
       rw [← q4d]
       refine hcall.frame [b] (by simp) (by simp [renM, h5]) h4 h6 (by simpa using h7) ?_
       rintro _ _ ⟨rfl, rfl⟩
       exact ⟨rfl, rfl, rfl⟩
     · refine .inr (.inr (.inl ⟨0, b, .row t sz ys, ren [b] x0, hLb, ?_, rfl, ?_⟩))
       · rw [← q4d]
         have := hcall.toR (m := s.mem) (b := b) h5 rfl h4 h6 rfl
         simpa [AB.ren] using this
       · have e0 : ({ s with mem := s.mem ++ List.replicate 0 AB.gone } : St) = s := by simp
         rw [e0]; rfl
     · obtain ⟨hnL, hnm⟩ := hnew hnw
       refine .inr (.inr (.inl ⟨0, nid, AB.ren [nid] blk, ren [nid] x0, hnL, ?_, rfl, ?_⟩))
       · rw [← q4d]
         have := q6k.new (m := s.mem) hcall hp hnm
         simpa using this
       · have e0 : ({ s with mem := s.mem ++ List.replicate 0 AB.gone } : St) = s := by simp
         rw [e0]; rfl
     · left
       show ACall P g s.mem (args.toList.map s.ev ++ caps) (fun x' m => x' = x ∧ ({ s with mem := m } : St) = s.app none)
       rw [← q4d]
       exact hcall.mono (by rintro y m' ⟨rfl, rfl⟩; exact ⟨rfl, rfl⟩)
   · rintro x' y s' ι' w' r1 r2 r3 ⟨rfl, rfl⟩
     exact hn y ι' w' r1 r2 r3
theorem qoq (hT : TyOk P T) {ι : Loc} {s : St} {a : Act} {w : World} {K : Act → World → Prop} {e : Ent} (hF : Wide F) (h : Rel Hd B ι s a w) (he : Ex P T L ops nids e s) (hnew : ∀ o, ops[e.i]? = some o → q4g o.op = true → L ≤ nids e.i ∧ nids e.i < s.mem.length) (hn : ∀ ι' a' w', Rel Hd B ι' (post ops e s) a' w' → Ext L ι w ι' w' → K a' w') : wpOpIn F n P ops Q e.i K a w := by
 obtain ⟨o, ho, -, -, -, h4⟩ := he
 have hd : q4f ops e.i = o.dst := by simp [q4f, ho]
 unfold wpOpIn
 rw [ho]
 simp only
 have act : Act1 P T L (nids e.i) o.op s e.x e.wr → o.wpIn F n P a w K Q := fun h1 =>
  qu1 hT hF h (hnew o ho) h1 (fun y ι' w' r1 r2 r3 => hn ι' _ w' (by unfold post; rw [hd]; exact r2.put o.dst r1) r3)
 split at h4
 · rename_i hg
   rw [if_pos (by simp [Region.wanted, hg])]
   exact act h4
 · rename_i j want hg
   obtain ⟨g, k1, h4⟩ := h4
   have skip : Region.wanted o (yielded ops a.tmps) = false → e.x = .v undef → e.wr = none → (if Region.wanted o (yielded ops a.tmps) = true then o.wpIn F n P a w K Q else (∀ f, o.about P w a.eval = some f → F.fn f) ∧ K (a.put o.dst undef) w) := by
    intro h1 x0 w0
    rw [if_neg (by simp [h1])]
    refine ⟨fun f _ => hF.fn f, hn ι _ w ?_ (Ext.refl _ _)⟩
    unfold post
    rw [hd, x0, w0]
    exact h.put o.dst (x := .v undef) (y := undef) rfl
   rcases h4 with ⟨c, k2, k3, k4⟩ | ⟨t, k2, k3, k4⟩
   · have hcv := q9n h k2
     have hy : yielded ops a.tmps j = some c := by
      unfold yielded
      rw [k1]
      simp [hcv]
     by_cases hcw : c = want
     · rw [if_pos (by simp [Region.wanted, hg, hy, hcw])]
       exact act (k3 hcw)
     · obtain ⟨x0, w0⟩ := k4 hcw
       exact skip (by simp [Region.wanted, hg, hy, hcw]) x0 w0
   · have hcv := q9n h k2
     have hy : yielded ops a.tmps j = none := by
      unfold yielded
      rw [k1]
      simp [hcv]
     exact skip (by simp [Region.wanted, hg, hy]) k3 k4
theorem qib (e : Ent) (s : St) : (post ops e s).mem.length = s.mem.length := by
 unfold post
 rw [qmn, q9g]
theorem qwy (hT : TyOk P T) (hF : Wide F) {s' : St} {N : Nat} (hback : ∀ j o, ops[j]? = some o → ∀ e ∈ o.after, Region.binds .any e = true → e.on < j) (hms : ∀ j o, ops[j]? = some o → ∀ p, (ms.getD j 0).testBit p = true → ∃ e ∈ o.after, Region.binds .any e = true ∧ (e.on = p ∨ (ms.getD e.on 0).testBit p = true)) (hnew : ∀ i o, ops[i]? = some o → q4g o.op = true → L ≤ nids i ∧ nids i < N) :
 ∀ (k : Nat) (l : List Ent) (listed : Array Bool) {ι : Loc} {s : St} {a : Act} {w : World}, l.length = k → RunE P T L ops nids l s s' → s.mem.length = N →
  (∀ i, i < ops.size → (listed.getD i true = false ↔ i ∈ l.map Ent.i)) → listed.size = ops.size → l.Pairwise (fun x y => x.i < y.i) → (∀ e ∈ l, e.i < ops.size) → l.Pairwise (fun x y => qc0 ms ops x y = true) →
  (∀ f, f < ops.size → f ∉ l.map Ent.i → ∀ p, (ms.getD f 0).testBit p = true → p ∉ l.map Ent.i) →
  Rel Hd B ι s a w → (∀ ι' a' w', Rel Hd B ι' s' a' w' → Ext L ι w ι' w' → Q .normal a' w') → wpAnyIn F n P .any ops Q k listed a w := by
 intro k
 induction k with
 | zero =>
  intro l listed ι s a w hk hr hN hl hsz hlt hin hok hcl hR hn
  obtain rfl : l = [] := z1a hk
  cases hr
  refine ⟨?_, hn ι a w hR (Ext.refl _ _)⟩
  refine z45.2 fun j hj => ?_
  obtain ⟨h1, o, ho, -⟩ := mem_ready.1 hj
  have := (hl j (z1t.1 ho).1).1 h1
  simp at this
 | succ k ih =>
  intro l listed ι s a w hk hr hN hl hsz hlt hin hok hcl hR hn
  have hlist : ∀ f, f < ops.size → (listed.getD f false = true ↔ f ∉ l.map Ent.i) := by
   intro f hf
   have h0 := hl f hf
   have hf' : f < listed.size := by omega
   rw [← h0]
   simp [hf']
  refine ⟨fun hnil => ?_, fun j hj => ?_⟩
  · exfalso
    cases l with
    | nil => simp at hk
    | cons e rest =>
     have hes := hin e (by simp)
     have : e.i ∈ Region.ready .any ops listed := by
      refine mem_ready.2 ⟨(hl e.i hes).2 (by simp), ops[e.i], by simp [hes], fun ed hed hb => ?_⟩
      have hon := hback e.i ops[e.i] (by simp [hes]) ed hed hb
      refine (hlist ed.on (by omega)).2 fun hm => ?_
      obtain ⟨x, hx, hxe⟩ := z1b.1 hm
      rcases z26.1 hx with rfl | hx
      · omega
      · have := z3w hlt hx
        omega
     rw [hnil] at this
     cases this
  · obtain ⟨h1, o, ho, hall⟩ := mem_ready.1 hj
    have hjs := (z1t.1 ho).1
    obtain ⟨e, hel, rfl⟩ := z1b.1 ((hl j hjs).1 h1)
    obtain ⟨pre, rest, rfl⟩ := List.append_of_mem hel
    have hlt' := z2e.1 hlt
    have hok' := z2e.1 hok
    have hpre : ∀ p ∈ pre, p.i < e.i := fun p hp => hlt'.2.2 p hp e (by simp)
    have hpost : ∀ p ∈ rest, e.i < p.i := fun p hp => z3w hlt'.2.1 hp
    have hmem : ∀ i, i ∈ (pre ++ e :: rest).map Ent.i ↔ (i = e.i ∨ i ∈ (pre ++ rest).map Ent.i) := by
     intro i
     simp only [z12, z0r, z0q, z26]
     constructor
     · rintro (h | h | h)
       · exact .inr (.inl h)
       · exact .inl h
       · exact .inr (.inr h)
     · rintro (h | h | h)
       · exact .inr (.inl h)
       · exact .inl h
       · exact .inr (.inr h)
    have hnot : e.i ∉ (pre ++ rest).map Ent.i := by
     intro hm
     obtain ⟨x, hx, hxe⟩ := z1b.1 hm
     rcases z0q.1 hx with hx | hx
     · have := hpre x hx; omega
     · have := hpost x hx; omega
    have hready : ∀ p, (ms.getD e.i 0).testBit p = true → p ∉ (pre ++ e :: rest).map Ent.i := by
     intro p hp
     obtain ⟨ed, hed, hb, hor⟩ := hms e.i o ho p hp
     have hon := hback e.i o ho ed hed hb
     have hnl := (hlist ed.on (by omega)).1 (hall ed hed hb)
     rcases hor with h | h
     · rw [← h]; exact hnl
     · exact hcl ed.on (by omega) hnl p h
    have hind : ∀ p ∈ pre, q9v ops p.i e.i = true ∧ q9s p e = true := by
     intro p hp
     have h0 := hok'.2.2 p hp e (by simp)
     unfold qc0 at h0
     rw [z1q, z0d] at h0
     rcases h0 with h0 | h0
     · exact absurd (z1b.2 ⟨p, by simp [hp], rfl⟩) (hready p.i h0)
     · exact h0
    have hr' := qf0 hr hind
    refine qoq hT hF hR hr'.1 (fun o' ho' hn' => by rw [hN]; exact hnew e.i o' ho' hn') ?_
    intro ι' a' w' hR' hE
    refine ih (pre ++ rest) _ (by simp at hk ⊢; omega) hr'.2 (by rw [qib]; exact hN) ?_ (by simpa using hsz) ?_ ?_ ?_ ?_ hR' (fun ι2 a2 w2 r1 r2 => hn ι2 a2 w2 r1 (hE.trans r2))
    · intro i hi
      by_cases hie : e.i = i
      · subst hie
        have : (listed.setIfInBounds e.i true).getD e.i true = true := by simp [hsz, hi]
        rw [this]
        constructor
        · intro h; cases h
        · intro h; exact absurd h hnot
      · rw [getD_set_ne true hie, hl i hi, hmem]
        constructor
        · rintro (h | h)
          · exact absurd h.symm hie
          · exact h
        · exact .inr
    · exact z2e.2 ⟨hlt'.1, (z2f.1 hlt'.2.1).2, fun x hx y hy => hlt'.2.2 x hx y (by simp [hy])⟩
    · intro x hx
      refine hin x ?_
      rcases z0q.1 hx with hx | hx
      · simp [hx]
      · simp [hx]
    · exact z2e.2 ⟨hok'.1, (z2f.1 hok'.2.1).2, fun x hx y hy => hok'.2.2 x hx y (by simp [hy])⟩
    · intro f hf hfl p hp hpl
      by_cases hfe : f = e.i
      · subst hfe
        exact hready p hp ((hmem p).2 (.inr hpl))
      · refine hcl f hf (fun hm => ?_) p hp ((hmem p).2 (.inr hpl))
        rcases (hmem f).1 hm with h | h
        · exact hfe h
        · exact hfl h
end
