/- A text of the walk that proves a law of this seat; joined by a program. -/
import Derived.Test.YtdkcpcflfnakdaaGreatSymZh
set_option linter.unusedSimpArgs false
set_option linter.unusedVariables false
namespace Go.Proofs.YtdkcpcflfnakdaaGreat.Sym
open Go Go.RowKit
variable {L : Nat} {P : Program} {T : TypeId → Option TI}
def qg0 (P : Program) (T : TypeId → Option TI) (L : Nat) (ops : Array Oper) (j : Nat) (s : St) (K : St → Prop) : Prop :=
 ∃ o, ops[j]? = some o ∧ o.guard = none ∧ aop P T L o.op s (fun x s' => K (s'.put o.dst x))
theorem qtu {Hd : Nat → Prop} {F : Fence} {n : Nat} (hT : TyOk P T) (hF : Wide F) {ops : Array Oper} {Q : Exit → Act → World → Prop} {B : Nat} {Kn : St → Prop} (Inv : Nat → Array Bool → St → Prop)
 (h0 : ∀ listed s, Inv 0 listed s → Region.ready .any ops listed = [] ∧ Kn s)
 (hs : ∀ k listed s, Inv (k + 1) listed s → Region.ready .any ops listed ≠ [] ∧ ∀ j ∈ Region.ready .any ops listed, qg0 P T L ops j s (fun s' => Inv k (listed.setIfInBounds j true) s')) :
 ∀ (k : Nat) (listed : Array Bool) {ι : Loc} {s : St} {a : Act} {w : World}, Inv k listed s → Rel Hd B ι s a w → (∀ ι' s' a' w', Kn s' → Rel Hd B ι' s' a' w' → Ext L ι w ι' w' → Q .normal a' w') → wpAnyIn F n P .any ops Q k listed a w
 | 0, listed, ι, s, a, w, hI, hR, hn => ⟨(h0 listed s hI).1, hn ι s a w (h0 listed s hI).2 hR (Ext.refl _ _)⟩
 | k + 1, listed, ι, s, a, w, hI, hR, hn => by
  obtain ⟨hne, hj⟩ := hs k listed s hI
  refine ⟨fun h => absurd h hne, fun j hj' => ?_⟩
  obtain ⟨o, ho, hg, hop⟩ := hj j hj'
  unfold wpOpIn
  rw [ho]
  simp only
  rw [if_pos (by simp [Region.wanted, hg])]
  exact q47 (L := L) hT hF hR hop (fun x y s' ι' w' h1 h2 h3 h4 => qtu hT hF Inv h0 hs k _ h4 (h2.put o.dst h1) (fun ι2 s2 a2 w2 r1 r2 r3 => hn ι2 s2 a2 w2 r1 r2 (h3.trans r3)))
theorem any_rule (hT : TyOk P T) (hm : P.follows .mixedOrders = true) {id : Nat} {ops : Array Oper} {k : List Fr} {s : St} {K : AExit → St → Prop} (Inv : Nat → Array Bool → St → Prop)
 (hi : Inv ops.size (Array.replicate ops.size false) s)
 (h0 : ∀ listed s, Inv 0 listed s → Region.ready .any ops listed = [] ∧ go P T L k s K)
 (hs : ∀ n listed s, Inv (n + 1) listed s → Region.ready .any ops listed ≠ [] ∧ ∀ j ∈ Region.ready .any ops listed, qg0 P T L ops j s (fun s' => Inv n (listed.setIfInBounds j true) s')) :
 qa6 P T L (.region id ops true) k s K := by
 unfold qa6
 intro F n hF Hd B ι a w hB hR Q hn
 refine wpIn_region_any hm ?_
 obtain ⟨hR1, hE1⟩ := hR.places (L := L) (w' := { w with drawn := w.drawn + 1 }) 0 rfl rfl rfl rfl
 have e1 : ι ++ List.replicate 0 none = ι := by simp
 have e2 : ({ s with mem := s.mem ++ List.replicate 0 AB.gone } : St) = s := by simp
 rw [e1, e2] at hR1
 rw [e1] at hE1
 exact qtu hT hF Inv h0 hs ops.size _ hi hR1 (fun ι' s' a' w' r1 r2 r3 => hn .normal s' ι' a' w' r1 r2 (hE1.trans r3))
section last
variable {Hd : Nat → Prop} {ops : Array Oper} {nids : Nat → Nat}
theorem qum {F : Fence} {n : Nat} (hT : TyOk P T) (hF : Wide F) {Q : Exit → Act → World → Prop} {s' : St} {B N N0 : Nat} {ms : List Nat} (hsize : ops.size = N0 + 1) (hlate : ∀ p, p < N0 → (ms.getD N0 0).testBit p = true)
 (hback : ∀ j o, ops[j]? = some o → ∀ e ∈ o.after, Region.binds .any e = true → e.on < j)
 (hms : ∀ j o, ops[j]? = some o → ∀ p, (ms.getD j 0).testBit p = true → ∃ e ∈ o.after, Region.binds .any e = true ∧ (e.on = p ∨ (ms.getD e.on 0).testBit p = true))
 (hnew : ∀ i o, ops[i]? = some o → q4g o.op = true → L ≤ nids i ∧ nids i < N) :
 ∀ (k : Nat) (l : List Ent) (listed : Array Bool) {ι : Loc} {s : St} {a : Act} {w : World}, l.length = k → RunE P T L ops nids l s s' → s.mem.length = N →
  (∀ i, i < N0 → (listed.getD i true = false ↔ i ∈ l.map Ent.i)) → listed.getD N0 true = false → listed.size = ops.size → l.Pairwise (fun x y => x.i < y.i) → (∀ e ∈ l, e.i < N0) → l.Pairwise (fun x y => qc0 ms ops x y = true) →
  (∀ f, f < N0 → f ∉ l.map Ent.i → ∀ p, (ms.getD f 0).testBit p = true → p ∉ l.map Ent.i) →
  Rel Hd B ι s a w → (∀ listed ι' a' w', (∀ i, i < N0 → listed.getD i true = true) → listed.getD N0 true = false → listed.size = ops.size → Rel Hd B ι' s' a' w' → Ext L ι w ι' w' → wpAnyIn F n P .any ops Q 1 listed a' w') → wpAnyIn F n P .any ops Q (k + 1) listed a w := by
 intro k
 induction k with
 | zero =>
  intro l listed ι s a w hk hr hN hl hlast hsz hlt hin hok hcl hR hn
  obtain rfl : l = [] := z1a hk
  cases hr
  refine hn listed ι a w (fun i hi => ?_) hlast hsz hR (Ext.refl _ _)
  cases h : listed.getD i true with
  | true => rfl
  | false => have := (hl i hi).1 h; simp at this
 | succ k ih =>
  intro l listed ι s a w hk hr hN hl hlast hsz hlt hin hok hcl hR hn
  have hlist : ∀ f, f < N0 → (listed.getD f false = true ↔ f ∉ l.map Ent.i) := by
   intro f hf
   have h0 := hl f hf
   have hf' : f < listed.size := by omega
   rw [← h0]
   simp [hf']
  refine ⟨fun hnil => ?_, fun j hj => ?_⟩
  · exfalso
    cases l with
    | nil => simp at hk
    | cons e rest =>
     have hes := hin e (by simp)
     have : e.i ∈ Region.ready .any ops listed := by
      refine mem_ready.2 ⟨(hl e.i hes).2 (by simp), ops[e.i]'(by omega), by simp [show e.i < ops.size by omega], fun ed hed hb => ?_⟩
      have hon := hback e.i (ops[e.i]'(by omega)) (by simp [show e.i < ops.size by omega]) ed hed hb
      refine (hlist ed.on (by omega)).2 fun hm => ?_
      obtain ⟨x, hx, hxe⟩ := z1b.1 hm
      rcases z26.1 hx with rfl | hx
      · omega
      · have := z3w hlt hx
        omega
     rw [hnil] at this
     cases this
  · obtain ⟨h1, o, ho, hall⟩ := mem_ready.1 hj
    have hjs0 := (z1t.1 ho).1
    have hjs : j < N0 := by
     refine Nat.lt_of_le_of_ne (by omega) ?_
     rintro rfl
     cases l with
     | nil => simp at hk
     | cons e rest =>
      obtain ⟨ed, hed, hb, hor⟩ := hms j o ho e.i (hlate e.i (hin e (by simp)))
      have hon := hback j o ho ed hed hb
      have hnl := (hlist ed.on hon).1 (hall ed hed hb)
      rcases hor with h | h
      · exact hnl (by rw [h]; simp)
      · exact hcl ed.on hon hnl e.i h (by simp)
    obtain ⟨e, hel, rfl⟩ := z1b.1 ((hl j hjs).1 h1)
    obtain ⟨pre, rest, rfl⟩ := List.append_of_mem hel
    have hlt' := z2e.1 hlt
    have hok' := z2e.1 hok
    have hpre : ∀ p ∈ pre, p.i < e.i := fun p hp => hlt'.2.2 p hp e (by simp)
    have hpost : ∀ p ∈ rest, e.i < p.i := fun p hp => z3w hlt'.2.1 hp
    have hmem : ∀ i, i ∈ (pre ++ e :: rest).map Ent.i ↔ (i = e.i ∨ i ∈ (pre ++ rest).map Ent.i) := by
     intro i
     simp only [z12, z0r, z0q, z26]
     constructor
     · rintro (h | h | h)
       · exact .inr (.inl h)
       · exact .inl h
       · exact .inr (.inr h)
     · rintro (h | h | h)
       · exact .inr (.inl h)
       · exact .inl h
       · exact .inr (.inr h)
    have hnot : e.i ∉ (pre ++ rest).map Ent.i := by
     intro hm
     obtain ⟨x, hx, hxe⟩ := z1b.1 hm
     rcases z0q.1 hx with hx | hx
     · have := hpre x hx; omega
     · have := hpost x hx; omega
    have hready : ∀ p, (ms.getD e.i 0).testBit p = true → p ∉ (pre ++ e :: rest).map Ent.i := by
     intro p hp
     obtain ⟨ed, hed, hb, hor⟩ := hms e.i o ho p hp
     have hon := hback e.i o ho ed hed hb
     have hnl := (hlist ed.on (by omega)).1 (hall ed hed hb)
     rcases hor with h | h
     · rw [← h]; exact hnl
     · exact hcl ed.on (by omega) hnl p h
    have hind : ∀ p ∈ pre, q9v ops p.i e.i = true ∧ q9s p e = true := by
     intro p hp
     have h0 := hok'.2.2 p hp e (by simp)
     unfold qc0 at h0
     rw [z1q, z0d] at h0
     rcases h0 with h0 | h0
     · exact absurd (z1b.2 ⟨p, by simp [hp], rfl⟩) (hready p.i h0)
     · exact h0
    have hr' := qf0 hr hind
    refine qoq hT hF hR hr'.1 (fun o' ho' hn' => by rw [hN]; exact hnew e.i o' ho' hn') ?_
    intro ι' a' w' hR' hE
    refine ih (pre ++ rest) _ (by simp at hk ⊢; omega) hr'.2 (by rw [qib]; exact hN) ?_ (by rw [getD_set_ne true (by omega)]; exact hlast) (by simpa using hsz) ?_ ?_ ?_ ?_ hR' (fun l2 ι2 a2 w2 q1 q2 q3 r1 r2 => hn l2 ι2 a2 w2 q1 q2 q3 r1 (hE.trans r2))
    · intro i hi
      by_cases hie : e.i = i
      · subst hie
        have : (listed.setIfInBounds e.i true).getD e.i true = true := by simp [hsz, show e.i < ops.size by omega]
        rw [this]
        constructor
        · intro h; cases h
        · intro h; exact absurd h hnot
      · rw [getD_set_ne true hie, hl i hi, hmem]
        constructor
        · rintro (h | h)
          · exact absurd h.symm hie
          · exact h
        · exact .inr
    · exact z2e.2 ⟨hlt'.1, (z2f.1 hlt'.2.1).2, fun x hx y hy => hlt'.2.2 x hx y (by simp [hy])⟩
    · intro x hx
      refine hin x ?_
      rcases z0q.1 hx with hx | hx
      · simp [hx]
      · simp [hx]
    · exact z2e.2 ⟨hok'.1, (z2f.1 hok'.2.1).2, fun x hx y hy => hok'.2.2 x hx y (by simp [hy])⟩
    · intro f hf hfl p hp hpl
      by_cases hfe : f = e.i
      · subst hfe
        exact hready p hp ((hmem p).2 (.inr hpl))
      · refine hcl f hf (fun hm => ?_) p hp ((hmem p).2 (.inr hpl))
        rcases (hmem f).1 hm with h | h
        · exact hfe h
        · exact hfl h
theorem qjz {N : Nat} {Kn : St → Prop} {s0 : St} {tl : List Oper} : ∀ (rest : List Oper) (i nid : Nat) (es : List Ent) (s : St),
 q6x P T L ops rest i nid es s Kn → ops.toList.drop i = rest ++ tl → i ≤ ops.size → nid = N + q0q (ops.toList.take i) → RunE P T L ops (fun i => N + q0q (ops.toList.take i)) es.reverse s0 s → es.reverse.map Ent.i = List.range i →
 ∃ l s', RunE P T L ops (fun i => N + q0q (ops.toList.take i)) l s0 s' ∧ l.map Ent.i = List.range (ops.size - tl.length) ∧ qb9 (q3n ops.toList []) ops l = true ∧ Kn s'
 | [], i, nid, es, s, h, hrest, hi, hnid, hr, hx => by
  have : i = ops.size - tl.length := by
   have := congrArg List.length hrest
   simp at this
   omega
  subst this
  exact ⟨es.reverse, s, hr, hx, h.1, h.2⟩
 | o :: rest, i, nid, es, s, h, hrest, hi, hnid, hr, hx => by
  have hlt : i < ops.size := by
   have := congrArg List.length hrest
   simp at this
   omega
  have hoi : ops.toList[i]? = some o := by
   have := congrArg (·[0]?) hrest
   simp at this
   simpa using this
  have ho : ops[i]? = some o := by simpa using hoi
  have hrest' : ops.toList.drop (i + 1) = rest ++ tl := by
   have := congrArg List.tail hrest
   simpa using this
  have hnid' : bump o.op nid = N + q0q (ops.toList.take (i + 1)) := by
   rw [q7t hoi, hnid]
   unfold bump
   split <;> omega
  have hdst : q4f ops i = o.dst := by simp [q4f, ho]
  have next : ∀ (s1 : St) (x : AV) (wr : Wr), RunE P T L ops (fun i => N + q0q (ops.toList.take i)) es.reverse s0 s1 →
   (match o.guard with
    | none => Act1 P T L nid o.op s1 x wr
    | some (j, want) => ∃ g, (ops[j]?).bind (·.dst) = some g ∧ ((∃ c, s1.tmps.getD g .any = .v (.bool c) ∧ (c = want → Act1 P T L nid o.op s1 x wr) ∧ (c ≠ want → x = .v undef ∧ wr = none)) ∨ (∃ t, s1.tmps.getD g .any = .v (.tuple t) ∧ x = .v undef ∧ wr = none))) →
   q6x P T L ops rest (i + 1) (bump o.op nid) (q3d ops i o s1 x wr :: es) ((s1.app wr).put o.dst x) Kn →
   ∃ l s', RunE P T L ops (fun i => N + q0q (ops.toList.take i)) l s0 s' ∧ l.map Ent.i = List.range (ops.size - tl.length) ∧ qb9 (q3n ops.toList []) ops l = true ∧ Kn s' := by
   intro s1 x wr hr1 hact hd
   refine qjz rest (i + 1) _ _ _ hd hrest' hlt hnid' ?_ ?_
   · rw [z47]
     refine qft hr1 ⟨o, ho, rfl, rfl, rfl, ?_⟩ ?_
     · show (match o.guard with
        | none => Act1 P T L (N + q0q (ops.toList.take i)) o.op s1 x wr
        | some (j, want) => ∃ g, (ops[j]?).bind (·.dst) = some g ∧ ((∃ c, s1.tmps.getD g .any = .v (.bool c) ∧ (c = want → Act1 P T L (N + q0q (ops.toList.take i)) o.op s1 x wr) ∧ (c ≠ want → x = .v undef ∧ wr = none)) ∨ (∃ t, s1.tmps.getD g .any = .v (.tuple t) ∧ x = .v undef ∧ wr = none)))
       rw [← hnid]
       exact hact
     · show (s1.app wr).put (q4f ops i) x = _
       rw [hdst]
   · rw [z47, z12, hx, z2j]
     rfl
  unfold q6x at h
  split at h
  · rename_i hg
    obtain ⟨x, wr, ha, hk⟩ := qco h
    exact next s x wr hr (by rw [hg]; exact ha) hk
  · rename_i j want hg
    split at h <;> try (exact h.elim)
    rename_i g hgd
    split at h <;> try (exact h.elim)
    · rename_i c hc
      have hsame : ({ s with tmps := s.tmps.set g (.v (.bool c)) } : St) = s := by
       rw [qej hc (by intro hh; cases hh)]
      by_cases hcw : c = want
      · subst hcw
        have h1 := h.1 rfl
        rw [hsame] at h1
        obtain ⟨x, wr, ha, hk⟩ := qco h1
        exact next s x wr hr (by rw [hg]; exact ⟨g, hgd, .inl ⟨c, hc, fun _ => ha, fun hh => absurd rfl hh⟩⟩) hk
      · have hcn : c = !want := by cases c <;> cases want <;> simp_all
        have h2 := h.2 hcn
        rw [← hcn, hsame] at h2
        exact next s (.v undef) none hr (by rw [hg]; exact ⟨g, hgd, .inl ⟨c, hc, fun hh => absurd hh hcw, fun _ => ⟨rfl, rfl⟩⟩⟩) h2
    · rename_i t hc
      exact next s (.v undef) none hr (by rw [hg]; exact ⟨g, hgd, .inr ⟨t, hc, rfl, rfl⟩⟩) h
def qti (ms : List Nat) (n : Nat) : Bool := (List.range n).all fun p => (ms.getD n 0).testBit p
theorem qww (hT : TyOk P T) (hm : P.follows .mixedOrders = true) {id : Nat} {k : List Fr} {s : St} {K : AExit → St → Prop} {c : Nat} {init : List Oper} {last : Oper}
 (hops : ops.toList = init ++ [last]) (hg : last.guard = none) (hnl : q4g last.op = false) (hL : L ≤ s.mem.length) (hb : qe3 ops.toList 0 = true) (hc : q0q init = c) (hla : qti (q3n ops.toList []) init.length = true)
 (h : q3f P T L ops init 0 s.mem.length [] (.ops ops [last] :: k) { s with mem := s.mem ++ List.replicate c .gone } K) : qa6 P T L (.region id ops true) k s K := by
 subst hc
 have hsz : ops.size = init.length + 1 := by have := congrArg List.length hops; simpa using this
 unfold qa6
 intro F n hF Hd B ι a w hB hR Q hn
 have hdrop : ops.toList.drop 0 = init ++ [last] := by rw [z17]; exact hops
 obtain ⟨l, s', hr, hx, hok, hK⟩ := qjz (N := s.mem.length) (s0 := { s with mem := s.mem ++ List.replicate (q0q init) .gone }) (tl := [last]) init 0 s.mem.length [] _ h hdrop (z00 _) (by simp [q0q]) rfl rfl
 have hx : l.map Ent.i = List.range init.length := by rw [hx, hsz]; rfl
 refine wpIn_region_any hm ?_
 obtain ⟨hR1, hE1⟩ := hR.places (L := L) (w' := { w with drawn := w.drawn + 1 }) (q0q init) rfl rfl rfl rfl
 have hlen : l.length = init.length := by
  have := congrArg List.length hx
  simpa using this
 have hmsp := (qex ops.toList []).2
 have hlast : ops[init.length]? = some last := by
  have : ops.toList[init.length]? = some last := by rw [hops]; simp
  simpa using this
 have hback : ∀ j o, ops[j]? = some o → ∀ e ∈ o.after, Region.binds .any e = true → e.on < j := by
  intro j o ho e he hbi
  have := qdl hb j o (by simpa using ho) e (by simpa using he) hbi
  omega
 rw [hsz]
 refine qum (nids := fun i => s.mem.length + q0q (ops.toList.take i)) hT hF (s' := s') (N := s.mem.length + q0q init) (ms := q3n ops.toList []) hsz ?_ hback ?_ ?_ init.length l _ hlen hr (by simp) ?_ ?_ (by simp [hsz]) (qc7 hx) ?_ (qey hok) ?_ hR1 ?_
 · intro p hp
   exact z0l.1 hla p (by simpa using hp)
 · intro j o ho p hp
   obtain ⟨e, h1, h2⟩ := hmsp j o (by simpa using ho) p (by simpa using hp)
   exact ⟨e, by simpa using h1, h2⟩
 · intro i o ho hnew
   have hil := (z1t.1 ho).1
   by_cases hi : i = init.length
   · subst hi
     rw [hlast] at ho
     cases ho
     rw [hnl] at hnew
     cases hnew
   · have hii : i < init.length := by omega
     have e0 : ∀ q, q ≤ init.length → ops.toList.take q = init.take q := fun q hq => by rw [hops, z0x hq]
     have hoi : init[i]? = some o := by
      have : ops.toList[i]? = some o := by simpa using ho
      rw [hops, z0j hii] at this
      exact this
     have h1 := q7t (l := init) (i := i) hoi
     rw [if_pos hnew] at h1
     have h2 := qia init (i + 1)
     simp only [e0 i (by omega)]
     exact ⟨by omega, by omega⟩
 · intro i hi
   rw [hx]
   simp [hi, show i < init.length + 1 by omega]
 · simp
 · intro e he
   have : e.i ∈ l.map Ent.i := z1b.2 ⟨e, he, rfl⟩
   rw [hx] at this
   simpa using this
 · intro f hf hnf
   rw [hx] at hnf
   simp at hnf
   omega
 · intro listed ι' a' w' q1 q2 q3 r1 r2
   refine ⟨fun hnil => ?_, fun j hj => ?_⟩
   · exfalso
     have : init.length ∈ Region.ready .any ops listed := mem_ready.2 ⟨q2, last, hlast, fun ed hed hbi => by
      have hon := hback _ _ hlast ed hed hbi
      have h0 := q1 ed.on hon
      have hs : ed.on < listed.size := by omega
      simpa [hs] using h0⟩
     rw [hnil] at this
     cases this
   · obtain ⟨h1, o, ho, -⟩ := mem_ready.1 hj
     have hjs := (z1t.1 ho).1
     have hj0 : j = init.length := by
      apply z2s (by omega)
      apply z1x
      intro hlt
      rw [q1 j hlt] at h1
      cases h1
     subst hj0
     rw [hlast] at ho
     cases ho
     have hK' := q5p hT [last] s' _ hK
     simp only [q72, hg] at hK'
     unfold wpOpIn
     rw [hlast]
     simp only
     rw [if_pos (by simp [Region.wanted, hg])]
     refine q47 (L := L) hT hF r1 hK' (fun x y s2 ι2 w2 g1 g2 g3 g4 => ?_)
     refine ⟨?_, hn .normal _ ι2 _ w2 g4 (g2.put last.dst g1) (hE1.trans (r2.trans g3))⟩
     refine z45.2 fun j hj => ?_
     obtain ⟨h1, o, ho, -⟩ := mem_ready.1 hj
     have hjs := (z1t.1 ho).1
     by_cases hji : j = init.length
     · subst hji
       simp [q3, hsz] at h1
     · rw [getD_set_ne true (fun e => hji e.symm), q1 j (by omega)] at h1
       cases h1
