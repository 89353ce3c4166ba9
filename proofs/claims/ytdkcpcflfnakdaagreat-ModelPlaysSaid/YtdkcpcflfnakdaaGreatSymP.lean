/- A text of the walk that proves a law of this seat; joined by a program. -/
import Derived.Test.YtdkcpcflfnakdaaGreatSymO
set_option linter.unusedSimpArgs false
set_option linter.unusedVariables false
namespace Go.Proofs.YtdkcpcflfnakdaaGreat.Sym
open Go Go.RowKit
variable {L : Nat} {Hd : Nat → Prop}
variable {B sz : Nat} {C : Prop} {P : Program} {T : TypeId → Option TI} {a : Act} {p x y : AV} {s s' s2 : St} {t : TypeId} {w : World} {ι : Loc}
theorem qsu (e : qcm T t p s = some (C, x, s')) (h : ∀ b ∈ q11 p, s2.mem[b]? = s.mem[b]?) :
 s' = s ∧ qcm T t p s2 = some (C, x, s2) := by
 unfold qcm at e ⊢
 cases hT : T t with
 | none => rw [hT] at e; cases e
 | some ti =>
  rw [hT] at e
  simp only at e ⊢
  cases p with
  | rp cs => cases e; exact ⟨rfl, rfl⟩
  | ptr b c =>
   have hb := h b (by simp [q11])
   simp only at e ⊢
   rw [hb]
   split at e <;> try (cases e; done)
   rename_i hm
   cases e
   exact ⟨rfl, rfl⟩
  | ep b sz i c =>
   have hb := h b (by simp [q11])
   simp only at e ⊢
   rw [hb]
   split at e <;> try (cases e; done)
   rename_i hm
   cases e
   exact ⟨rfl, rfl⟩
  | _ => cases e
theorem qh5 (e : q6j T t p s = some (C, x, s')) (h : ∀ b ∈ q11 p, s2.mem[b]? = s.mem[b]?) :
 s' = s ∧ q6j T t p s2 = some (C, x, s2) := by
 unfold q6j at e ⊢
 cases p with
 | ep b sz i c =>
  have hb := h b (by simp [q11])
  simp only at e ⊢
  rw [hb]
  split at e <;> try (cases e; done)
  rename_i hm
  split at e <;> try (cases e; done)
  rename_i ht
  cases e
  exact ⟨rfl, rfl⟩
 | _ => cases e
theorem qt0 (e : q6j T t p s = none) (h : ∀ b ∈ q11 p, s2.mem[b]? = s.mem[b]?) : q6j T t p s2 = none := by
 cases hg : q6j T t p s2 with
 | none => rfl
 | some q =>
  obtain ⟨C, x, s'⟩ := q
  have := (qh5 (s2 := s) hg (fun b hb => (h b hb).symm)).2
  rw [e] at this; cases this
theorem qif (e : qd5 T t p s = some (C, x, s')) (h : ∀ b ∈ q11 p, s2.mem[b]? = s.mem[b]?) :
 s' = s ∧ qd5 T t p s2 = some (C, x, s2) := by
 unfold qd5 at e ⊢
 split at e
 · rename_i r hr
   cases e
   obtain ⟨h1, h2⟩ := qh5 hr h
   rw [h2]
   exact ⟨h1, rfl⟩
 · rename_i hr
   rw [qt0 hr h]
   exact qsu e h
theorem qpk (h : ∀ b ∈ q11 p, s2.mem[b]? = s.mem[b]?) : qe1 T t p y s2 = qe1 T t p y s := by
 unfold qe1
 cases T t with
 | none => rfl
 | some ti =>
  simp only
  cases p with
  | ptr b c => simp only [h b (by simp [q11])]
  | ep b sz i c => simp only [h b (by simp [q11])]
  | _ => rfl
theorem qg5 (h : ∀ b ∈ q11 y, s2.mem[b]? = s.mem[b]?) : q6l s2 y sz = q6l s y sz := by
 unfold q6l
 cases y with
 | own b sz' off len => simp only [h b (by simp [q11])]
 | v x =>
  cases x with
  | slice a n c => cases a <;> cases n <;> rfl
  | _ => rfl
 | _ => rfl
theorem qgm {u : TypeId} (e : q7d T t u p s = some (C, x, s')) (h : ∀ b ∈ q11 p, s2.mem[b]? = s.mem[b]?) :
 s' = s ∧ q7d T t u p s2 = some (C, x, s2) := by
 unfold q7d at e ⊢
 cases hf : q5t T t u p s with
 | some r =>
  rw [hf] at e
  obtain ⟨C', x', s1⟩ := r
  cases e
  obtain ⟨rfl, h2⟩ := qgv s _ _ _ hf
  exact ⟨rfl, by rw [h2 s2]⟩
 | none =>
  rw [hf] at e
  have hn : q5t T t u p s2 = none := by
   cases hf2 : q5t T t u p s2 with
   | none => rfl
   | some r =>
    obtain ⟨C', x', s1⟩ := r
    have := (qgv s2 _ _ _ hf2).2 s
    rw [hf] at this; cases this
  rw [hn]
  simp only at e ⊢
  unfold qgw at e ⊢
  split at e <;> try (cases e; done)
  split at e <;> try (cases e; done)
  split at e <;> try (cases e; done)
  rw [qg5 h]
  split at e <;> try (cases e; done)
  cases e
  exact ⟨rfl, rfl⟩
theorem qo3 {ts : List TypeId} (h : ∀ b ∈ q11 x ++ q11 y, s2.mem[b]? = s.mem[b]?) : q9l T L ts x y s2 = q9l T L ts x y s := by
 have hx : ∀ b ∈ q11 x, s2.mem[b]? = s.mem[b]? := fun b hb => h b (by simp [hb])
 have hy : ∀ sz, q6l s2 y sz = q6l s y sz := fun sz => qg5 (fun b hb => h b (by simp [hb]))
 unfold q9l
 split <;> try rfl
 split <;> try rfl
 split <;> try rfl
 split <;> try rfl
 rw [hy]
 split <;> try rfl
 split <;> try rfl
 rename_i b sz len
 rw [hx b (by simp [q11])]
theorem qqw (h : ∀ b ∈ q11 y, s2.mem[b]? = s.mem[b]?) : q7j s2 y sz = q7j s y sz := by
 unfold q7j
 cases y with
 | own b sz' off len => simp only [h b (by simp [q11])]
 | v x =>
  cases x with
  | slice a n c => cases n <;> rfl
  | _ => rfl
 | _ => rfl
theorem qml {ts : List TypeId} (h : ∀ b ∈ q11 x ++ q11 y, s2.mem[b]? = s.mem[b]?) : q9y T ts x y s2 = q9y T ts x y s := by
 have hx : ∀ b ∈ q11 x, s2.mem[b]? = s.mem[b]? := fun b hb => h b (by simp [hb])
 have hy : ∀ sz, q7j s2 y sz = q7j s y sz := fun sz => qqw (fun b hb => h b (by simp [hb]))
 unfold q9y
 split <;> try rfl
 split <;> try rfl
 split <;> try rfl
 split <;> try rfl
 rw [hy]
 split <;> try rfl
 split <;> try rfl
 rename_i b sz len
 rw [hx b (by simp [q11])]
theorem qsr {k : Nat} (h : ∀ b ∈ q11 y, s2.mem[b]? = s.mem[b]?) : qag s2 y sz k = qag s y sz k := by
 unfold qag
 cases y with
 | own b sz' off len => simp only [h b (by simp [q11])]
 | v x =>
  cases x with
  | slice a n c => cases n <;> rfl
  | _ => rfl
 | _ => rfl
theorem qt4 (h : ∀ b ∈ q11 x ++ q11 y, s2.mem[b]? = s.mem[b]?) : qhl T t x y s2 = qhl T t x y s := by
 have hx : ∀ b ∈ q11 x, s2.mem[b]? = s.mem[b]? := fun b hb => h b (by simp [hb])
 have hy : ∀ sz k, qag s2 y sz k = qag s y sz k := fun sz k => qsr (fun b hb => h b (by simp [hb]))
 unfold qhl
 split <;> try rfl
 split <;> try rfl
 split <;> try rfl
 split <;> try rfl
 rename_i b sz off len
 rw [hy, hx b (by simp [q11])]
theorem qss {o : Op} (h : ∀ y ∈ o.operands.toList, s2.ev y = s.ev y) (hm : ∀ b ∈ q3t o s, s2.mem[b]? = s.mem[b]?) : q3t o s2 = q3t o s := by
 revert hm
 unfold q3t
 split <;> intro hm
 · rename_i t y; rw [h y (by simp [Op.operands])]
 · rename_i t u y; rw [h y (by simp [Op.operands])]
 · rename_i t p y; rw [h p (by simp [Op.operands])]
 · rename_i args ts
   split <;> try rfl
   rename_i y z ha
   rw [h y (by simp [Op.operands, Call.operands, ha]), h z (by simp [Op.operands, Call.operands, ha])]
 · rename_i args ts
   split <;> try rfl
   rename_i y z ha
   rw [h y (by simp [Op.operands, Call.operands, ha]), h z (by simp [Op.operands, Call.operands, ha])]
 · rename_i f args ts
   rw [h f (by simp [Op.operands, Call.operands]), q8d (s := s) (s2 := s2) (fun y hy => h y (by simp [Op.operands, Call.operands]; exact .inr (by simpa using hy)))]
   congr 1
   cases hv : s.ev f with
   | fn g caps =>
    unfold qhw
    simp only
    split
    · rename_i hw
      have : s2.mem = s.mem := qfo fun b hb => hm b (z54 _ (by rw [hv]; unfold qhw; simp only; rw [if_pos hw]; exact hb))
      rw [this]
    · rfl
   | _ => rfl
 · rfl
theorem qsx {nid : Nat} {o : Op} {r : Prop × AV × Wr} (h : ∀ y ∈ o.operands.toList, s2.ev y = s.ev y) (hm : ∀ b ∈ q3t o s, s2.mem[b]? = s.mem[b]?) (e : q8j P T L nid o s = some r) : q8j P T L nid o s2 = some r := by
 unfold q8j at e ⊢
 by_cases hf : q7g o = true
 · rw [if_pos hf] at e ⊢
   cases hs : q2i P T L o s with
   | none => rw [hs] at e; cases e
   | some q =>
    obtain ⟨C, x, s'⟩ := q
    rw [hs] at e
    rw [(qkg hf hs).2 s2 h]
    exact e
 · rw [if_neg hf] at e ⊢
   split at e <;> try (cases e; done)
   · rename_i t y
     cases hs : qd5 T t (s.ev y) s with
     | none => rw [hs] at e; cases e
     | some q =>
      obtain ⟨C, x, s'⟩ := q
      rw [hs] at e
      rw [h y (by simp [Op.operands]), (qif hs (fun b hb => hm b (by simpa [q3t] using hb))).2]
      exact e
   · rename_i t u y
     cases hs : q7d T t u (s.ev y) s with
     | none => rw [hs] at e; cases e
     | some q =>
      obtain ⟨C, x, s'⟩ := q
      rw [hs] at e
      rw [h y (by simp [Op.operands]), (qgm hs (fun b hb => hm b (by simpa [q3t] using hb))).2]
      exact e
   · rename_i t p y
     rw [h p (by simp [Op.operands]), h y (by simp [Op.operands]), qpk (s := s) (fun b hb => hm b (by simpa [q3t] using hb))]
     exact e
   · rename_i t
     exact e
   · rename_i t len parts
     have : q65 T nid t len parts.toList s2 = q65 T nid t len parts.toList s := by
      unfold q65
      rw [qb4 (s := s) (fun y hy => h y (by simpa [Op.operands] using hy))]
     rw [this]; exact e
   · rename_i args ts
     split at e <;> try (cases e; done)
     rename_i y z ha
     rw [h y (by simp [Op.operands, Call.operands, ha]), h z (by simp [Op.operands, Call.operands, ha]), qo3 (s := s) (fun b hb => hm b (by simpa [q3t, ha] using hb)), qml (s := s) (fun b hb => hm b (by simpa [q3t, ha] using hb))]
     exact e
   · rename_i args ts
     split at e <;> try (cases e; done)
     rename_i y z t t2 ha hts
     rw [h y (by simp [Op.operands, Call.operands, ha]), h z (by simp [Op.operands, Call.operands, ha]), qt4 (s := s) (fun b hb => hm b (by simpa [q3t, ha] using hb))]
     exact e
theorem Rel.movedTo (h : Rel Hd B ι s a w) {b : Nat} {blk : AB} {o : Obj} (hb : b < ι.length) (hL : L ≤ b) (hm : Ext L ι w (ι.set b (some w.heap.size)) (w.alloc o) → q2j Hd (ι.set b (some w.heap.size)) (w.alloc o) b blk) :
 Rel Hd B (ι.set b (some w.heap.size)) (s.rehome b blk) a (w.alloc o) ∧ Ext L ι w (ι.set b (some w.heap.size)) (w.alloc o) := by
 have hold : ∀ r, r < w.heap.size → (w.alloc o).heap[r]? = w.heap[r]? := fun r hr => z3a w _ r hr
 have hmem : ∀ r : Nat, some r ∈ ι.set b (some w.heap.size) → some r ∈ ι ∨ r = w.heap.size := fun r hr => by
  rcases z1z hr with hr | hr
  · exact .inl hr
  · exact .inr (by simpa using hr)
 have ee : Ext L ι w (ι.set b (some w.heap.size)) (w.alloc o) := by
  refine ⟨rfl, rfl, rfl, by simp, fun r hr hn => ⟨fun hh => ?_, hold r hr⟩, (fun r hr => by simp only [World.shape?, hold r hr]), (fun b' o' hb' ho => by rw [z0e (by omega)]; exact ho)⟩
  rcases hmem r hh with hh | hh
  · exact hn hh
  · omega
 have hk : ∀ (b' : Nat) (o' : Option Nat), b' ≠ b → ι[b']? = some o' → (ι.set b (some w.heap.size))[b']? = some o' := fun b' o' hne ho => by
  rw [z0e (z37 hne)]; exact ho
 refine ⟨h.rehome ee (by simp) hk ?_ ?_ (fun i r _ hi => hold r (h.lt r (z06 hi))) (hm ee), ee⟩
 · intro r hr
   rcases hmem r hr with hr | rfl
   · exact z10 (h.lt r hr) ee.size
   · simp
 · intro i j r hi hj
   have key : ∀ k : Nat, (ι.set b (some w.heap.size))[k]? = some (some r) → (k = b ∧ r = w.heap.size) ∨ (k ≠ b ∧ ι[k]? = some (some r) ∧ r < w.heap.size) := by
    intro k hk
    by_cases c : b = k
    · subst c
      rw [z0m hb] at hk
      simp at hk
      exact .inl ⟨rfl, hk.symm⟩
    · rw [z0e c] at hk
      exact .inr ⟨fun hh => c hh.symm, hk, h.lt r (z06 hk)⟩
   rcases key i hi with ⟨h1, h2⟩ | ⟨h1, h2, h3⟩ <;> rcases key j hj with ⟨h4, h5⟩ | ⟨h4, h5, h6⟩
   · omega
   · omega
   · omega
   · exact h.inj i j r h2 h5
theorem Rel.foreign (h : Rel Hd B ι s a w) (o : Obj) : Rel Hd B ι s a (w.alloc o) ∧ ∀ L, Ext L ι w ι (w.alloc o) := by
 have hold : ∀ r, r < w.heap.size → (w.alloc o).heap[r]? = w.heap[r]? := fun r hr => z3a w _ r hr
 have ee : ∀ L, Ext L ι w ι (w.alloc o) := fun L => ⟨rfl, rfl, rfl, by simp, fun r hr hn => ⟨hn, hold r hr⟩, fun r hr => by simp only [World.shape?, hold r hr], fun _ _ _ h => h⟩
 exact ⟨⟨h.len, fun r hr => z10 (h.lt r hr) (ee 0).size, h.inj, h.ext_tmps (ee 0) (fun _ _ x => x), fun i blk hi => q3o (ee 0) h.lt (fun _ _ x => x) (fun r hr => hold r (h.lt r (z06 hr))) (h.mem i blk hi),
  h.marks.ext (ee 0), h.hidExt (ee 0), h.glob.ext (ee 0)⟩, ee⟩
theorem qb8 (hT : TyOk P T) (h : Rel Hd B ι s a w) {e : TypeId} {ti te : TI} {len : Nat} {parts : Array (Nat × Operand)} (ht : T t = some ti) (hd : ti.desc = .slice e) (hte : T e = some te) (hzo : te.zeroOk = true) (hbig : len * te.size ≤ 16777216) (hok : q9i len te.size (q2b s parts.toList)) :
 ∃ vs', (Instr.buildSlice t len (parts.map fun (i, x) => (i, a.eval x))).run P w = .ok (.slice (some ⟨w.heap.size, 0, none⟩) len len) (w.alloc (.cells (q04 vs').toArray e)) ∧
  rels Hd ι w (q3w (List.replicate len te.zav) (q2b s parts.toList)) vs' ∧ vs'.length = len ∧ (∀ v ∈ vs', v.cells.size = te.size) ∧ (∀ u ∈ q04 vs', u.oneCell' = true) ∧
  q05 (q3w (List.replicate len te.zav) (q2b s parts.toList)) = [] := by
 rw [qbe] at hok ⊢
 obtain ⟨z, hz, hzc⟩ := q3x hT hte w
 have hzl : te.zero.length = te.size ∧ 0 < te.size := by
  have := hzo
  simp only [TI.zeroOk, z0d, decide_eq_true_eq] at this; exact ⟨this.1.1.1, this.1.1.2⟩
 have hvs : te.zval.cells.size = te.size := by rw [← hzl.1, ← q4u hzo]; simp
 have hall : ∀ v ∈ List.replicate len te.zval, v.cells.size = te.size := by
  intro v hv; rw [z1h hv]; exact hvs
 have hflat : ∀ u ∈ q04 (List.replicate len te.zval), u.oneCell' = true := by
  intro u hu
  obtain ⟨v, hv, hu'⟩ := z27.1 hu
  rw [z1h hv, q4u hzo] at hu'
  have := hzo
  simp only [TI.zeroOk, z0d, z0l] at this
  exact this.1.2 u hu'
 have hfst : (parts.toList.map fun (i, x) => (i, s.ev x)).map Prod.fst = ((parts.map fun (i, x) => (i, a.eval x)).toList).map Prod.fst := by simp [z3m]
 have hsnd : rels Hd ι w ((parts.toList.map fun (i, x) => (i, s.ev x)).map Prod.snd) (((parts.map fun (i, x) => (i, a.eval x)).toList).map Prod.snd) := by
  simp only [z52, z3f, z3m]
  generalize parts.toList = l
  induction l with
  | nil => rfl
  | cons p l ih => exact ⟨_, _, rfl, h.ev _, ih⟩
 have hrep : rels Hd ι w (List.replicate len te.zav) (List.replicate len te.zval) := by
  clear hok hall hflat hbig
  induction len with
  | zero => rfl
  | succ n ih => exact ⟨_, _, rfl, qmd, ih⟩
 have hrefs : q05 (List.replicate len te.zav) = [] := by
  rw [q0x]; intro x hx; rw [z1h hx]; exact qjk
 obtain ⟨vs', q1, q2, q3, q4, q5, q6⟩ := qfm (sz := te.size) (len := len) _ _ _ _ hrep (by simp) hall hflat hrefs hfst hsnd hok
 refine ⟨vs', ?_, q2, q3, q4, q5, q6⟩
 simp only [Instr.buildSlice, z0s, run_underlying hT ht, z0b, hd, q10 hT hte]
 rw [if_neg (by omega)]
 by_cases h0 : len * te.size = 0
 · rw [if_pos h0]
   simp only [z0s, z15, z0b]
   have hn : len = 0 := by
    rcases Nat.mul_eq_zero.1 h0 with h | h
    · exact h
    · omega
   have e0 : (Array.range (len * te.size)).map ((#[] : Array Value)[· % (#[] : Array Value).size]!) = (q04 (List.replicate len te.zval)).toArray := by
    rw [hn]; simp [q04]
   rw [e0, q1]
   simp only [newRow, z0s, run_newObj, z0b, z15]
   rfl
 · rw [if_neg h0]
   simp only [z0s, hz, z15, z0b]
   rw [q8y hzo hzc, q1]
   simp only [newRow, z0s, run_newObj, z0b, z15]
   rfl
theorem qrv {F : Fence} {n : Nat} (hT : TyOk P T) {next : Act → World → Prop} {Q : Exit → Act → World → Prop} {o : Oper} {nid : Nat} {wr : Wr} (hF : Wide F) (h : Rel Hd B ι s a w) (hnew : q4g o.op = true → L ≤ nid ∧ nid < s.mem.length) (e : q8j P T L nid o.op s = some (C, x, wr)) (hC : C) (hn : ∀ y ι' w', rel Hd ι' w' x y → Rel Hd B ι' (s.app wr) a w' → Ext L ι w ι' w' → next (a.put o.dst y) w') : o.wpIn F n P a w next Q := by
 have plain : q2i P T L o.op s = some (C, x, s.app wr) → o.wpIn F n P a w next Q := by
  intro hf
  refine q47 hT hF h (K := fun x' s' => x' = x ∧ s' = s.app wr) (.inl (qgl hT hf hC ⟨rfl, rfl⟩)) ?_
  rintro x' y s' ι' w' h1 h2 h3 ⟨rfl, rfl⟩
  exact hn y ι' w' h1 h2 h3
 unfold q8j at e
 by_cases hfr : q7g o.op = true
 · rw [if_pos hfr] at e
   cases hs : q2i P T L o.op s with
   | none => rw [hs] at e; cases e
   | some q =>
    obtain ⟨C', x', s'⟩ := q
    rw [hs] at e
    cases e
    obtain ⟨rfl, _⟩ := qkg hfr hs
    exact plain hs
 · rw [if_neg hfr] at e
   split at e <;> try (cases e; done)
   · rename_i t y ho
     cases hs : qd5 T t (s.ev y) s with
     | none => rw [hs] at e; cases e
     | some q =>
      obtain ⟨C', x', s'⟩ := q
      rw [hs] at e
      cases e
      obtain ⟨rfl, _⟩ := qif (s2 := s) hs (fun _ _ => rfl)
      unfold qd5 at hs
      split at hs
      · rename_i r hr
        cases hs
        refine q47 (L := L) hT hF h (K := fun x2 s2 => x2 = _ ∧ s2 = St.app _ none) (.inr (.inl ⟨_, _, _, (by rw [ho]; exact hr), hC, rfl, rfl⟩)) ?_
        rintro x2 y2 s2 ι' w' h1 h2 h3 ⟨rfl, rfl⟩
        exact hn y2 ι' w' h1 h2 h3
      · exact plain (by rw [ho]; exact hs)
   · rename_i t u y ho
     cases hs : q7d T t u (s.ev y) s with
     | none => rw [hs] at e; cases e
     | some q =>
      obtain ⟨C', x', s'⟩ := q
      rw [hs] at e
      cases e
      obtain ⟨rfl, _⟩ := qgm (s2 := s) hs (fun _ _ => rfl)
      exact plain (by rw [ho]; exact hs)
   · rename_i t p y ho
     refine plain ?_
     rw [ho]
     show qe2 T t (s.ev p) (s.ev y) s = _
     unfold qe1 at e
     unfold qe2
     split at e <;> try (cases e; done)
     rename_i ti hti
     split at e <;> try (cases e; done)
     · rename_i b c hp
       split at e <;> try (cases e; done)
       rename_i cs hm
       cases e
       simp only [hti, hp, hm, St.app]
     · rename_i b sz i c hp
       split at e <;> try (cases e; done)
       rename_i t' sz' xs hm
       cases e
       first | (simp only [hti, hp, hm, St.app]; done) | (simp only [hti, hp, hm, St.app]; rfl)
   · rename_i t ho
     obtain ⟨hnL, hnm⟩ := hnew (by rw [ho]; rfl)
     have hni : nid < ι.length := by rw [h.len]; exact hnm
     split at e <;> try (cases e; done)
     rename_i ti ht
     cases e
     obtain ⟨z, hz, hz2⟩ := q3x hT ht w
     obtain ⟨hR, hE⟩ := h.movedTo (L := L) (o := .cells z.cells t) (blk := .box (ti.zero.map .v)) hni hnL (fun ee =>
      ⟨w.heap.size, t, z.cells, by rw [z0m hni], heap_alloc_new w _, by rw [hz2]; exact qar.2 rfl⟩)
     refine q0b (K := fun x' s' => x' = .ptr nid 0 ∧ s' = s.rehome nid (.box (ti.zero.map .v))) hF (by rw [ho]; simp) (m := Instr.alloc t true (.tuple #[])) (by simp [execOp, ho])
      ⟨_, .pointer (some ⟨w.heap.size, 0, none⟩), w.alloc (.cells z.cells t), _, .ptr nid 0, _, ?_, rfl, ⟨w.heap.size, rfl, by rw [z0m hni]⟩, hR, hE, rfl, rfl⟩ ?_
     · simp only [Instr.alloc, z0s, hz, z0b, newVar, newRow, run_newObj, z15]
       rfl
     · rintro x' y s' ι' w' h1 h2 h3 ⟨rfl, rfl⟩
       exact hn y ι' w' h1 h2 h3
   · rename_i t len parts ho
     unfold q65 at e
     split at e <;> try (cases e; done)
     rename_i ti ht
     split at e <;> try (cases e; done)
     rename_i el hd
     split at e <;> try (cases e; done)
     rename_i te hte
     split at e
     · cases e
       obtain ⟨hnL, hnm⟩ := hnew (by rw [ho]; rfl)
       have hni : nid < ι.length := by rw [h.len]; exact hnm
       obtain ⟨hzo, hp0⟩ := hC
       have hpe : q2b s parts.toList = [] := by rw [z1a hp0]; rfl
       obtain ⟨vs', hrun, q2, q3, q4, q5, q6⟩ := qb8 (len := 0) (parts := parts) hT h ht hd hte hzo (by simp) (by rw [hpe]; exact True.intro)
       obtain rfl : vs' = [] := z1a q3
       obtain ⟨hR, hE⟩ := h.movedTo (L := L) (o := .cells (q04 []).toArray el) (blk := .row el te.size []) hni hnL (fun ee =>
        ⟨rfl, .inl ⟨w.heap.size, _, [], by rw [z0m hni], heap_alloc_new w _, rfl, (fun v hv => by cases hv), (fun i hi => by simp [q04] at hi), (fun u hu => by simp [q04] at hu)⟩⟩)
       refine q0b (K := fun x' s' => x' = .own nid te.size 0 0 ∧ s' = s.rehome nid (.row el te.size [])) hF (by rw [ho]; simp) (by simp [execOp, ho])
        ⟨_, _, _, _, .own nid te.size 0 0, _, hrun, rfl, .inl ⟨w.heap.size, 0, 0, el, by simp, z09 _, by simp [maxLen], by rw [z0m hni], ?_, by simp⟩, hR, hE, rfl, rfl⟩ ?_
       · have hhh : (w.alloc (.cells (q04 []).toArray el)).heap[w.heap.size]? = _ := heap_alloc_new w _
         simp only [World.shape?, hhh]
         rfl
       · rintro x' y s' ι' w' h1 h2 h3 ⟨rfl, rfl⟩
         exact hn y ι' w' h1 h2 h3
     · rename_i m
       cases e
       obtain ⟨hzo, hbig, hok⟩ := hC
       obtain ⟨vs', hrun, q2, q3, q4, q5, q6⟩ := qb8 (len := m + 1) (parts := parts) hT h ht hd hte hzo hbig hok
       obtain ⟨hR, hE⟩ := h.foreign (.cells (q04 vs').toArray el)
       have hl := q0h q2
       refine q0b (K := fun x' s' => x' = .sl te.size (q3w (List.replicate (m + 1) te.zav) (q2b s parts.toList)) ∧ s' = s) hF (by rw [ho]; simp) (by simp [execOp, ho])
        ⟨_, _, _, ι, .sl te.size (q3w (List.replicate (m + 1) te.zav) (q2b s parts.toList)), s, hrun, rfl, ⟨q6, some ⟨w.heap.size, 0, none⟩, m + 1, vs', ?_, ?_, q0l (hE 0) h.lt _ _ (fun b hb => by rw [q6] at hb; cases hb) q2, .inr ⟨w.heap.size, 0, rfl, ⟨by simp, fun hh => ?_, fun hh => ?_⟩, q4, ?_, q5⟩⟩, hR, hE L, rfl, rfl⟩ ?_
       · rw [hl, q3]
       · rw [hl, q3]; exact z09 _
       · have := h.lt _ hh; omega
       · have := (h.hid _ hh).1; omega
       · have := q1x (heap_alloc_new w (.cells (q04 vs').toArray el))
         simpa using this
       · rintro x' y s' ι' w' h1 h2 h3 ⟨rfl, rfl⟩
         exact hn y ι' w' h1 h2 h3
   · rename_i args ts ho
     split at e <;> try (cases e; done)
     rename_i y z ha
     cases hda : q9l T L ts.toList (s.ev y) (s.ev z) s with
     | none =>
      rw [hda] at e
      simp only at e
      unfold q9y at e
      split at e <;> try (cases e; done)
      rename_i t t' hts
      split at e <;> try (cases e; done)
      rename_i ti hti
      split at e <;> try (cases e; done)
      rename_i el hd
      split at e <;> try (cases e; done)
      rename_i te hte
      split at e <;> try (cases e; done)
      rename_i c ys hys
      split at e <;> try (cases e; done)
      rename_i b sz len hev
      split at e <;> try (cases e; done)
      rename_i e' sz' xs N hm
      cases e
      obtain ⟨rfl, hc, hzo, ⟨rfl, rfl, rfl, hlx⟩, hN⟩ := hC
      refine q47 (L := L) hT hF h (K := fun x' s' => x' = .own b te.size 0 (len + ys.length) ∧ s' = s.app (some (b, .rowc e' te.size (q2w xs len ys) N, false))) (.inr (.inr (.inl ⟨t' = t' ∧ c ∧ te.zeroOk = true ∧ e' = e' ∧ te.size = te.size ∧ te.size = te.size ∧ len ≤ xs.length, _, _, ?_, ?_, rfl, rfl⟩))) ?_
      · rw [ho]
        simp only [qew, ha, qe7, hts, hti, hd, hte, hys, gapp, hev, hm]
        rw [if_pos hN]
        rfl
      · exact ⟨rfl, hc, hzo, rfl, rfl, rfl, hlx⟩
      · rintro x' y' s' ι' w' h1 h2 h3 ⟨rfl, rfl⟩
        exact hn y' ι' w' h1 h2 h3
     | some r =>
     rw [hda] at e
     simp only at e
     rw [e] at hda
     clear e
     rename_i e0
     have e := hda
     refine plain ?_
     rw [ho]
     show (match args.toList with | [x, y] => qbt T L ts.toList (s.ev x) (s.ev y) s | _ => none) = _
     rw [ha]
     simp only
     unfold q9l at e
     unfold qbt
     split at e <;> try (cases e; done)
     split at e <;> try (cases e; done)
     split at e <;> try (cases e; done)
     split at e <;> try (cases e; done)
     split at e <;> try (cases e; done)
     split at e <;> try (cases e; done)
     split at e <;> try (cases e; done)
     rename_i hm
     cases e
     simp only [*, St.app]
   · rename_i args ts ho
     split at e <;> try (cases e; done)
     rename_i y z t t2 ha hts
     unfold qhl at e
     split at e <;> try (cases e; done)
     rename_i ti hti
     split at e <;> try (cases e; done)
     rename_i el hd
     split at e <;> try (cases e; done)
     rename_i te hte
     split at e <;> try (cases e; done)
     rename_i b sz off len hev
     split at e <;> try (cases e; done)
     rename_i c ys hys
     split at e <;> try (cases e; done)
     · rename_i t' sz' xs hm
       cases e
       refine q47 (L := L) hT hF h (K := fun x' s' => x' = .v (.int .i64 ys.length) ∧ s' = s.app (some (b, .row t' sz' (q2w xs off ys), false))) (.inr (.inr (.inl ⟨_, _, _, ?_, hC, rfl, rfl⟩))) ?_
       · rw [ho]
         simp only [qew, ha, hts, qhm, hti, hd, hte, hys, hev, hm]
         rfl
       · rintro x' y' s' ι' w' h1 h2 h3 ⟨rfl, rfl⟩
         exact hn y' ι' w' h1 h2 h3
     · rename_i t' sz' xs N hm
       cases e
       refine q47 (L := L) hT hF h (K := fun x' s' => x' = .v (.int .i64 ys.length) ∧ s' = s.app (some (b, .rowc t' sz' (q2w xs off ys) N, false))) (.inr (.inr (.inl ⟨_, _, _, ?_, hC, rfl, rfl⟩))) ?_
       · rw [ho]
         simp only [qew, ha, hts, qhm, hti, hd, hte, hys, hev, hm]
         rfl
       · rintro x' y' s' ι' w' h1 h2 h3 ⟨rfl, rfl⟩
         exact hn y' ι' w' h1 h2 h3
