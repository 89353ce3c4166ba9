/- A text of the walk that proves a law of this seat; joined by a program. -/
import Derived.Test.YtdkcpcflfnakdaaGreatSymO
set_option linter.unusedSimpArgs false
set_option linter.unusedVariables false
namespace Go.Proofs.YtdkcpcflfnakdaaGreat.Sym
open Go Go.RowKit
variable {L : Nat} {Hd : Nat → Prop}
theorem fload_local {T : TypeId → Option TI} {t : TypeId} {p : AV} {s s2 s' : St} {C : Prop} {x : AV} (e : fload T t p s = some (C, x, s')) (h : ∀ b ∈ q0y p, s2.mem[b]? = s.mem[b]?) :
    s' = s ∧ fload T t p s2 = some (C, x, s2) := by
  unfold fload at e ⊢
  cases hT : T t with
  | none => rw [hT] at e; cases e
  | some ti =>
    rw [hT] at e
    simp only at e ⊢
    cases p with
    | rp cs => cases e; exact ⟨rfl, rfl⟩
    | ptr b c =>
      have hb := h b (by simp [q0y])
      simp only at e ⊢
      rw [hb]
      split at e <;> try (cases e; done)
      rename_i hm
      cases e
      exact ⟨rfl, rfl⟩
    | ep b sz i c =>
      have hb := h b (by simp [q0y])
      simp only at e ⊢
      rw [hb]
      split at e <;> try (cases e; done)
      rename_i hm
      cases e
      exact ⟨rfl, rfl⟩
    | _ => cases e
theorem gloadB_local {T : TypeId → Option TI} {t : TypeId} {p : AV} {s s2 s' : St} {C : Prop} {x : AV} (e : gloadB T t p s = some (C, x, s')) (h : ∀ b ∈ q0y p, s2.mem[b]? = s.mem[b]?) :
    s' = s ∧ gloadB T t p s2 = some (C, x, s2) := by
  unfold gloadB at e ⊢
  cases p with
  | ep b sz i c =>
    have hb := h b (by simp [q0y])
    simp only at e ⊢
    rw [hb]
    split at e <;> try (cases e; done)
    rename_i hm
    split at e <;> try (cases e; done)
    rename_i ht
    cases e
    exact ⟨rfl, rfl⟩
  | _ => cases e
theorem gloadB_none {T : TypeId → Option TI} {t : TypeId} {p : AV} {s s2 : St} (e : gloadB T t p s = none) (h : ∀ b ∈ q0y p, s2.mem[b]? = s.mem[b]?) : gloadB T t p s2 = none := by
  cases hg : gloadB T t p s2 with
  | none => rfl
  | some q =>
    obtain ⟨C, x, s'⟩ := q
    have := (gloadB_local (s2 := s) hg (fun b hb => (h b hb).symm)).2
    rw [e] at this; cases this
theorem dload_local {T : TypeId → Option TI} {t : TypeId} {p : AV} {s s2 s' : St} {C : Prop} {x : AV} (e : dload T t p s = some (C, x, s')) (h : ∀ b ∈ q0y p, s2.mem[b]? = s.mem[b]?) :
    s' = s ∧ dload T t p s2 = some (C, x, s2) := by
  unfold dload at e ⊢
  split at e
  · rename_i r hr
    cases e
    obtain ⟨h1, h2⟩ := gloadB_local hr h
    rw [h2]
    exact ⟨h1, rfl⟩
  · rename_i hr
    rw [gloadB_none hr h]
    exact fload_local e h
theorem dstore_local {T : TypeId → Option TI} {t : TypeId} {p y : AV} {s s2 : St} (h : ∀ b ∈ q0y p, s2.mem[b]? = s.mem[b]?) : dstore T t p y s2 = dstore T t p y s := by
  unfold dstore
  cases T t with
  | none => rfl
  | some ti =>
    simp only
    cases p with
    | ptr b c => simp only [h b (by simp [q0y])]
    | ep b sz i c => simp only [h b (by simp [q0y])]
    | _ => rfl
theorem felems_local {s s2 : St} {y : AV} {sz : Nat} (h : ∀ b ∈ q0y y, s2.mem[b]? = s.mem[b]?) : felems s2 y sz = felems s y sz := by
  unfold felems
  cases y with
  | own b sz' off len => simp only [h b (by simp [q0y])]
  | v x =>
    cases x with
    | slice a n c => cases a <;> cases n <;> rfl
    | _ => rfl
  | _ => rfl
theorem fconvA_local {T : TypeId → Option TI} {t u : TypeId} {p : AV} {s s2 s' : St} {C : Prop} {x : AV} (e : fconvA T t u p s = some (C, x, s')) (h : ∀ b ∈ q0y p, s2.mem[b]? = s.mem[b]?) :
    s' = s ∧ fconvA T t u p s2 = some (C, x, s2) := by
  unfold fconvA at e ⊢
  cases hf : q3s T t u p s with
  | some r =>
    rw [hf] at e
    obtain ⟨C', x', s1⟩ := r
    cases e
    obtain ⟨rfl, h2⟩ := free_convert s _ _ _ hf
    exact ⟨rfl, by rw [h2 s2]⟩
  | none =>
    rw [hf] at e
    have hn : q3s T t u p s2 = none := by
      cases hf2 : q3s T t u p s2 with
      | none => rfl
      | some r =>
        obtain ⟨C', x', s1⟩ := r
        have := (free_convert s2 _ _ _ hf2).2 s
        rw [hf] at this; cases this
    rw [hn]
    simp only at e ⊢
    unfold fconvS at e ⊢
    split at e <;> try (cases e; done)
    split at e <;> try (cases e; done)
    split at e <;> try (cases e; done)
    rw [felems_local h]
    split at e <;> try (cases e; done)
    cases e
    exact ⟨rfl, rfl⟩
theorem dappend_local {T : TypeId → Option TI} {ts : List TypeId} {x y : AV} {s s2 : St} (h : ∀ b ∈ q0y x ++ q0y y, s2.mem[b]? = s.mem[b]?) : dappend T L ts x y s2 = dappend T L ts x y s := by
  have hx : ∀ b ∈ q0y x, s2.mem[b]? = s.mem[b]? := fun b hb => h b (by simp [hb])
  have hy : ∀ sz, felems s2 y sz = felems s y sz := fun sz => felems_local (fun b hb => h b (by simp [hb]))
  unfold dappend
  split <;> try rfl
  split <;> try rfl
  split <;> try rfl
  split <;> try rfl
  rw [hy]
  split <;> try rfl
  split <;> try rfl
  rename_i b sz len
  rw [hx b (by simp [q0y])]
theorem gelems_local {s s2 : St} {y : AV} {sz : Nat} (h : ∀ b ∈ q0y y, s2.mem[b]? = s.mem[b]?) : gelems s2 y sz = gelems s y sz := by
  unfold gelems
  cases y with
  | own b sz' off len => simp only [h b (by simp [q0y])]
  | v x =>
    cases x with
    | slice a n c => cases n <;> rfl
    | _ => rfl
  | _ => rfl
theorem dappendC_local {T : TypeId → Option TI} {ts : List TypeId} {x y : AV} {s s2 : St} (h : ∀ b ∈ q0y x ++ q0y y, s2.mem[b]? = s.mem[b]?) : dappendC T ts x y s2 = dappendC T ts x y s := by
  have hx : ∀ b ∈ q0y x, s2.mem[b]? = s.mem[b]? := fun b hb => h b (by simp [hb])
  have hy : ∀ sz, gelems s2 y sz = gelems s y sz := fun sz => gelems_local (fun b hb => h b (by simp [hb]))
  unfold dappendC
  split <;> try rfl
  split <;> try rfl
  split <;> try rfl
  split <;> try rfl
  rw [hy]
  split <;> try rfl
  split <;> try rfl
  rename_i b sz len
  rw [hx b (by simp [q0y])]
theorem gtake_local {s s2 : St} {y : AV} {sz k : Nat} (h : ∀ b ∈ q0y y, s2.mem[b]? = s.mem[b]?) : gtake s2 y sz k = gtake s y sz k := by
  unfold gtake
  cases y with
  | own b sz' off len => simp only [h b (by simp [q0y])]
  | v x =>
    cases x with
    | slice a n c => cases n <;> rfl
    | _ => rfl
  | _ => rfl
theorem dcopy_local {T : TypeId → Option TI} {t : TypeId} {x y : AV} {s s2 : St} (h : ∀ b ∈ q0y x ++ q0y y, s2.mem[b]? = s.mem[b]?) : dcopy T t x y s2 = dcopy T t x y s := by
  have hx : ∀ b ∈ q0y x, s2.mem[b]? = s.mem[b]? := fun b hb => h b (by simp [hb])
  have hy : ∀ sz k, gtake s2 y sz k = gtake s y sz k := fun sz k => gtake_local (fun b hb => h b (by simp [hb]))
  unfold dcopy
  split <;> try rfl
  split <;> try rfl
  split <;> try rfl
  split <;> try rfl
  rename_i b sz off len
  rw [hy, hx b (by simp [q0y])]
theorem accOf_local {o : Op} {s s2 : St} (h : ∀ y ∈ o.operands.toList, s2.ev y = s.ev y) (hm : ∀ b ∈ accOf o s, s2.mem[b]? = s.mem[b]?) : accOf o s2 = accOf o s := by
  revert hm
  unfold accOf
  split <;> intro hm
  · rename_i t y; rw [h y (by simp [Op.operands])]
  · rename_i t u y; rw [h y (by simp [Op.operands])]
  · rename_i t p y; rw [h p (by simp [Op.operands])]
  · rename_i args ts
    split <;> try rfl
    rename_i y z ha
    rw [h y (by simp [Op.operands, Call.operands, ha]), h z (by simp [Op.operands, Call.operands, ha])]
  · rename_i args ts
    split <;> try rfl
    rename_i y z ha
    rw [h y (by simp [Op.operands, Call.operands, ha]), h z (by simp [Op.operands, Call.operands, ha])]
  · rename_i f args ts
    rw [h f (by simp [Op.operands, Call.operands]), q4g (s := s) (s2 := s2) (fun y hy => h y (by simp [Op.operands, Call.operands]; exact .inr (by simpa using hy)))]
    congr 1
    cases hv : s.ev f with
    | fn g caps =>
      unfold wideAcc
      simp only
      split
      · rename_i hw
        have : s2.mem = s.mem := mem_of_range fun b hb => hm b (List.mem_append_right _ (by rw [hv]; unfold wideAcc; simp only; rw [if_pos hw]; exact hb))
        rw [this]
      · rfl
    | _ => rfl
  · rfl
theorem dstep_local {P : Program} {T : TypeId → Option TI} {nid : Nat} {o : Op} {s s2 : St} {r : Prop × AV × Wr} (h : ∀ y ∈ o.operands.toList, s2.ev y = s.ev y) (hm : ∀ b ∈ accOf o s, s2.mem[b]? = s.mem[b]?)
    (e : dstep P T L nid o s = some r) : dstep P T L nid o s2 = some r := by
  unfold dstep at e ⊢
  by_cases hf : isFree o = true
  · rw [if_pos hf] at e ⊢
    cases hs : q1x P T L o s with
    | none => rw [hs] at e; cases e
    | some q =>
      obtain ⟨C, x, s'⟩ := q
      rw [hs] at e
      rw [(fstep_free hf hs).2 s2 h]
      exact e
  · rw [if_neg hf] at e ⊢
    split at e <;> try (cases e; done)
    · rename_i t y
      cases hs : dload T t (s.ev y) s with
      | none => rw [hs] at e; cases e
      | some q =>
        obtain ⟨C, x, s'⟩ := q
        rw [hs] at e
        rw [h y (by simp [Op.operands]), (dload_local hs (fun b hb => hm b (by simpa [accOf] using hb))).2]
        exact e
    · rename_i t u y
      cases hs : fconvA T t u (s.ev y) s with
      | none => rw [hs] at e; cases e
      | some q =>
        obtain ⟨C, x, s'⟩ := q
        rw [hs] at e
        rw [h y (by simp [Op.operands]), (fconvA_local hs (fun b hb => hm b (by simpa [accOf] using hb))).2]
        exact e
    · rename_i t p y
      rw [h p (by simp [Op.operands]), h y (by simp [Op.operands]), dstore_local (s := s) (fun b hb => hm b (by simpa [accOf] using hb))]
      exact e
    · rename_i t
      exact e
    · rename_i t len parts
      have : q45 T nid t len parts.toList s2 = q45 T nid t len parts.toList s := by
        unfold q45
        rw [evParts_congr (s := s) (fun y hy => h y (by simpa [Op.operands] using hy))]
      rw [this]; exact e
    · rename_i args ts
      split at e <;> try (cases e; done)
      rename_i y z ha
      rw [h y (by simp [Op.operands, Call.operands, ha]), h z (by simp [Op.operands, Call.operands, ha]), dappend_local (s := s) (fun b hb => hm b (by simpa [accOf, ha] using hb)), dappendC_local (s := s) (fun b hb => hm b (by simpa [accOf, ha] using hb))]
      exact e
    · rename_i args ts
      split at e <;> try (cases e; done)
      rename_i y z t t2 ha hts
      rw [h y (by simp [Op.operands, Call.operands, ha]), h z (by simp [Op.operands, Call.operands, ha]), dcopy_local (s := s) (fun b hb => hm b (by simpa [accOf, ha] using hb))]
      exact e
theorem Rel.movedTo {B : Nat} {ι : Loc} {s : St} {a : Act} {w : World} (h : Rel Hd B ι s a w) {b : Nat} {blk : AB} {o : Obj} (hb : b < ι.length) (hL : L ≤ b)
    (hm : Ext L ι w (ι.set b (some w.heap.size)) (w.alloc o) → q1w Hd (ι.set b (some w.heap.size)) (w.alloc o) b blk) :
    Rel Hd B (ι.set b (some w.heap.size)) (s.rehome b blk) a (w.alloc o) ∧ Ext L ι w (ι.set b (some w.heap.size)) (w.alloc o) := by
  have hold : ∀ r, r < w.heap.size → (w.alloc o).heap[r]? = w.heap[r]? := fun r hr => Below.heap_alloc w _ r hr
  have hmem : ∀ r : Nat, some r ∈ ι.set b (some w.heap.size) → some r ∈ ι ∨ r = w.heap.size := fun r hr => by
    rcases List.mem_or_eq_of_mem_set hr with hr | hr
    · exact .inl hr
    · exact .inr (by simpa using hr)
  have ee : Ext L ι w (ι.set b (some w.heap.size)) (w.alloc o) := by
    refine ⟨rfl, rfl, rfl, by simp, fun r hr hn => ⟨fun hh => ?_, hold r hr⟩, (fun r hr => by simp only [World.shape?, hold r hr]), (fun b' o' hb' ho => by rw [List.getElem?_set_ne (by omega)]; exact ho)⟩
    rcases hmem r hh with hh | hh
    · exact hn hh
    · omega
  have hk : ∀ (b' : Nat) (o' : Option Nat), b' ≠ b → ι[b']? = some o' → (ι.set b (some w.heap.size))[b']? = some o' := fun b' o' hne ho => by
    rw [List.getElem?_set_ne (Ne.symm hne)]; exact ho
  refine ⟨h.rehome ee (by simp) hk ?_ ?_ (fun i r _ hi => hold r (h.lt r (List.mem_of_getElem? hi))) (hm ee), ee⟩
  · intro r hr
    rcases hmem r hr with hr | rfl
    · exact Nat.lt_of_lt_of_le (h.lt r hr) ee.size
    · simp
  · intro i j r hi hj
    have key : ∀ k : Nat, (ι.set b (some w.heap.size))[k]? = some (some r) → (k = b ∧ r = w.heap.size) ∨ (k ≠ b ∧ ι[k]? = some (some r) ∧ r < w.heap.size) := by
      intro k hk
      by_cases c : b = k
      · subst c
        rw [List.getElem?_set_self hb] at hk
        simp at hk
        exact .inl ⟨rfl, hk.symm⟩
      · rw [List.getElem?_set_ne c] at hk
        exact .inr ⟨fun hh => c hh.symm, hk, h.lt r (List.mem_of_getElem? hk)⟩
    rcases key i hi with ⟨h1, h2⟩ | ⟨h1, h2, h3⟩ <;> rcases key j hj with ⟨h4, h5⟩ | ⟨h4, h5, h6⟩
    · omega
    · omega
    · omega
    · exact h.inj i j r h2 h5
theorem Rel.foreign {B : Nat} {ι : Loc} {s : St} {a : Act} {w : World} (h : Rel Hd B ι s a w) (o : Obj) : Rel Hd B ι s a (w.alloc o) ∧ ∀ L, Ext L ι w ι (w.alloc o) := by
  have hold : ∀ r, r < w.heap.size → (w.alloc o).heap[r]? = w.heap[r]? := fun r hr => Below.heap_alloc w _ r hr
  have ee : ∀ L, Ext L ι w ι (w.alloc o) := fun L => ⟨rfl, rfl, rfl, by simp, fun r hr hn => ⟨hn, hold r hr⟩, fun r hr => by simp only [World.shape?, hold r hr], fun _ _ _ h => h⟩
  exact ⟨⟨h.len, fun r hr => Nat.lt_of_lt_of_le (h.lt r hr) (ee 0).size, h.inj, h.ext_tmps (ee 0) (fun _ _ x => x), fun i blk hi => q2v (ee 0) h.lt (fun _ _ x => x) (fun r hr => hold r (h.lt r (List.mem_of_getElem? hr))) (h.mem i blk hi),
    h.marks.ext (ee 0), h.hidExt (ee 0), h.glob.ext (ee 0)⟩, ee⟩
theorem run_buildSlice_ok {P : Program} {T : TypeId → Option TI} (hT : TyOk P T) {B : Nat} {ι : Loc} {s : St} {a : Act} {w : World} (h : Rel Hd B ι s a w) {t e : TypeId} {ti te : TI} {len : Nat} {parts : Array (Nat × Operand)}
    (ht : T t = some ti) (hd : ti.desc = .slice e) (hte : T e = some te) (hzo : te.zeroOk = true) (hbig : len * te.size ≤ 16777216) (hok : partsOk len te.size (q1r s parts.toList)) :
    ∃ vs', (Instr.buildSlice t len (parts.map fun (i, x) => (i, a.eval x))).run P w = .ok (.slice (some ⟨w.heap.size, 0, none⟩) len len) (w.alloc (.cells (flatV vs').toArray e)) ∧
      rels Hd ι w (q2z (List.replicate len te.zav) (q1r s parts.toList)) vs' ∧ vs'.length = len ∧ (∀ v ∈ vs', v.cells.size = te.size) ∧ (∀ u ∈ flatV vs', u.oneCell' = true) ∧
      q04 (q2z (List.replicate len te.zav) (q1r s parts.toList)) = [] := by
  rw [evParts_eq] at hok ⊢
  obtain ⟨z, hz, hzc⟩ := q2y hT hte w
  have hzl : te.zero.length = te.size ∧ 0 < te.size := by
    have := hzo
    simp only [TI.zeroOk, Bool.and_eq_true, decide_eq_true_eq] at this; exact ⟨this.1.1.1, this.1.1.2⟩
  have hvs : te.zval.cells.size = te.size := by rw [← hzl.1, ← q3d hzo]; simp
  have hall : ∀ v ∈ List.replicate len te.zval, v.cells.size = te.size := by
    intro v hv; rw [List.eq_of_mem_replicate hv]; exact hvs
  have hflat : ∀ u ∈ flatV (List.replicate len te.zval), u.oneCell' = true := by
    intro u hu
    obtain ⟨v, hv, hu'⟩ := List.mem_flatMap.1 hu
    rw [List.eq_of_mem_replicate hv, q3d hzo] at hu'
    have := hzo
    simp only [TI.zeroOk, Bool.and_eq_true, List.all_eq_true] at this
    exact this.1.2 u hu'
  have hfst : (parts.toList.map fun (i, x) => (i, s.ev x)).map Prod.fst = ((parts.map fun (i, x) => (i, a.eval x)).toList).map Prod.fst := by simp [Function.comp_def]
  have hsnd : rels Hd ι w ((parts.toList.map fun (i, x) => (i, s.ev x)).map Prod.snd) (((parts.map fun (i, x) => (i, a.eval x)).toList).map Prod.snd) := by
    simp only [Array.toList_map, List.map_map, Function.comp_def]
    generalize parts.toList = l
    induction l with
    | nil => rfl
    | cons p l ih => exact ⟨_, _, rfl, h.ev _, ih⟩
  have hrep : rels Hd ι w (List.replicate len te.zav) (List.replicate len te.zval) := by
    clear hok hall hflat hbig
    induction len with
    | zero => rfl
    | succ n ih => exact ⟨_, _, rfl, zav_rel, ih⟩
  have hrefs : q04 (List.replicate len te.zav) = [] := by
    rw [q0z]; intro x hx; rw [List.eq_of_mem_replicate hx]; exact zav_refs
  obtain ⟨vs', q1, q2, q3, q4, q5, q6⟩ := fill_rows (sz := te.size) (len := len) _ _ _ _ hrep (by simp) hall hflat hrefs hfst hsnd hok
  refine ⟨vs', ?_, q2, q3, q4, q5, q6⟩
  simp only [Instr.buildSlice, Sem.run_bind, run_underlying hT ht, Result.andThen_ok, hd, q0x hT hte]
  rw [if_neg (by omega)]
  by_cases h0 : len * te.size = 0
  · rw [if_pos h0]
    simp only [Sem.run_bind, Sem.run_pure, Result.andThen_ok]
    have hn : len = 0 := by
      rcases Nat.mul_eq_zero.1 h0 with h | h
      · exact h
      · omega
    have e0 : (Array.range (len * te.size)).map ((#[] : Array Value)[· % (#[] : Array Value).size]!) = (flatV (List.replicate len te.zval)).toArray := by
      rw [hn]; simp [flatV]
    rw [e0, q1]
    simp only [newRow, Sem.run_bind, run_newObj, Result.andThen_ok, Sem.run_pure]
    rfl
  · rw [if_neg h0]
    simp only [Sem.run_bind, hz, Sem.run_pure, Result.andThen_ok]
    rw [zeros_flat hzo hzc, q1]
    simp only [newRow, Sem.run_bind, run_newObj, Result.andThen_ok, Sem.run_pure]
    rfl
theorem dstep_sound {F : Fence} {n : Nat} {P : Program} {T : TypeId → Option TI} (hT : TyOk P T) {B : Nat} {ι : Loc} {s : St} {a : Act} {w : World} {next : Act → World → Prop} {Q : Exit → Act → World → Prop} {o : Oper} {nid : Nat} {C : Prop} {x : AV} {wr : Wr}
    (hF : Wide F) (h : Rel Hd B ι s a w) (hnew : isNew o.op = true → L ≤ nid ∧ nid < s.mem.length) (e : dstep P T L nid o.op s = some (C, x, wr)) (hC : C)
    (hn : ∀ y ι' w', rel Hd ι' w' x y → Rel Hd B ι' (s.app wr) a w' → Ext L ι w ι' w' → next (a.put o.dst y) w') : o.wpIn F n P a w next Q := by
  have plain : q1x P T L o.op s = some (C, x, s.app wr) → o.wpIn F n P a w next Q := by
    intro hf
    refine q2n hT hF h (K := fun x' s' => x' = x ∧ s' = s.app wr) (.inl (fstep0_sound hT hf hC ⟨rfl, rfl⟩)) ?_
    rintro x' y s' ι' w' h1 h2 h3 ⟨rfl, rfl⟩
    exact hn y ι' w' h1 h2 h3
  unfold dstep at e
  by_cases hfr : isFree o.op = true
  · rw [if_pos hfr] at e
    cases hs : q1x P T L o.op s with
    | none => rw [hs] at e; cases e
    | some q =>
      obtain ⟨C', x', s'⟩ := q
      rw [hs] at e
      cases e
      obtain ⟨rfl, _⟩ := fstep_free hfr hs
      exact plain hs
  · rw [if_neg hfr] at e
    split at e <;> try (cases e; done)
    · rename_i t y ho
      cases hs : dload T t (s.ev y) s with
      | none => rw [hs] at e; cases e
      | some q =>
        obtain ⟨C', x', s'⟩ := q
        rw [hs] at e
        cases e
        obtain ⟨rfl, _⟩ := dload_local (s2 := s) hs (fun _ _ => rfl)
        unfold dload at hs
        split at hs
        · rename_i r hr
          cases hs
          refine q2n (L := L) hT hF h (K := fun x2 s2 => x2 = _ ∧ s2 = St.app _ none) (.inr (.inl ⟨_, _, _, (by rw [ho]; exact hr), hC, rfl, rfl⟩)) ?_
          rintro x2 y2 s2 ι' w' h1 h2 h3 ⟨rfl, rfl⟩
          exact hn y2 ι' w' h1 h2 h3
        · exact plain (by rw [ho]; exact hs)
    · rename_i t u y ho
      cases hs : fconvA T t u (s.ev y) s with
      | none => rw [hs] at e; cases e
      | some q =>
        obtain ⟨C', x', s'⟩ := q
        rw [hs] at e
        cases e
        obtain ⟨rfl, _⟩ := fconvA_local (s2 := s) hs (fun _ _ => rfl)
        exact plain (by rw [ho]; exact hs)
    · rename_i t p y ho
      refine plain ?_
      rw [ho]
      show fstore T t (s.ev p) (s.ev y) s = _
      unfold dstore at e
      unfold fstore
      split at e <;> try (cases e; done)
      rename_i ti hti
      split at e <;> try (cases e; done)
      · rename_i b c hp
        split at e <;> try (cases e; done)
        rename_i cs hm
        cases e
        simp only [hti, hp, hm, St.app]
      · rename_i b sz i c hp
        split at e <;> try (cases e; done)
        rename_i t' sz' xs hm
        cases e
        first | (simp only [hti, hp, hm, St.app]; done) | (simp only [hti, hp, hm, St.app]; rfl)
    · rename_i t ho
      obtain ⟨hnL, hnm⟩ := hnew (by rw [ho]; rfl)
      have hni : nid < ι.length := by rw [h.len]; exact hnm
      split at e <;> try (cases e; done)
      rename_i ti ht
      cases e
      obtain ⟨z, hz, hz2⟩ := q2y hT ht w
      obtain ⟨hR, hE⟩ := h.movedTo (L := L) (o := .cells z.cells t) (blk := .box (ti.zero.map .v)) hni hnL (fun ee =>
        ⟨w.heap.size, t, z.cells, by rw [List.getElem?_set_self hni], heap_alloc_new w _, by rw [hz2]; exact rels_v.2 rfl⟩)
      refine q0a (K := fun x' s' => x' = .ptr nid 0 ∧ s' = s.rehome nid (.box (ti.zero.map .v))) hF (by rw [ho]; simp) (m := Instr.alloc t true (.tuple #[])) (by simp [execOp, ho])
        ⟨_, .pointer (some ⟨w.heap.size, 0, none⟩), w.alloc (.cells z.cells t), _, .ptr nid 0, _, ?_, rfl, ⟨w.heap.size, rfl, by rw [List.getElem?_set_self hni]⟩, hR, hE, rfl, rfl⟩ ?_
      · simp only [Instr.alloc, Sem.run_bind, hz, Result.andThen_ok, newVar, newRow, run_newObj, Sem.run_pure]
        rfl
      · rintro x' y s' ι' w' h1 h2 h3 ⟨rfl, rfl⟩
        exact hn y ι' w' h1 h2 h3
    · rename_i t len parts ho
      unfold q45 at e
      split at e <;> try (cases e; done)
      rename_i ti ht
      split at e <;> try (cases e; done)
      rename_i el hd
      split at e <;> try (cases e; done)
      rename_i te hte
      split at e
      · cases e
        obtain ⟨hnL, hnm⟩ := hnew (by rw [ho]; rfl)
        have hni : nid < ι.length := by rw [h.len]; exact hnm
        obtain ⟨hzo, hp0⟩ := hC
        have hpe : q1r s parts.toList = [] := by rw [List.eq_nil_of_length_eq_zero hp0]; rfl
        obtain ⟨vs', hrun, q2, q3, q4, q5, q6⟩ := run_buildSlice_ok (len := 0) (parts := parts) hT h ht hd hte hzo (by simp) (by rw [hpe]; exact True.intro)
        obtain rfl : vs' = [] := List.eq_nil_of_length_eq_zero q3
        obtain ⟨hR, hE⟩ := h.movedTo (L := L) (o := .cells (flatV []).toArray el) (blk := .row el te.size []) hni hnL (fun ee =>
          ⟨rfl, .inl ⟨w.heap.size, _, [], by rw [List.getElem?_set_self hni], heap_alloc_new w _, rfl, (fun v hv => by cases hv), (fun i hi => by simp [flatV] at hi), (fun u hu => by simp [flatV] at hu)⟩⟩)
        refine q0a (K := fun x' s' => x' = .own nid te.size 0 0 ∧ s' = s.rehome nid (.row el te.size [])) hF (by rw [ho]; simp) (by simp [execOp, ho])
          ⟨_, _, _, _, .own nid te.size 0 0, _, hrun, rfl, .inl ⟨w.heap.size, 0, 0, el, by simp, Nat.le_refl _, by simp [maxLen], by rw [List.getElem?_set_self hni], ?_, by simp⟩, hR, hE, rfl, rfl⟩ ?_
        · have hhh : (w.alloc (.cells (flatV []).toArray el)).heap[w.heap.size]? = _ := heap_alloc_new w _
          simp only [World.shape?, hhh]
          rfl
        · rintro x' y s' ι' w' h1 h2 h3 ⟨rfl, rfl⟩
          exact hn y ι' w' h1 h2 h3
      · rename_i m
        cases e
        obtain ⟨hzo, hbig, hok⟩ := hC
        obtain ⟨vs', hrun, q2, q3, q4, q5, q6⟩ := run_buildSlice_ok (len := m + 1) (parts := parts) hT h ht hd hte hzo hbig hok
        obtain ⟨hR, hE⟩ := h.foreign (.cells (flatV vs').toArray el)
        have hl := q0b q2
        refine q0a (K := fun x' s' => x' = .sl te.size (q2z (List.replicate (m + 1) te.zav) (q1r s parts.toList)) ∧ s' = s) hF (by rw [ho]; simp) (by simp [execOp, ho])
          ⟨_, _, _, ι, .sl te.size (q2z (List.replicate (m + 1) te.zav) (q1r s parts.toList)), s, hrun, rfl, ⟨q6, some ⟨w.heap.size, 0, none⟩, m + 1, vs', ?_, ?_, q0l (hE 0) h.lt _ _ (fun b hb => by rw [q6] at hb; cases hb) q2, .inr ⟨w.heap.size, 0, rfl, ⟨by simp, fun hh => ?_, fun hh => ?_⟩, q4, ?_, q5⟩⟩, hR, hE L, rfl, rfl⟩ ?_
        · rw [hl, q3]
        · rw [hl, q3]; exact Nat.le_refl _
        · have := h.lt _ hh; omega
        · have := (h.hid _ hh).1; omega
        · have := q1k (heap_alloc_new w (.cells (flatV vs').toArray el))
          simpa using this
        · rintro x' y s' ι' w' h1 h2 h3 ⟨rfl, rfl⟩
          exact hn y ι' w' h1 h2 h3
    · rename_i args ts ho
      split at e <;> try (cases e; done)
      rename_i y z ha
      cases hda : dappend T L ts.toList (s.ev y) (s.ev z) s with
      | none =>
        rw [hda] at e
        simp only at e
        unfold dappendC at e
        split at e <;> try (cases e; done)
        rename_i t t' hts
        split at e <;> try (cases e; done)
        rename_i ti hti
        split at e <;> try (cases e; done)
        rename_i el hd
        split at e <;> try (cases e; done)
        rename_i te hte
        split at e <;> try (cases e; done)
        rename_i c ys hys
        split at e <;> try (cases e; done)
        rename_i b sz len hev
        split at e <;> try (cases e; done)
        rename_i e' sz' xs N hm
        cases e
        obtain ⟨rfl, hc, hzo, ⟨rfl, rfl, rfl, hlx⟩, hN⟩ := hC
        refine q2n (L := L) hT hF h (K := fun x' s' => x' = .own b te.size 0 (len + ys.length) ∧ s' = s.app (some (b, .rowc e' te.size (q28 xs len ys) N, false))) (.inr (.inr (.inl ⟨t' = t' ∧ c ∧ te.zeroOk = true ∧ e' = e' ∧ te.size = te.size ∧ te.size = te.size ∧ len ≤ xs.length, _, _, ?_, ?_, rfl, rfl⟩))) ?_
        · rw [ho]
          simp only [fpost, ha, gappend, hts, hti, hd, hte, hys, gapp, hev, hm]
          rw [if_pos hN]
          rfl
        · exact ⟨rfl, hc, hzo, rfl, rfl, rfl, hlx⟩
        · rintro x' y' s' ι' w' h1 h2 h3 ⟨rfl, rfl⟩
          exact hn y' ι' w' h1 h2 h3
      | some r =>
      rw [hda] at e
      simp only at e
      rw [e] at hda
      clear e
      rename_i e0
      have e := hda
      refine plain ?_
      rw [ho]
      show (match args.toList with | [x, y] => fappend T L ts.toList (s.ev x) (s.ev y) s | _ => none) = _
      rw [ha]
      simp only
      unfold dappend at e
      unfold fappend
      split at e <;> try (cases e; done)
      split at e <;> try (cases e; done)
      split at e <;> try (cases e; done)
      split at e <;> try (cases e; done)
      split at e <;> try (cases e; done)
      split at e <;> try (cases e; done)
      split at e <;> try (cases e; done)
      rename_i hm
      cases e
      simp only [*, St.app]
    · rename_i args ts ho
      split at e <;> try (cases e; done)
      rename_i y z t t2 ha hts
      unfold dcopy at e
      split at e <;> try (cases e; done)
      rename_i ti hti
      split at e <;> try (cases e; done)
      rename_i el hd
      split at e <;> try (cases e; done)
      rename_i te hte
      split at e <;> try (cases e; done)
      rename_i b sz off len hev
      split at e <;> try (cases e; done)
      rename_i c ys hys
      split at e <;> try (cases e; done)
      · rename_i t' sz' xs hm
        cases e
        refine q2n (L := L) hT hF h (K := fun x' s' => x' = .v (.int .i64 ys.length) ∧ s' = s.app (some (b, .row t' sz' (q28 xs off ys), false))) (.inr (.inr (.inl ⟨_, _, _, ?_, hC, rfl, rfl⟩))) ?_
        · rw [ho]
          simp only [fpost, ha, hts, gcopy, hti, hd, hte, hys, hev, hm]
          rfl
        · rintro x' y' s' ι' w' h1 h2 h3 ⟨rfl, rfl⟩
          exact hn y' ι' w' h1 h2 h3
      · rename_i t' sz' xs N hm
        cases e
        refine q2n (L := L) hT hF h (K := fun x' s' => x' = .v (.int .i64 ys.length) ∧ s' = s.app (some (b, .rowc t' sz' (q28 xs off ys) N, false))) (.inr (.inr (.inl ⟨_, _, _, ?_, hC, rfl, rfl⟩))) ?_
        · rw [ho]
          simp only [fpost, ha, hts, gcopy, hti, hd, hte, hys, hev, hm]
          rfl
        · rintro x' y' s' ι' w' h1 h2 h3 ⟨rfl, rfl⟩
          exact hn y' ι' w' h1 h2 h3
end Go.Proofs.YtdkcpcflfnakdaaGreat.Sym
