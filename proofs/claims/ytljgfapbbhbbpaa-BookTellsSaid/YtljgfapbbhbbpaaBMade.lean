/- Books behind acts. -/
import Derived.Test.YtljgfapbbhbbpaaBWrite
namespace Go.Proofs.Ytljgfapbbhbbpaa
open Go Go.Proofs.Ytljgfapbbhbbpaa.Sym
set_option maxRecDepth 100000
set_option linter.unusedSimpArgs false
set_option linter.unusedVariables false

section
variable {α β : Type} {lt eq : α → α → Bool}
theorem mid_parts (O : StrictOrd lt) {A D : List (α × β)} {k : α} {x : β} (h : RisesM lt (A ++ (k, x) :: D)) :
    (∀ p ∈ A, lt p.1 k = true ∧ lt k p.1 = false) ∧ (∀ p ∈ D, lt k p.1 = true ∧ lt p.1 k = false) := by
  have hp := List.pairwise_append.1 (risesM_iff.1 h)
  have hc := List.pairwise_cons.1 hp.2.1
  have anti : ∀ a b, lt a b = true → lt b a = false := fun a b hab => by
    cases hb : lt b a with
    | false => rfl
    | true => have := O.trans _ _ _ hab hb; rw [O.irrefl] at this; cases this
  exact ⟨fun p hpA => by have := hp.2.2 p hpA (k, x) List.mem_cons_self; exact ⟨this, anti _ _ this⟩, fun p hpD => ⟨hc.1 p hpD, anti _ _ (hc.1 p hpD)⟩⟩
theorem with_mid (O : StrictOrd lt) (he : ∀ a b, eq a b = true ↔ a = b) {A D : List (α × β)} {k : α} {x : β} (v : β) (h : RisesM lt (A ++ (k, x) :: D)) :
    withG lt eq (A ++ (k, x) :: D) k v = A ++ (k, v) :: D := by
  obtain ⟨hA, hD⟩ := mid_parts O h
  rw [with_eq O he h, List.filter_append, List.filter_append, List.filter_cons, List.filter_cons, O.irrefl, filter_all' (fun p hp => (hA p hp).1), filter_none' (l := D) (fun p hp => (hD p hp).2),
    filter_none' (l := A) (fun p hp => (hA p hp).2), filter_all' (fun p hp => (hD p hp).1)]
  simp
theorem without_mid (O : StrictOrd lt) (he : ∀ a b, eq a b = true ↔ a = b) {A D : List (α × β)} {k : α} {x : β} (h : RisesM lt (A ++ (k, x) :: D)) :
    withoutG lt eq (A ++ (k, x) :: D) k = A ++ D := by
  obtain ⟨hA, hD⟩ := mid_parts O h
  have ne : ∀ a b, (lt a b = true ∨ lt b a = true) → eq a b = false := fun a b hab => by
    cases hb : eq a b with
    | false => rfl
    | true =>
      have := (he _ _).1 hb
      subst this
      rw [O.irrefl] at hab; simp at hab
  rw [without_eq O he h, List.filter_append, List.filter_cons, filter_all' (l := A) (fun p hp => by rw [ne _ _ (.inl (hA p hp).1)]; rfl), filter_all' (l := D) (fun p hp => by rw [ne _ _ (.inr (hD p hp).1)]; rfl), (he k k).2 rfl]
  simp
end

/-- An entry behind a sweep, if it stays. -/
def sweptE (now : Int) (p : ByteArray × En) : Option (ByteArray × En) := if (lives now p.2.l).length = 0 then none else some (p.1, ⟨lives now p.2.l, ofP (lives now p.2.l) now⟩)
theorem sweepTo_eq {m : Bk} (h : rises_se m) (now : Int) : ∀ i, (sweepTo m now i).1 = (m.take i).filterMap (sweptE now) ++ m.drop i := by
  intro i
  induction i with
  | zero => rfl
  | succ i ih =>
    by_cases hi : i < m.length
    · have hr := (sweep_ok h now i).1
      rw [ih, List.drop_eq_getElem_cons hi] at hr
      rw [sweep_next hi, sweepStep, ih, take_one hi, List.filterMap_append, List.drop_eq_getElem_cons hi]
      simp only
      generalize (m.take i).filterMap (sweptE now) = A at hr ⊢
      generalize m.drop (i + 1) = D at hr ⊢
      generalize m[i] = p at hr ⊢
      obtain ⟨k, e⟩ := p
      unfold settleB
      by_cases hl : (lives now e.l).length = 0
      · rw [if_pos hl, without_mid ordS eqS_iff hr]
        simp [sweptE, hl]
      · rw [if_neg hl, with_mid ordS eqS_iff _ hr]
        simp [sweptE, hl]
    · have e : sweepTo m now (i + 1) = sweepTo m now i := by
        rw [sweepTo, sweepTo, List.take_of_length_le (by omega), List.take_of_length_le (by omega)]
      rw [e, ih, List.take_of_length_le (by omega), List.take_of_length_le (l := m) (by omega), List.drop_of_length_le (by omega), List.drop_of_length_le (by omega)]
theorem sweepF_eq {m : Bk} (h : rises_se m) (now : Int) : (sweepF m now).1 = m.filterMap (sweptE now) := by
  have := sweepTo_eq h now m.length
  rw [List.take_length, List.drop_length, List.append_nil] at this
  rw [← this, sweepTo, List.take_length, sweepF]
theorem swept_mem {m : Bk} {now : Int} {p : ByteArray × En} (h : p ∈ m.filterMap (sweptE now)) : ∃ q ∈ m, p = (q.1, ⟨lives now q.2.l, ofP (lives now q.2.l) now⟩) ∧ (lives now q.2.l).length ≠ 0 := by
  obtain ⟨q, hq, he⟩ := List.mem_filterMap.1 h
  unfold sweptE at he
  split at he
  · cases he
  · rename_i hn; cases he; exact ⟨q, hq, rfl, hn⟩
theorem book_sweep {n : Nat} {m : Bk} (h : bookOk n m) (now : Int) : bookOk n (sweepF m now).1 := by
  have e := sweepF_eq h.1 now
  have hr := (sweep_ok h.1 now m.length).1
  rw [show sweepTo m now m.length = sweepF m now by rw [sweepTo, List.take_length, sweepF]] at hr
  refine ⟨hr, ?_, ?_⟩
  · rw [e]; exact Nat.le_trans (List.length_filterMap_le _ _) h.2.1
  · intro p hp
    rw [e] at hp
    obtain ⟨q, hq, rfl, _⟩ := swept_mem hp
    have := h.2.2 q hq
    exact ⟨lives_up this.1 now, Nat.le_trans (List.length_filter_le _ _) this.2⟩
theorem settle_mem {m : Bk} (hr : rises_se m) {u : ByteArray} {l : List Ses} {now : Int} {p : ByteArray × En} (h : p ∈ settleB m u l now) : p ∈ m ∨ (p = (u, ⟨l, ofP l now⟩) ∧ l.length ≠ 0) := by
  unfold settleB at h
  split at h
  · rw [without_eq ordS eqS_iff hr] at h
    exact .inl (List.mem_filter.1 h).1
  · rename_i hn
    rcases (mem_with ordS eqS_iff hr).1 h with h | h
    · exact .inr ⟨h, hn⟩
    · exact .inl h.1
theorem book_write {n : Nat} {m : Bk} (h : bookOk n m) (o : Opb) (now most : Int) : bookOk (n + 1) (writeB m o now most) := by
  have hs := settleB_rises h.1 o.u (writeL m o now most).1 now
  refine ⟨hs.1, Nat.le_trans hs.2 (by have := h.2.1; omega), ?_⟩
  intro p hp
  rcases settle_mem h.1 hp with hp | ⟨rfl, _⟩
  · have := h.2.2 p hp; exact ⟨this.1, by omega⟩
  · exact writeL_ok h o now most
theorem bookOk.mono {n k : Nat} {m : Bk} (h : bookOk n m) (hk : n ≤ k) : bookOk k m := ⟨h.1, Nat.le_trans h.2.1 hk, fun p hp => ⟨(h.2.2 p hp).1, Nat.le_trans (h.2.2 p hp).2 hk⟩⟩

/-- An act, as the program holds it. -/
structure ActB where
  sw : Bool
  op : Opb
  by_ : Int
def ActB.av (a : ActB) : AV := .agg [bool a.sw, i64 a.op.kind, str a.op.u, i64 a.op.id, i64 a.op.st, i64 a.op.pr, u64 a.op.ttl, .sl 1 (a.op.us.map fun x => str x), u64 a.by_]
def bacts (l : List ActB) : List AV := l.map ActB.av
theorem bacts_len (l : List ActB) : (bacts l).length = l.length := by simp [bacts]
theorem act_idx {l : List ActB} {i : Nat} (hb : l.length ≤ 9223372036854775807) (h : decide ((i : Int) < (l.length : Int)) = true) :
    ∃ hlt : i < l.length, (bacts l).getD (Int.toNat (i : Int)) .any = .agg [bool l[i].sw, i64 l[i].op.kind, str l[i].op.u, i64 l[i].op.id, i64 l[i].op.st, i64 l[i].op.pr, u64 l[i].op.ttl, .sl 1 (l[i].op.us.map fun x => str x), u64 l[i].by_] ∧ IntKind.i64.wrap ((i : Int) + 1) = ((i + 1 : Nat) : Int) ∧ ((0 : Int) ≤ (i : Int) ∧ Int.toNat (i : Int) < l.length) := by
  have hlt : i < l.length := by simpa using h
  exact ⟨hlt, at_map hlt, by rw [wrap_i64 (by omega) (by omega)]; rfl, by omega⟩
def madeStep (most : Int) (s : Bk × Int) (a : ActB) : Bk × Int := (if a.sw = true then (sweepF s.1 (addW s.2 a.by_)).1 else writeB s.1 a.op (addW s.2 a.by_) most, addW s.2 a.by_)
def madeF (l : List ActB) (most : Int) : Bk × Int := l.foldl (madeStep most) ([], 0)
theorem made_next {l : List ActB} {most : Int} {i : Nat} (h : i < l.length) : madeF (l.take (i + 1)) most = madeStep most (madeF (l.take i) most) l[i] := by
  rw [take_one h, madeF, List.foldl_append]; rfl
theorem made_ok (l : List ActB) (most : Int) : bookOk l.length (madeF l most).1 := by
  refine snoc_ind (p := fun l => bookOk l.length (madeF l most).1) ⟨List.Pairwise.nil, Nat.le_refl _, fun p hp => by cases hp⟩ ?_ l
  intro l a ih
  have e : madeF (l ++ [a]) most = madeStep most (madeF l most) a := by rw [madeF, List.foldl_append]; rfl
  rw [e, madeStep, List.length_append, List.length_singleton]
  simp only
  split
  · exact (book_sweep ih _).mono (Nat.le_succ _)
  · exact book_write ih _ _ _
theorem nil_se : weak (.agg [.v (.slice none 0 0), .v (.slice none 0 0)]) (map_se []) := .inr ⟨_, rfl, _, _, rfl, weak_nil 1, _, _, rfl, weak_nil 4, rfl⟩
theorem made_call (l : List ActB) (most : Int) (hl : l.length ≤ 200) : PCall P 39 [.sl 9 (bacts l), i64 most] (fun x => x = .tup [map_se (madeF l most).1, u64 (madeF l most).2]) := by
  refine pcall_go tyOk Try.func39 rfl rfl ?_
  intro K hK
  simp only [Try.ntmps39, List.length_cons, List.length_nil, Nat.reduceAdd, Nat.reduceSub, List.replicate, List.cons_append, List.nil_append]
  try simp (maxSteps := 1000000) only [go_region, go_seq, go_block, go_loop, go_ops_nil, go_op, opK_none, contK_some, callOf, fstep, fpre, fstep0, T, St.ev, St.put, List.set, List.map_cons, List.map_nil, List.length_cons, List.length_nil, List.cons_append, List.nil_append, true_and, Bool.true_and, Nat.zero_add]
  refine loopK_ruleT tyOk (α := Nat) 2 [0, 1, 4, 6, 7, 8] (fun i => i ≤ l.length)
    (fun i => ⟨[.sl 9 (bacts l), i64 most, .any, .any, .ptr 0 0, .any, .ptr 1 0, u64 (madeF (l.take i) most).2, i64 i, .any, .any, .any, .any, .any, .any, .any, .any, .any, .any, .any, .any, .any, .any, .any, .any, .any, .any, .any, .any, .any, .any, .any, .any, .any, .any, .any, .any, .any, .any, .any, .any, .any, .any, .any, .any, .any, .any, .any], [.box [.v (.slice none 0 0), .v (.slice none 0 0)], ebox (madeF (l.take i) most).1]⟩)
    (fun i => l.length - i) 0 (Nat.zero_le _) (Nat.zero_le _) (Turns.weak (weaks_refl _) ⟨_, _, rfl, weakB_refl _, _, _, rfl, ⟨_, rfl, _, _, rfl, weak_nil 1, _, _, rfl, weak_nil 4, rfl⟩, rfl⟩) ?_
  intro i hi
  try simp (maxSteps := 1000000) only [go_region, go_seq, go_cond, go_ops_nil, go_op, opK_none, contK_some, callOf, fstep, fpre, fstep0, fbinA, fbin, fbin0, flen, T, St.ev, St.put, List.getD_cons_zero, List.getD_cons_succ, List.set, true_and, Bool.true_and, bacts_len]
  (first | refine guardV_split ?_ ?_ | refine condK_split ?_ ?_ | refine drawV_split ?_ ?_ | refine condY_split ?_ ?_ | refine guardY_split ?_ ?_) <;> intro h
  · obtain ⟨hlt, eg, ew, c1⟩ := act_idx (by omega) h
    have hok := made_ok (l.take i) most
    have hn := made_next (most := most) hlt
    obtain ⟨⟨B, now⟩, hB⟩ : ∃ s, madeF (l.take i) most = s := ⟨_, rfl⟩
    rw [hB] at hok hn
    simp only [hB]
    have hok := hok.mono (show (l.take i).length ≤ 200 by rw [List.length_take]; omega)
    obtain ⟨a, ha⟩ : ∃ a, l[i] = a := ⟨_, rfl⟩
    rw [ha] at eg hn
    try simp (maxSteps := 1000000) only [go_skip, go_region, go_seq, go_block, go_op, opK_none, opK_some, contK_some, condK_t, callOf, callK_eq, callJ_nil, callD_fn, fstep, fpre, fstep0, fload, fcell, ffieldAddr, findexAddr, evs, T, TI.isAgg, St.ev, St.put, AV.cells, AV.known, AV.owners, ownersAll, List.getD_cons_zero, List.getD_cons_succ, List.set, List.length_cons, List.length_nil, List.drop_succ_cons, List.drop_zero, List.headD_cons, List.append_nil, List.getElem?_cons_zero, List.getElem?_cons_succ, List.getElem?_toArray, true_and, and_true, Bool.and_true, Bool.true_and, Bool.false_eq_true, ↓reduceIte, reduceCtorEq, ne_eq, not_false_eq_true, Nat.reduceLT, Nat.zero_add, eg, c1, bacts_len]
    (refine callG_use (law_later now a.by_) rfl ?_; rintro _ rfl)
    try simp (maxSteps := 1000000) only [go_region, go_seq, go_cond, go_ops_nil, go_op, opK_none, contK_some, callOf, fstep, fpre, fstep0, fload, fcell, ffieldAddr, findexAddr, T, TI.isAgg, St.ev, St.put, AV.cells, AV.known, List.getD_cons_zero, List.getD_cons_succ, List.set, List.length_cons, List.length_nil, List.drop_zero, List.headD_cons, List.getElem?_cons_zero, List.getElem?_toArray, true_and, and_true, Bool.and_true, Bool.true_and, Bool.false_eq_true, ↓reduceIte, reduceCtorEq, ne_eq, not_false_eq_true, Nat.reduceAdd, Nat.reduceLT, Nat.zero_add, eg, c1, bacts_len]
    cases hsw : a.sw
    · have e1 : madeF (l.take (i + 1)) most = (writeB B a.op (addW now a.by_) most, addW now a.by_) := by rw [hn, madeStep, if_neg (by rw [hsw]; decide)]
      have hwr := write_call 200 B a.op (addW now a.by_) most hok (by omega)
      unfold Opb.av at hwr
      try simp (maxSteps := 1000000) only [go_draws, condK_f]
      refine draw_rule tyOk (by rfl) (by simp only [List.length_cons, List.length_nil, Nat.reduceAdd, Nat.zero_le]) (by kernel_rfl) rfl ?_
      try simp (maxSteps := 1000000) only [callOf, fstep0, newF, fload, fcell, ffieldAddr, findexAddr, evs, T, TI.isAgg, St.ev, St.put, AV.cells, AV.known, List.getD_cons_zero, List.getD_cons_succ, List.set, List.length_cons, List.length_nil, List.drop_succ_cons, List.drop_zero, List.take_succ_cons, List.take_zero, List.append_nil, List.getElem?_cons_zero, List.getElem?_cons_succ, List.replicate, List.getElem?_toArray, true_and, and_true, Bool.and_true, Bool.true_and, Bool.or_false, Bool.false_eq_true, ↓reduceIte, reduceCtorEq, ne_eq, not_false_eq_true, Nat.reduceAdd, Nat.reduceLeDiff, Nat.le_refl, Nat.add_zero, Nat.zero_add, Nat.reduceBEq, newCount, drawR_op, drawP_none, drawP_some, drawQ_some, drawH_fn, dstep, isFree, St.app, bump, isNew, eg, c1, bacts_len]
      refine drawCall_use hwr rfl ?_
      try simp (maxSteps := 1000000) only [go_nil, go_region, go_blk, go_ops_nil, go_op, opK_none, contK_some, callOf, fstep, fpre, fstep0, fbinA, newF, fbin, fbin0, T, St.ev, St.put, splice, AV.cells, AV.known, AV.flat, List.getD_cons_zero, List.getD_cons_succ, List.set, List.length_cons, List.length_nil, List.all_cons, List.all_nil, List.drop_succ_cons, List.drop_zero, List.take_zero, List.nil_append, List.append_nil, List.getElem?_cons_zero, List.getElem?_cons_succ, true_and, and_true, Bool.and_true, Bool.true_and, Bool.and_self, Bool.or_false, Bool.false_eq_true, ↓reduceIte, Nat.reduceAdd, Nat.reduceLT, Nat.le_refl, Nat.zero_add, Nat.reduceBEq, drawR_nil, drawR_op, drawP_none, drawQ_some, dstep, isFree, dstore, St.app, bump, isNew, map_se]
      refine ⟨by kernel_rfl, ?_⟩
      try simp (maxSteps := 1000000) only [ew]
      simp only [loopT_normal, St.trunc, St.keep, truncVs, truncV, AB.trunc, keepV, List.elem_cons, List.elem_nil, List.take_succ_cons, List.take_zero, List.map_cons, List.map_nil, Nat.reduceAdd, Nat.reduceBEq, Nat.reduceLeDiff, Nat.zero_add, Bool.false_eq_true, ↓reduceIte]
      refine ⟨i + 1, hlt, by omega, ?_⟩
      rw [e1]
      exact Turns.refl _
    · have e1 : madeF (l.take (i + 1)) most = ((sweepF B (addW now a.by_)).1, addW now a.by_) := by rw [hn, madeStep, if_pos hsw]
      try simp (maxSteps := 1000000) only [go_region, go_op, opK_none, opK_some, contK_some, condK_t, callOf, callK_eq, callJ_nil, callD_fn, fstep, fpre, fstep0, fload, fcell, evs, T, TI.isAgg, St.ev, St.put, AV.owners, ownersAll, List.getD_cons_zero, List.getD_cons_succ, List.set, List.length_cons, List.length_nil, List.drop_zero, List.take_succ_cons, List.take_zero, List.append_nil, List.getElem?_cons_zero, List.getElem?_cons_succ, true_and, Bool.true_and, ↓reduceIte, Nat.reduceAdd, Nat.le_refl, Nat.zero_add]
      (refine callG_use (sweep_call 200 B (addW now a.by_) hok (by omega)) rfl ?_; rintro _ rfl)
      try simp (maxSteps := 1000000) only [go_nil, go_region, go_blk, go_ops_nil, go_op, opK_none, contK_some, callOf, fstep, fpre, fstep0, fbinA, fbin, fbin0, fstore, T, St.ev, St.put, splice, AV.cells, AV.known, AV.flat, List.getD_cons_zero, List.getD_cons_succ, List.set, List.length_cons, List.length_nil, List.all_cons, List.all_nil, List.drop_succ_cons, List.drop_zero, List.take_zero, List.nil_append, List.append_nil, List.getElem?_cons_zero, List.getElem?_cons_succ, true_and, and_true, Bool.and_true, Bool.true_and, Bool.and_self, Nat.reduceAdd, Nat.reduceLT, Nat.le_refl, Nat.zero_add, map_se, ew]
      simp only [loopT_normal, St.trunc, St.keep, truncVs, truncV, AB.trunc, keepV, List.elem_cons, List.elem_nil, List.take_succ_cons, List.take_zero, List.map_cons, List.map_nil, Nat.reduceAdd, Nat.reduceBEq, Nat.reduceLeDiff, Nat.zero_add, Bool.false_eq_true, ↓reduceIte]
      refine ⟨i + 1, hlt, by omega, ?_⟩
      rw [e1]
      exact Turns.refl _
  · obtain rfl := at_end hi h
    rw [List.take_length]
    try simp (maxSteps := 1000000) only [go_region, go_seq, go_exit, go_ret, exitK_code, exitK_blk, exitK_nil, go_ops_nil, go_op, opK_none, contK_some, condK_f, callOf, fstep, fpre, fstep0, fload, fcell, fstore, T, TI.isAgg, St.ev, St.put, splice, AV.cells, AV.known, AV.flat, List.getD_cons_zero, List.getD_cons_succ, List.set, List.length_cons, List.length_nil, List.all_cons, List.all_nil, List.drop_succ_cons, List.drop_zero, List.take_succ_cons, List.take_zero, List.nil_append, List.append_nil, List.getElem?_cons_zero, List.getElem?_cons_succ, true_and, and_true, Bool.and_true, Bool.true_and, Bool.and_self, ↓reduceIte, Nat.reduceAdd, Nat.le_refl, Nat.zero_add, loopT_exit]
    apply hK
    simp only [Try.results39, retK, ares, List.take_nil, Bool.and_true, Bool.true_and, AV.ofResults, St.trunc, truncVs, truncV, aload, acell, T, TI.isAgg, List.getD_cons_zero, List.getD_cons_succ, List.take_zero, List.take_succ_cons, List.drop_zero, List.map_nil, List.getElem?_cons_zero, List.length_cons, List.length_nil, Nat.reduceAdd, Nat.le_refl, true_and, and_true, ↓reduceIte, List.cons.injEq, exists_eq_left']
    try rfl
end Go.Proofs.Ytljgfapbbhbbpaa
