/- The row of BookPlays, out of its contract. Printed by row.py, a program of this session. -/
import Derived.Test.YtljgfapbbhbbpaaMa
import Derived.Test.YtljgfapbbhbbpaaMb
import Derived.Test.YtljgfapbbhbbpaaRows
import Derived.Test.YtljgfapbbhbbpaaSymU
namespace Go.Proofs.Ytljgfapbbhbbpaa
open Go Go.Proofs.Ytljgfapbbhbbpaa.Sym
set_option maxRecDepth 100000
set_option linter.unusedSimpArgs false
set_option linter.unusedVariables false

section
variable {α β : Type} {lt eq : α → α → Bool}
theorem mid_parts (O : StrictOrd lt) {A D : List (α × β)} {k : α} {x : β} (h : RisesM lt (A ++ (k, x) :: D)) :
    (∀ p ∈ A, lt p.1 k = true ∧ lt k p.1 = false) ∧ (∀ p ∈ D, lt k p.1 = true ∧ lt p.1 k = false) := by
  have hp := List.pairwise_append.1 (risesM_iff.1 h)
  have hc := List.pairwise_cons.1 hp.2.1
  have anti : ∀ a b, lt a b = true → lt b a = false := fun a b hab => by
    cases hb : lt b a with
    | false => rfl
    | true => have := O.trans _ _ _ hab hb; rw [O.irrefl] at this; cases this
  exact ⟨fun p hpA => by have := hp.2.2 p hpA (k, x) List.mem_cons_self; exact ⟨this, anti _ _ this⟩, fun p hpD => ⟨hc.1 p hpD, anti _ _ (hc.1 p hpD)⟩⟩
theorem with_mid (O : StrictOrd lt) (he : ∀ a b, eq a b = true ↔ a = b) {A D : List (α × β)} {k : α} {x : β} (v : β) (h : RisesM lt (A ++ (k, x) :: D)) :
    withG lt eq (A ++ (k, x) :: D) k v = A ++ (k, v) :: D := by
  obtain ⟨hA, hD⟩ := mid_parts O h
  rw [with_eq O he h, List.filter_append, List.filter_append, List.filter_cons, List.filter_cons, O.irrefl, filter_all' (fun p hp => (hA p hp).1), filter_none' (l := D) (fun p hp => (hD p hp).2),
    filter_none' (l := A) (fun p hp => (hA p hp).2), filter_all' (fun p hp => (hD p hp).1)]
  simp
theorem without_mid (O : StrictOrd lt) (he : ∀ a b, eq a b = true ↔ a = b) {A D : List (α × β)} {k : α} {x : β} (h : RisesM lt (A ++ (k, x) :: D)) :
    withoutG lt eq (A ++ (k, x) :: D) k = A ++ D := by
  obtain ⟨hA, hD⟩ := mid_parts O h
  have ne : ∀ a b, (lt a b = true ∨ lt b a = true) → eq a b = false := fun a b hab => by
    cases hb : eq a b with
    | false => rfl
    | true =>
      have := (he _ _).1 hb
      subst this
      rw [O.irrefl] at hab; simp at hab
  rw [without_eq O he h, List.filter_append, List.filter_cons, filter_all' (l := A) (fun p hp => by rw [ne _ _ (.inl (hA p hp).1)]; rfl), filter_all' (l := D) (fun p hp => by rw [ne _ _ (.inr (hD p hp).1)]; rfl), (he k k).2 rfl]
  simp
end

/-- An entry behind a sweep, if it stays. -/
def sweptE (now : Int) (p : ByteArray × En) : Option (ByteArray × En) := if (lives now p.2.l).length = 0 then none else some (p.1, ⟨lives now p.2.l, ofP (lives now p.2.l) now⟩)
theorem sweepTo_eq {m : Bk} (h : rises_se m) (now : Int) : ∀ i, (sweepTo m now i).1 = (m.take i).filterMap (sweptE now) ++ m.drop i := by
  intro i
  induction i with
  | zero => rfl
  | succ i ih =>
    by_cases hi : i < m.length
    · have hr := (sweep_ok h now i).1
      rw [ih, List.drop_eq_getElem_cons hi] at hr
      rw [sweep_next hi, sweepStep, ih, take_one hi, List.filterMap_append, List.drop_eq_getElem_cons hi]
      simp only
      generalize (m.take i).filterMap (sweptE now) = A at hr ⊢
      generalize m.drop (i + 1) = D at hr ⊢
      generalize m[i] = p at hr ⊢
      obtain ⟨k, e⟩ := p
      unfold settleB
      by_cases hl : (lives now e.l).length = 0
      · rw [if_pos hl, without_mid ordS eqS_iff hr]
        simp [sweptE, hl]
      · rw [if_neg hl, with_mid ordS eqS_iff _ hr]
        simp [sweptE, hl]
    · have e : sweepTo m now (i + 1) = sweepTo m now i := by
        rw [sweepTo, sweepTo, List.take_of_length_le (by omega), List.take_of_length_le (by omega)]
      rw [e, ih, List.take_of_length_le (by omega), List.take_of_length_le (l := m) (by omega), List.drop_of_length_le (by omega), List.drop_of_length_le (by omega)]
theorem sweepF_eq {m : Bk} (h : rises_se m) (now : Int) : (sweepF m now).1 = m.filterMap (sweptE now) := by
  have := sweepTo_eq h now m.length
  rw [List.take_length, List.drop_length, List.append_nil] at this
  rw [← this, sweepTo, List.take_length, sweepF]
theorem swept_mem {m : Bk} {now : Int} {p : ByteArray × En} (h : p ∈ m.filterMap (sweptE now)) : ∃ q ∈ m, p = (q.1, ⟨lives now q.2.l, ofP (lives now q.2.l) now⟩) ∧ (lives now q.2.l).length ≠ 0 := by
  obtain ⟨q, hq, he⟩ := List.mem_filterMap.1 h
  unfold sweptE at he
  split at he
  · cases he
  · rename_i hn; cases he; exact ⟨q, hq, rfl, hn⟩
theorem book_sweep {n : Nat} {m : Bk} (h : bookOk n m) (now : Int) : bookOk n (sweepF m now).1 := by
  have e := sweepF_eq h.1 now
  have hr := (sweep_ok h.1 now m.length).1
  rw [show sweepTo m now m.length = sweepF m now by rw [sweepTo, List.take_length, sweepF]] at hr
  refine ⟨hr, ?_, ?_⟩
  · rw [e]; exact Nat.le_trans (List.length_filterMap_le _ _) h.2.1
  · intro p hp
    rw [e] at hp
    obtain ⟨q, hq, rfl, _⟩ := swept_mem hp
    have := h.2.2 q hq
    exact ⟨lives_up this.1 now, Nat.le_trans (List.length_filter_le _ _) this.2⟩
theorem settle_mem {m : Bk} (hr : rises_se m) {u : ByteArray} {l : List Ses} {now : Int} {p : ByteArray × En} (h : p ∈ settleB m u l now) : p ∈ m ∨ (p = (u, ⟨l, ofP l now⟩) ∧ l.length ≠ 0) := by
  unfold settleB at h
  split at h
  · rw [without_eq ordS eqS_iff hr] at h
    exact .inl (List.mem_filter.1 h).1
  · rename_i hn
    rcases (mem_with ordS eqS_iff hr).1 h with h | h
    · exact .inr ⟨h, hn⟩
    · exact .inl h.1
theorem book_write {n : Nat} {m : Bk} (h : bookOk n m) (o : Opb) (now most : Int) : bookOk (n + 1) (writeB m o now most) := by
  have hs := settleB_rises h.1 o.u (writeL m o now most).1 now
  refine ⟨hs.1, Nat.le_trans hs.2 (by have := h.2.1; omega), ?_⟩
  intro p hp
  rcases settle_mem h.1 hp with hp | ⟨rfl, _⟩
  · have := h.2.2 p hp; exact ⟨this.1, by omega⟩
  · exact writeL_ok h o now most
theorem bookOk.mono {n k : Nat} {m : Bk} (h : bookOk n m) (hk : n ≤ k) : bookOk k m := ⟨h.1, Nat.le_trans h.2.1 hk, fun p hp => ⟨(h.2.2 p hp).1, Nat.le_trans (h.2.2 p hp).2 hk⟩⟩

/-- An act, as the program holds it. -/
structure ActB where
  sw : Bool
  op : Opb
  by_ : Int
def ActB.av (a : ActB) : AV := .agg [bool a.sw, i64 a.op.kind, str a.op.u, i64 a.op.id, i64 a.op.st, i64 a.op.pr, u64 a.op.ttl, .sl 1 (a.op.us.map fun x => str x), u64 a.by_]
def bacts (l : List ActB) : List AV := l.map ActB.av
theorem bacts_len (l : List ActB) : (bacts l).length = l.length := by simp [bacts]
theorem act_idx {l : List ActB} {i : Nat} (hb : l.length ≤ 9223372036854775807) (h : decide ((i : Int) < (l.length : Int)) = true) :
    ∃ hlt : i < l.length, (bacts l).getD (Int.toNat (i : Int)) .any = .agg [bool l[i].sw, i64 l[i].op.kind, str l[i].op.u, i64 l[i].op.id, i64 l[i].op.st, i64 l[i].op.pr, u64 l[i].op.ttl, .sl 1 (l[i].op.us.map fun x => str x), u64 l[i].by_] ∧ IntKind.i64.wrap ((i : Int) + 1) = ((i + 1 : Nat) : Int) ∧ ((0 : Int) ≤ (i : Int) ∧ Int.toNat (i : Int) < l.length) := by
  have hlt : i < l.length := by simpa using h
  exact ⟨hlt, at_map hlt, by rw [wrap_i64 (by omega) (by omega)]; rfl, by omega⟩
def madeStep (most : Int) (s : Bk × Int) (a : ActB) : Bk × Int := (if a.sw = true then (sweepF s.1 (addW s.2 a.by_)).1 else writeB s.1 a.op (addW s.2 a.by_) most, addW s.2 a.by_)
def madeF (l : List ActB) (most : Int) : Bk × Int := l.foldl (madeStep most) ([], 0)
theorem made_next {l : List ActB} {most : Int} {i : Nat} (h : i < l.length) : madeF (l.take (i + 1)) most = madeStep most (madeF (l.take i) most) l[i] := by
  rw [take_one h, madeF, List.foldl_append]; rfl
theorem made_ok (l : List ActB) (most : Int) : bookOk l.length (madeF l most).1 := by
  refine snoc_ind (p := fun l => bookOk l.length (madeF l most).1) ⟨List.Pairwise.nil, Nat.le_refl _, fun p hp => by cases hp⟩ ?_ l
  intro l a ih
  have e : madeF (l ++ [a]) most = madeStep most (madeF l most) a := by rw [madeF, List.foldl_append]; rfl
  rw [e, madeStep, List.length_append, List.length_singleton]
  simp only
  split
  · exact (book_sweep ih _).mono (Nat.le_succ _)
  · exact book_write ih _ _ _
theorem nil_se : weak (.agg [.v (.slice none 0 0), .v (.slice none 0 0)]) (map_se []) := .inr ⟨_, rfl, _, _, rfl, weak_nil 1, _, _, rfl, weak_nil 4, rfl⟩
theorem made_call (l : List ActB) (most : Int) (hl : l.length ≤ 200) : PCall P 39 [.sl 9 (bacts l), i64 most] (fun x => x = .tup [map_se (madeF l most).1, u64 (madeF l most).2]) := by
  refine pcall_go tyOk Try.func39 rfl rfl ?_
  intro K hK
  simp only [Try.ntmps39, List.length_cons, List.length_nil, Nat.reduceAdd, Nat.reduceSub, List.replicate, List.cons_append, List.nil_append]
  try simp (maxSteps := 1000000) only [go_region, go_seq, go_block, go_loop, go_ops_nil, go_op, opK_none, contK_some, callOf, fstep, fpre, fstep0, T, St.ev, St.put, List.set, List.map_cons, List.map_nil, List.length_cons, List.length_nil, List.cons_append, List.nil_append, true_and, Bool.true_and, Nat.zero_add]
  refine loopK_ruleT tyOk (α := Nat) 2 [0, 1, 4, 6, 7, 8] (fun i => i ≤ l.length)
    (fun i => ⟨[.sl 9 (bacts l), i64 most, .any, .any, .ptr 0 0, .any, .ptr 1 0, u64 (madeF (l.take i) most).2, i64 i, .any, .any, .any, .any, .any, .any, .any, .any, .any, .any, .any, .any, .any, .any, .any, .any, .any, .any, .any, .any, .any, .any, .any, .any, .any, .any, .any, .any, .any, .any, .any, .any, .any, .any, .any, .any, .any, .any, .any], [.box [.v (.slice none 0 0), .v (.slice none 0 0)], ebox (madeF (l.take i) most).1]⟩)
    (fun i => l.length - i) 0 (Nat.zero_le _) (Nat.zero_le _) (Turns.weak (weaks_refl _) ⟨_, _, rfl, weakB_refl _, _, _, rfl, ⟨_, rfl, _, _, rfl, weak_nil 1, _, _, rfl, weak_nil 4, rfl⟩, rfl⟩) ?_
  intro i hi
  try simp (maxSteps := 1000000) only [go_region, go_seq, go_cond, go_ops_nil, go_op, opK_none, contK_some, callOf, fstep, fpre, fstep0, fbinA, fbin, fbin0, flen, T, St.ev, St.put, List.getD_cons_zero, List.getD_cons_succ, List.set, true_and, Bool.true_and, bacts_len]
  (first | refine guardV_split ?_ ?_ | refine condK_split ?_ ?_ | refine drawV_split ?_ ?_ | refine condY_split ?_ ?_ | refine guardY_split ?_ ?_) <;> intro h
  · obtain ⟨hlt, eg, ew, c1⟩ := act_idx (by omega) h
    have hok := made_ok (l.take i) most
    have hn := made_next (most := most) hlt
    obtain ⟨⟨B, now⟩, hB⟩ : ∃ s, madeF (l.take i) most = s := ⟨_, rfl⟩
    rw [hB] at hok hn
    simp only [hB]
    have hok := hok.mono (show (l.take i).length ≤ 200 by rw [List.length_take]; omega)
    obtain ⟨a, ha⟩ : ∃ a, l[i] = a := ⟨_, rfl⟩
    rw [ha] at eg hn
    try simp (maxSteps := 1000000) only [go_skip, go_region, go_seq, go_block, go_op, opK_none, opK_some, contK_some, condK_t, callOf, callK_eq, callJ_nil, callD_fn, fstep, fpre, fstep0, fload, fcell, ffieldAddr, findexAddr, evs, T, TI.isAgg, St.ev, St.put, AV.cells, AV.known, AV.owners, ownersAll, List.getD_cons_zero, List.getD_cons_succ, List.set, List.length_cons, List.length_nil, List.drop_succ_cons, List.drop_zero, List.headD_cons, List.append_nil, List.getElem?_cons_zero, List.getElem?_cons_succ, List.getElem?_toArray, true_and, and_true, Bool.and_true, Bool.true_and, Bool.false_eq_true, ↓reduceIte, reduceCtorEq, ne_eq, not_false_eq_true, Nat.reduceLT, Nat.zero_add, eg, c1, bacts_len]
    (refine callG_use (law_later now a.by_) rfl ?_; rintro _ rfl)
    try simp (maxSteps := 1000000) only [go_region, go_seq, go_cond, go_ops_nil, go_op, opK_none, contK_some, callOf, fstep, fpre, fstep0, fload, fcell, ffieldAddr, findexAddr, T, TI.isAgg, St.ev, St.put, AV.cells, AV.known, List.getD_cons_zero, List.getD_cons_succ, List.set, List.length_cons, List.length_nil, List.drop_zero, List.headD_cons, List.getElem?_cons_zero, List.getElem?_toArray, true_and, and_true, Bool.and_true, Bool.true_and, Bool.false_eq_true, ↓reduceIte, reduceCtorEq, ne_eq, not_false_eq_true, Nat.reduceAdd, Nat.reduceLT, Nat.zero_add, eg, c1, bacts_len]
    cases hsw : a.sw
    · have e1 : madeF (l.take (i + 1)) most = (writeB B a.op (addW now a.by_) most, addW now a.by_) := by rw [hn, madeStep, if_neg (by rw [hsw]; decide)]
      have hwr := write_call 200 B a.op (addW now a.by_) most hok (by omega)
      unfold Opb.av at hwr
      try simp (maxSteps := 1000000) only [go_draws, condK_f]
      refine draw_rule tyOk (by rfl) (by simp only [List.length_cons, List.length_nil, Nat.reduceAdd, Nat.zero_le]) (by kernel_rfl) rfl ?_
      try simp (maxSteps := 1000000) only [callOf, fstep0, newF, fload, fcell, ffieldAddr, findexAddr, evs, T, TI.isAgg, St.ev, St.put, AV.cells, AV.known, List.getD_cons_zero, List.getD_cons_succ, List.set, List.length_cons, List.length_nil, List.drop_succ_cons, List.drop_zero, List.take_succ_cons, List.take_zero, List.append_nil, List.getElem?_cons_zero, List.getElem?_cons_succ, List.replicate, List.getElem?_toArray, true_and, and_true, Bool.and_true, Bool.true_and, Bool.or_false, Bool.false_eq_true, ↓reduceIte, reduceCtorEq, ne_eq, not_false_eq_true, Nat.reduceAdd, Nat.reduceLeDiff, Nat.le_refl, Nat.add_zero, Nat.zero_add, Nat.reduceBEq, newCount, drawR_op, drawP_none, drawP_some, drawQ_some, drawH_fn, dstep, isFree, St.app, bump, isNew, eg, c1, bacts_len]
      refine drawCall_use hwr rfl ?_
      try simp (maxSteps := 1000000) only [go_nil, go_region, go_blk, go_ops_nil, go_op, opK_none, contK_some, callOf, fstep, fpre, fstep0, fbinA, newF, fbin, fbin0, T, St.ev, St.put, splice, AV.cells, AV.known, AV.flat, List.getD_cons_zero, List.getD_cons_succ, List.set, List.length_cons, List.length_nil, List.all_cons, List.all_nil, List.drop_succ_cons, List.drop_zero, List.take_zero, List.nil_append, List.append_nil, List.getElem?_cons_zero, List.getElem?_cons_succ, true_and, and_true, Bool.and_true, Bool.true_and, Bool.and_self, Bool.or_false, Bool.false_eq_true, ↓reduceIte, Nat.reduceAdd, Nat.reduceLT, Nat.le_refl, Nat.zero_add, Nat.reduceBEq, drawR_nil, drawR_op, drawP_none, drawQ_some, dstep, isFree, dstore, St.app, bump, isNew, map_se]
      refine ⟨by kernel_rfl, ?_⟩
      try simp (maxSteps := 1000000) only [ew]
      simp only [loopT_normal, St.trunc, St.keep, truncVs, truncV, AB.trunc, keepV, List.elem_cons, List.elem_nil, List.take_succ_cons, List.take_zero, List.map_cons, List.map_nil, Nat.reduceAdd, Nat.reduceBEq, Nat.reduceLeDiff, Nat.zero_add, Bool.false_eq_true, ↓reduceIte]
      refine ⟨i + 1, hlt, by omega, ?_⟩
      rw [e1]
      exact Turns.refl _
    · have e1 : madeF (l.take (i + 1)) most = ((sweepF B (addW now a.by_)).1, addW now a.by_) := by rw [hn, madeStep, if_pos hsw]
      try simp (maxSteps := 1000000) only [go_region, go_op, opK_none, opK_some, contK_some, condK_t, callOf, callK_eq, callJ_nil, callD_fn, fstep, fpre, fstep0, fload, fcell, evs, T, TI.isAgg, St.ev, St.put, AV.owners, ownersAll, List.getD_cons_zero, List.getD_cons_succ, List.set, List.length_cons, List.length_nil, List.drop_zero, List.take_succ_cons, List.take_zero, List.append_nil, List.getElem?_cons_zero, List.getElem?_cons_succ, true_and, Bool.true_and, ↓reduceIte, Nat.reduceAdd, Nat.le_refl, Nat.zero_add]
      (refine callG_use (sweep_call 200 B (addW now a.by_) hok (by omega)) rfl ?_; rintro _ rfl)
      try simp (maxSteps := 1000000) only [go_nil, go_region, go_blk, go_ops_nil, go_op, opK_none, contK_some, callOf, fstep, fpre, fstep0, fbinA, fbin, fbin0, fstore, T, St.ev, St.put, splice, AV.cells, AV.known, AV.flat, List.getD_cons_zero, List.getD_cons_succ, List.set, List.length_cons, List.length_nil, List.all_cons, List.all_nil, List.drop_succ_cons, List.drop_zero, List.take_zero, List.nil_append, List.append_nil, List.getElem?_cons_zero, List.getElem?_cons_succ, true_and, and_true, Bool.and_true, Bool.true_and, Bool.and_self, Nat.reduceAdd, Nat.reduceLT, Nat.le_refl, Nat.zero_add, map_se, ew]
      simp only [loopT_normal, St.trunc, St.keep, truncVs, truncV, AB.trunc, keepV, List.elem_cons, List.elem_nil, List.take_succ_cons, List.take_zero, List.map_cons, List.map_nil, Nat.reduceAdd, Nat.reduceBEq, Nat.reduceLeDiff, Nat.zero_add, Bool.false_eq_true, ↓reduceIte]
      refine ⟨i + 1, hlt, by omega, ?_⟩
      rw [e1]
      exact Turns.refl _
  · obtain rfl := at_end hi h
    rw [List.take_length]
    try simp (maxSteps := 1000000) only [go_region, go_seq, go_exit, go_ret, exitK_code, exitK_blk, exitK_nil, go_ops_nil, go_op, opK_none, contK_some, condK_f, callOf, fstep, fpre, fstep0, fload, fcell, fstore, T, TI.isAgg, St.ev, St.put, splice, AV.cells, AV.known, AV.flat, List.getD_cons_zero, List.getD_cons_succ, List.set, List.length_cons, List.length_nil, List.all_cons, List.all_nil, List.drop_succ_cons, List.drop_zero, List.take_succ_cons, List.take_zero, List.nil_append, List.append_nil, List.getElem?_cons_zero, List.getElem?_cons_succ, true_and, and_true, Bool.and_true, Bool.true_and, Bool.and_self, ↓reduceIte, Nat.reduceAdd, Nat.le_refl, Nat.zero_add, loopT_exit]
    apply hK
    simp only [Try.results39, retK, ares, List.take_nil, Bool.and_true, Bool.true_and, AV.ofResults, St.trunc, truncVs, truncV, aload, acell, T, TI.isAgg, List.getD_cons_zero, List.getD_cons_succ, List.take_zero, List.take_succ_cons, List.drop_zero, List.map_nil, List.getElem?_cons_zero, List.length_cons, List.length_nil, Nat.reduceAdd, Nat.le_refl, true_and, and_true, ↓reduceIte, List.cons.injEq, exists_eq_left']
    try rfl
end Go.Proofs.Ytljgfapbbhbbpaa
namespace Go.Proofs.Ytljgfapbbhbbpaa
open Go Go.Proofs.Ytljgfapbbhbbpaa.Sym
set_option maxRecDepth 100000
set_option linter.unusedSimpArgs false
set_option linter.unusedVariables false

def annOp : Opb := ⟨1, ⟨#[97, 110, 110]⟩, 1, 3, 0, 5, []⟩
def annBk : Bk := [(⟨#[97, 110, 110]⟩, ⟨[⟨1, 3, 0, 15⟩], ⟨3, 0, 1⟩⟩)]
theorem ann_B : writeB [] annOp 10 4 = annBk := by rfl
theorem ann_C : writeC [] annOp 10 4 = [⟨⟨#[97, 110, 110]⟩, ⟨0, 0, 0⟩, ⟨3, 0, 1⟩⟩] := by rfl
theorem ann_E : (writeL [] annOp 10 4).2 = 0 := by rfl
theorem ann_ok : bookOk 1 annBk := by
  have := book_write (n := 0) (m := []) ⟨List.Pairwise.nil, Nat.le_refl _, fun p hp => by cases hp⟩ annOp 10 4
  rwa [ann_B] at this
theorem ann_S : sweepF annBk 15 = ([], [⟨⟨#[97, 110, 110]⟩, ⟨3, 0, 1⟩, ⟨0, 0, 0⟩⟩]) := by
  have hl : lives 15 [(⟨1, 3, 0, 15⟩ : Ses)] = [] := by rfl
  have h1 : settleB annBk ⟨#[97, 110, 110]⟩ (lives 15 [⟨1, 3, 0, 15⟩]) 15 = [] := by
    rw [hl, settleB, if_pos (show ([] : List Ses).length = 0 from rfl)]
    exact without_mid (A := []) (D := []) ordS eqS_iff ann_ok.1
  have h2 : settleC annBk ⟨#[97, 110, 110]⟩ (lives 15 [⟨1, 3, 0, 15⟩]) 15 = [⟨⟨#[97, 110, 110]⟩, ⟨3, 0, 1⟩, ⟨0, 0, 0⟩⟩] := by
    have hw : wasOf annBk ⟨#[97, 110, 110]⟩ = ⟨[⟨1, 3, 0, 15⟩], ⟨3, 0, 1⟩⟩ := by
      rw [wasOf, get_mem ordS eqS_iff ann_ok.1 (k := ⟨#[97, 110, 110]⟩) (v := ⟨[⟨1, 3, 0, 15⟩], ⟨3, 0, 1⟩⟩) (by simp [annBk])]
    rw [settleC, hw, hl]; rfl
  show (settleB annBk ⟨#[97, 110, 110]⟩ (lives 15 [⟨1, 3, 0, 15⟩]) 15, [] ++ settleC annBk ⟨#[97, 110, 110]⟩ (lives 15 [⟨1, 3, 0, 15⟩]) 15) = _
  rw [h1, h2]; rfl
theorem law08_awake : PCall P 33 [] (fun x => x = bool true) := by
  refine pcall_go tyOk Try.func33 rfl rfl ?_
  intro K hK
  simp only [Try.ntmps33, List.length_nil, Nat.reduceSub, List.replicate, List.nil_append]
  have w0 := write_call 0 [] annOp 10 4 ⟨List.Pairwise.nil, Nat.le_refl _, fun p hp => by cases hp⟩ (by decide)
  rw [ann_B, ann_C, ann_E] at w0
  have w1 : PCall P 37 [.agg [.v (.slice none 0 0), .v (.slice none 0 0)], .agg [i64 1, str ⟨#[97, 110, 110]⟩, i64 1, i64 3, i64 0, u64 5, .v (.slice none 0 0)], u64 10, i64 4]
      (fun x => x = .tup [.agg [.sl 1 [str ⟨#[97, 110, 110]⟩], .sl 4 [.agg [.sl 4 (avs [⟨1, 3, 0, 15⟩]), i64 3, i64 0, i64 1]]], .sl 7 [.agg [str ⟨#[97, 110, 110]⟩, i64 0, i64 0, i64 0, i64 3, i64 0, i64 1]], i64 0]) :=
    PCall.weakArgs w0 ⟨_, _, rfl, nil_se, _, _, rfl, .inr ⟨_, rfl, _, _, rfl, weak_refl _, _, _, rfl, weak_refl _, _, _, rfl, weak_refl _, _, _, rfl, weak_refl _, _, _, rfl, weak_refl _, _, _, rfl, weak_refl _, _, _, rfl, weak_nil 1, rfl⟩, weaks_refl _⟩
  have s0 := sweep_call 1 annBk 15 ann_ok (by decide)
  rw [ann_S] at s0
  have s1 : PCall P 36 [.agg [.sl 1 [str ⟨#[97, 110, 110]⟩], .sl 4 [.agg [.sl 4 (avs [⟨1, 3, 0, 15⟩]), i64 3, i64 0, i64 1]]], u64 15]
      (fun x => x = .tup [.agg [.sl 1 [], .sl 4 []], .sl 7 [.agg [str ⟨#[97, 110, 110]⟩, i64 3, i64 0, i64 1, i64 0, i64 0, i64 0]]]) := s0
  have hlen : PCall P 43 [.agg [.sl 1 [], .sl 4 []]] (fun x => x = i64 ((0 : Nat) : Int)) := len_call_se []
  have c0 : (((0 : Nat) : Int) == 0) = true := by decide
  have c1 : (((1 : Nat) : Int) == 1) = true := by decide
  have c2 : ((1 : Int) == 1) = true := by decide
  have c3 : ((3 : Int) == 3) = true := by decide
  have c4 : ((0 : Int) == 0) = true := by decide
  have g0 : ∀ x : AV, [x].getD (Int.toNat 0) .any = x := fun x => rfl
  have l0 : Int.toNat 0 < 1 := by decide
  try simp (maxSteps := 1000000) only [go_region, go_seq, go_ops_nil, go_op, opK_none, opK_some, contK_some, callOf, callK_eq, callJ_nil, callD_fn, fstep, fpre, fstep0, fload, fcell, ffill, fieldPlaces, fieldsOk, fbuild, evParts, evs, T, TI.isAgg, St.ev, St.put, splice, AV.cells, AV.known, AV.owners, ownersAll, Value.cells, List.getD_cons_zero, List.getD_cons_succ, List.set, List.map_cons, List.map_nil, List.length_cons, List.length_nil, List.drop_succ_cons, List.drop_zero, List.take_succ_cons, List.take_zero, List.cons_append, List.nil_append, List.append_nil, List.getElem?_cons_zero, List.getElem?_cons_succ, Option.isSome_some, List.getElem?_toArray, true_and, and_true, Bool.and_true, Bool.true_and, Bool.and_self, ↓reduceIte, Nat.reduceAdd, Nat.reduceLeDiff, Nat.le_refl, Nat.zero_add]
  (refine callG_use w1 rfl ?_; rintro _ rfl)
  try simp (maxSteps := 1000000) only [go_region, go_seq, go_ops_nil, go_op, opK_none, opK_some, contK_some, callOf, callK_eq, callJ_nil, callD_fn, fstep, fpre, fstep0, fload, fcell, fstore, evs, T, TI.isAgg, St.ev, St.put, splice, AV.cells, AV.known, AV.flat, AV.owners, ownersAll, List.getD_cons_zero, List.getD_cons_succ, List.set, List.map_cons, List.map_nil, List.length_cons, List.length_nil, List.all_cons, List.all_nil, List.drop_succ_cons, List.drop_zero, List.take_succ_cons, List.take_zero, List.cons_append, List.nil_append, List.append_nil, List.getElem?_cons_zero, List.getElem?_cons_succ, true_and, and_true, Bool.and_true, Bool.true_and, Bool.and_self, ↓reduceIte, Nat.reduceAdd, Nat.reduceLT, Nat.le_refl, Nat.zero_add]
  (refine callG_use s1 rfl ?_; rintro _ rfl)
  try simp (maxSteps := 1000000) only [go_region, go_seq, go_ops_nil, go_op, go_guard, opK_none, opK_some, contK_some, guardK_eq, guardV_tt, callOf, callK_eq, callJ_nil, callD_fn, fstep, fpre, fstep0, fbinA, fbin, fbin0, fload, fcell, fstore, ffieldAddr, findexAddr, flen, evs, fpick, T, TI.isAgg, St.ev, St.put, splice, AV.cells, AV.known, AV.flat, AV.owners, ownersAll, List.getD_cons_zero, List.getD_cons_succ, List.set, List.map_cons, List.map_nil, List.length_cons, List.length_nil, List.all_cons, List.all_nil, List.drop_succ_cons, List.drop_zero, List.take_succ_cons, List.take_zero, List.headD_cons, List.cons_append, List.nil_append, List.append_nil, List.getElem?_cons_zero, List.getElem?_cons_succ, Option.bind_some, List.getElem?_toArray, true_and, and_true, Bool.and_true, Bool.true_and, Bool.and_self, Bool.false_eq_true, ↓reduceIte, reduceCtorEq, ne_eq, not_false_eq_true, Nat.reduceAdd, Nat.reduceLT, Nat.le_refl, Nat.zero_add, cond_true, Int.reduceLE, beq_self_eq_true, c1, g0, l0]
  (refine callG_use hlen rfl ?_; rintro _ rfl)
  try simp (maxSteps := 1000000) only [go_ret, go_ops_nil, go_op, go_guard, opK_none, contK_some, guardK_eq, guardV_tt, callOf, fstep, fpre, fstep0, fbinA, fbin, fbin0, fpick, St.ev, St.put, List.getD_cons_zero, List.getD_cons_succ, List.set, List.getElem?_cons_zero, List.getElem?_cons_succ, Option.bind_some, List.getElem?_toArray, true_and, Bool.true_and, cond_true, c0]
  apply hK
  simp only [Try.results33, retK, ares, Bool.and_true, Bool.true_and, AV.ofResults, St.trunc, truncVs, truncV, List.getD_cons_zero, List.take_zero, List.map_nil, true_and, and_true, List.cons.injEq, exists_eq_left']
  try exact congrArg bool c0

def longB (l : List ActB) : Bool := decide (120 < l.length) || l.any (fun a => decide (100 < (a.op.u.size : Int)))
theorem longB_few {l : List ActB} (h : longB l = false) : l.length ≤ 120 := by
  simp only [longB, Bool.or_eq_false_iff, decide_eq_false_iff_not] at h
  omega
theorem law08_long (l : List ActB) (hl : l.length ≤ maxLen) : PCall P 34 [.sl 9 (bacts l)] (fun x => x = bool (longB l)) := by
  simp only [maxLen] at hl
  refine pcall_go tyOk Try.func34 rfl rfl ?_
  intro K hK
  simp only [Try.ntmps34, List.length_cons, List.length_nil, Nat.reduceAdd, Nat.reduceSub, List.replicate, List.cons_append, List.nil_append]
  try simp (maxSteps := 1000000) only [go_region, go_seq, go_cond, go_ops_nil, go_op, opK_none, contK_some, callOf, fstep, fpre, fstep0, fbinA, fbin, fbin0, flen, T, St.ev, St.put, List.getD_cons_zero, List.getD_cons_succ, List.set, true_and, Bool.true_and, bacts_len]
  (first | refine guardV_split ?_ ?_ | refine condK_split ?_ ?_ | refine drawV_split ?_ ?_ | refine condY_split ?_ ?_ | refine guardY_split ?_ ?_) <;> intro h0
  · have h0' : decide (120 < l.length) = true := by simp at h0 ⊢; omega
    try simp (maxSteps := 1000000) only [go_region, go_seq, go_ret, go_ops_nil, go_op, opK_none, contK_some, condK_t, callOf, fstep, fpre, fstep0, St.ev, St.put, List.set, true_and, Bool.true_and]
    apply hK
    simp only [Try.results34, retK, ares, List.take_nil, Bool.and_true, Bool.true_and, AV.ofResults, St.trunc, truncVs, truncV, List.getD_cons_zero, List.getD_cons_succ, List.map_nil, true_and, and_true, List.cons.injEq, exists_eq_left']
    rw [longB, h0', Bool.true_or]
  · have h0' : decide (120 < l.length) = false := by simp at h0 ⊢; omega
    try simp (maxSteps := 1000000) only [go_skip, go_region, go_seq, go_block, go_loop, go_ops_nil, go_op, opK_none, contK_some, condK_f, callOf, fstep, fpre, fstep0, St.ev, St.put, List.set, true_and, Bool.true_and]
    refine loopK_rule tyOk (α := Nat) 0 [0, 3] (fun i => i ≤ l.length ∧ (l.take i).any (fun a => decide (100 < (a.op.u.size : Int))) = false)
      (fun i => ⟨[.sl 9 (bacts l), .any, .any, i64 i, .any, .any, .any, .any, .any, .any, .any, .any, .any, .any, .any, .any, .any, .any, .any, .any, .any], []⟩)
      (fun i => l.length - i) 0 (Nat.zero_le _) ⟨Nat.zero_le _, rfl⟩ rfl ?_
    rintro i ⟨hi, ha⟩
    try simp (maxSteps := 1000000) only [go_region, go_seq, go_cond, go_ops_nil, go_op, opK_none, contK_some, callOf, fstep, fpre, fstep0, fbinA, fbin, fbin0, flen, T, St.ev, St.put, List.getD_cons_zero, List.getD_cons_succ, List.set, true_and, Bool.true_and, bacts_len]
    (first | refine guardV_split ?_ ?_ | refine condK_split ?_ ?_ | refine drawV_split ?_ ?_ | refine condY_split ?_ ?_ | refine guardY_split ?_ ?_) <;> intro h <;> try simp (maxSteps := 1000000) only [go_skip, go_region, go_seq, go_block, go_exit, go_ret, exitK_code, exitK_blk, exitK_nil, go_ops_nil, go_op, opK_none, contK_some, condK_t, condK_f, callOf, fstep, fpre, fpost, fstep0, fload, fcell, ffieldAddr, findexAddr, flen, T, TI.isAgg, St.ev, St.put, AV.cells, AV.known, Value.cells, List.getD_cons_zero, List.getD_cons_succ, List.set, List.getElem?_cons_zero, List.getElem?_cons_succ, List.getElem?_toArray, true_and, Bool.true_and, Bool.false_eq_true, ↓reduceIte, reduceCtorEq, ne_eq, not_false_eq_true, loopX_exit]
    · obtain ⟨hlt, eg, ew, c1⟩ := act_idx (by omega) h
      try simp (maxSteps := 1000000) only [go_cond, go_ops_nil, go_op, opK_none, contK_some, callOf, fstep, fpre, fstep0, fbinA, fbin, fbin0, St.ev, St.put, List.getD_cons_zero, List.getD_cons_succ, List.set, List.length_cons, List.length_nil, List.drop_succ_cons, List.drop_zero, List.headD_cons, true_and, and_true, Bool.and_true, Bool.true_and, Nat.reduceAdd, Nat.reduceLT, Nat.zero_add, eg, c1, bacts_len]
      (first | refine guardV_split ?_ ?_ | refine condK_split ?_ ?_ | refine drawV_split ?_ ?_ | refine condY_split ?_ ?_ | refine guardY_split ?_ ?_) <;> intro h2
      · try simp (maxSteps := 1000000) only [go_region, go_seq, go_ret, go_ops_nil, go_op, opK_none, contK_some, condK_t, callOf, fstep, fpre, fstep0, St.ev, St.put, List.set, true_and, Bool.true_and, loopX_ret]
        apply hK
        simp only [Try.results34, retK, ares, List.take_nil, Bool.and_true, Bool.true_and, AV.ofResults, St.trunc, truncVs, truncV, List.getD_cons_zero, List.getD_cons_succ, List.map_nil, true_and, and_true, List.cons.injEq, exists_eq_left']
        have : l.any (fun a => decide (100 < (a.op.u.size : Int))) = true := List.any_eq_true.2 ⟨l[i], List.getElem_mem _, h2⟩
        rw [longB, this, Bool.or_true]
      · try simp (maxSteps := 1000000) only [go_nil, go_skip, go_region, go_blk, go_ops_nil, go_op, opK_none, contK_some, condK_f, callOf, fstep, fpre, fstep0, fbinA, fbin, fbin0, St.ev, St.put, List.getD_cons_zero, List.getD_cons_succ, List.set, true_and, Bool.true_and, ew]
        simp only [loopX_normal, St.trunc, St.keep, truncVs, truncV, keepV, List.elem_cons, List.elem_nil, List.take_zero, List.map_nil, Nat.reduceAdd, Nat.reduceBEq, Nat.zero_add, Bool.false_eq_true, ↓reduceIte]
        refine ⟨i + 1, ⟨hlt, ?_⟩, by omega, rfl⟩
        rw [take_one hlt, List.any_append, ha]
        simpa using h2
    · obtain rfl := at_end hi h
      rw [List.take_length] at ha
      apply hK
      simp only [Try.results34, retK, ares, List.take_nil, Bool.and_true, Bool.true_and, AV.ofResults, St.trunc, truncVs, truncV, List.getD_cons_zero, List.getD_cons_succ, List.map_nil, true_and, and_true, List.cons.injEq, exists_eq_left']
      rw [longB, h0', ha]; rfl

def usr (p : ByteArray × En) : AV := .agg [str p.1, .sl 4 (avs p.2.l), i64 p.2.t.st, i64 p.2.t.pr, i64 p.2.t.n]
def usrs (m : Bk) : List AV := m.map usr
theorem usrs_len (m : Bk) : (usrs m).length = m.length := by simp [usrs]
theorem usrs_snoc (m : Bk) (p : ByteArray × En) : usrs m ++ [usr p] = usrs (m ++ [p]) := by simp [usrs]
theorem users_yield (M g : Bk) (p : ByteArray × En) (hg : g.length ≤ 10000) :
    ACallN P 2 67 [ebox M, .box [.own 2 5 0 g.length], .row 96 5 (usrs g)] [str p.1, En.av p.2, .ptr 1 0]
      (fun r m' => r = bool true ∧ m' = [ebox M, .box [.own 2 5 0 (g ++ [p]).length], .row 96 5 (usrs (g ++ [p]))]) := by
  refine acallN_go tyOk Try.func67 rfl rfl (by simp) ?_
  intro K hK
  simp only [Try.ntmps67, List.length_cons, List.length_nil, Nat.reduceAdd, Nat.reduceSub, List.replicate, List.cons_append, List.nil_append]
  have ev0 : En.av p.2 = .agg [.sl 4 (avs p.2.l), i64 p.2.t.st, i64 p.2.t.pr, i64 p.2.t.n] := rfl
  try simp (maxSteps := 1000000) only [go_region, go_seq, go_ret, go_ops_nil, go_op, opK_none, contK_some, callOf, fstep, fpre, fstep0, fload, fcell, fstore, ffieldAddr, ffill, fieldPlaces, fieldsOk, fbuild, evParts, evOwners, fbuildSlice, felems, fappend, T, TI.isAgg, TI.zeroOk, TI.zav, setParts, partsOk, St.ev, St.put, St.shutAll, St.rehome, killV, killVs, AB.kill, splice, AV.cells, AV.known, AV.flat, AV.pure, pureAll, AV.owners, ownersAll, Value.cells, Value.oneCell', List.getD_cons_zero, List.getD_cons_succ, List.set, List.map_cons, List.map_nil, List.length_cons, List.length_nil, List.all_cons, List.all_nil, List.drop_succ_cons, List.drop_zero, List.take_succ_cons, List.take_zero, List.headD_cons, List.cons_append, List.nil_append, List.append_nil, List.getElem?_cons_zero, List.getElem?_cons_succ, List.replicate, Option.isSome_some, List.getElem?_toArray, true_and, and_true, Bool.and_true, Bool.true_and, Bool.and_self, Bool.or_false, Bool.false_eq_true, ↓reduceIte, decide_true, decide_false, reduceCtorEq, ne_eq, not_false_eq_true, Nat.reduceAdd, Nat.reduceMul, Nat.reduceLeDiff, Nat.reduceEqDiff, Nat.reduceLT, Nat.le_refl, Nat.add_zero, Nat.zero_add, ev0, usrs_len]
  refine ⟨⟨by simp only [maxLen]; omega, by omega⟩, ?_⟩
  apply hK
  simp only [Try.results67, retK, ares, Bool.and_true, Bool.true_and, AV.ofResults, St.trunc, truncVs, truncV, AB.trunc, List.getD_cons_zero, List.getD_cons_succ, List.take_zero, List.take_succ_cons, List.map_nil, List.map_cons, List.length_cons, List.length_nil, Nat.reduceAdd, Nat.reduceLeDiff, true_and, and_true, ↓reduceIte, List.cons.injEq, exists_eq_left']
  rw [← usrs_snoc, List.length_append]; exact ⟨rfl, rfl⟩
theorem users_call (m : Bk) (hm : m.length ≤ 1000) : PCall P 41 [map_se m] (fun x => x = .sl 5 (usrs m)) := by
  refine pcall_go tyOk Try.func41 rfl rfl ?_
  intro K hK
  simp only [Try.ntmps41, List.length_cons, List.length_nil, Nat.reduceAdd, Nat.reduceSub, List.replicate, List.cons_append, List.nil_append]
  have hall := all_call_se m
  unfold map_se at hall
  try simp (maxSteps := 1000000) only [go_region, go_seq, go_ops_nil, go_op, opK_none, opK_some, contK_some, callOf, callK_eq, callJ_nil, callD_fn, fstep, fpre, fstep0, fload, fcell, evs, T, TI.isAgg, St.ev, St.put, AV.cells, AV.known, AV.owners, ownersAll, List.getD_cons_zero, List.getD_cons_succ, List.set, List.map_cons, List.map_nil, List.length_cons, List.length_nil, List.drop_zero, List.take_succ_cons, List.take_zero, List.cons_append, List.nil_append, List.append_nil, List.getElem?_cons_zero, true_and, Bool.true_and, ↓reduceIte, Nat.reduceAdd, Nat.le_refl, Nat.zero_add, map_se]
  (refine callG_use hall rfl ?_; rintro _ rfl)
  try simp (maxSteps := 1000000) only [go_op, opK_none, opK_some, contK_some, callOf, callK_eq, callJ_nil, callD_fn, fstep, fpre, fstep0, evs, St.ev, St.put, AV.owners, ownersAll, List.getD_cons_zero, List.getD_cons_succ, List.set, List.length_nil, List.cons_append, List.nil_append, List.append_nil, List.size_toArray, true_and, Bool.true_and]
  refine callG_turnN (N := 2) (Nat.zero_le _) (Turns.adoptIn (s := ⟨_, _⟩) (b := 1) (c := 0) 96 5 rfl rfl) ?_
  refine acall_iter (seq_se m (by omega)) (fun xs (i : Nat) => i = xs.length) (fun i => [ebox m, .box [.own 2 5 0 (m.take i).length], .row 96 5 (usrs (m.take i))]) (fun _ _ => False) 0 rfl rfl rfl rfl ?_ ?_ ?_
  · rintro xs x _ hpre rfl
    obtain ⟨hi, _, rfl⟩ := prefix_next hpre
    refine (users_yield m (m.take xs.length) m[xs.length] (by rw [List.length_take]; omega)).mono ?_
    rintro r m' ⟨rfl, rfl⟩
    exact .inl ⟨rfl, xs.length + 1, by simp, by rw [take_one hi]⟩
  · rintro _ rfl
    have e1 : (pairs_se m).length = m.length := by simp [pairs_se]
    rw [e1, List.take_length]
    try simp (maxSteps := 1000000) only [go_region, go_seq, go_ret, go_ops_nil, go_op, opK_none, contK_some, callOf, fstep, fpre, fstep0, fload, fcell, T, TI.isAgg, St.ev, St.put, cutVs, cutV, bks, bksAll, List.getD_cons_zero, List.getD_cons_succ, List.set, List.length_cons, List.length_nil, List.all_cons, List.all_nil, List.drop_zero, List.headD_cons, List.append_nil, List.getElem?_cons_zero, List.getElem?_cons_succ, true_and, Bool.true_and, Bool.and_self, Bool.false_eq_true, ↓reduceIte, decide_true, Nat.reduceLT, Nat.zero_add]
    apply hK
    simp only [Try.results41, retK, ares, Bool.and_true, Bool.true_and, AV.ofResults, St.trunc, truncVs, truncV, List.getD_cons_zero, List.getD_cons_succ, List.take_zero, List.drop_zero, List.map_nil, List.getElem?_cons_zero, List.getElem?_cons_succ, Nat.reduceLeDiff, true_and, and_true, ↓reduceIte, List.cons.injEq, exists_eq_left']
    rw [sl_full (usrs_len m)]
  · intro xs m' _ h; exact h.elim

def sumL (m : Bk) : Nat := (m.map fun p => p.2.l.length).sum
theorem sum_next {m : Bk} {i : Nat} (h : i < m.length) : sumL (m.take (i + 1)) = sumL (m.take i) + m[i].2.l.length := by
  rw [take_one h, sumL, List.map_append, List.sum_append]; simp [sumL]
theorem sum_le {n : Nat} {m : Bk} (h : bookOk n m) : ∀ i, sumL (m.take i) ≤ n * i := by
  intro i
  induction i with
  | zero => simp [sumL]
  | succ i ih =>
    by_cases hi : i < m.length
    · rw [sum_next hi, Nat.mul_succ]
      have := (h.2.2 _ (List.getElem_mem hi)).2
      omega
    · rw [List.take_of_length_le (by omega)]
      rw [List.take_of_length_le (by omega)] at ih
      rw [Nat.mul_succ]; omega
theorem stored_call (m : Bk) (h : bookOk 200 m) : PCall P 42 [map_se m] (fun x => x = i64 (sumL m : Nat)) := by
  refine pcall_goY tyOk Try.func42 rfl rfl ?_
  intro K hK
  simp only [Try.ntmps42, List.length_cons, List.length_nil, Nat.reduceAdd, Nat.reduceSub, List.replicate, List.cons_append, List.nil_append]
  have hml := h.2.1
  have hall := all_call_se m
  unfold map_se at hall
  try simp (maxSteps := 1000000) only [go_nil, go_region, go_ops_nil, go_op, opK_none, opK_some, contK_some, callOf, callK_eq, callJ_nil, callD_fn, fstep, fpre, fstep0, fload, fcell, fstore, evs, T, TI.isAgg, St.ev, St.put, splice, AV.cells, AV.known, AV.flat, AV.owners, ownersAll, Value.cells, Value.oneCell', List.getD_cons_zero, List.getD_cons_succ, List.set, List.map_cons, List.map_nil, List.length_cons, List.length_nil, List.all_cons, List.all_nil, List.drop_succ_cons, List.drop_zero, List.take_succ_cons, List.take_zero, List.cons_append, List.nil_append, List.append_nil, List.getElem?_cons_zero, List.getElem?_cons_succ, true_and, and_true, Bool.and_true, Bool.true_and, Bool.and_self, ↓reduceIte, Nat.reduceAdd, Nat.le_refl, Nat.zero_add, goY_region, goY_seq, yK_normal, map_se]
  (refine callG_use hall rfl ?_; rintro _ rfl)
  try simp (maxSteps := 1000000) only [go_nil, go_ops_nil, St.put, List.set, goY_block, goY_range, yK_normal]
  refine range_rule tyOk (seq_se m (by omega)) (α := Nat) 2 2 [1, 3] ([.any, .ptr 0 0, .any, .ptr 1 0, .any, .any, .any, .any, .any, .any, .any, .any, .any, .any, .any, .any]) (fun xs i => i = xs.length ∧ i ≤ m.length)
    (fun i => [ebox m, .box [i64 (sumL (m.take i) : Nat)]]) 0 rfl rfl
    (fun x hx => by simp only [pairs_se, List.mem_map] at hx; obtain ⟨p, _, rfl⟩ := hx; rfl) (Nat.zero_le _) (by decide) (by rfl) ⟨rfl, Nat.zero_le _⟩ rfl ?_ ?_
  · rintro xs x _ hpre ⟨rfl, hle⟩
    obtain ⟨hi, _, rfl⟩ := prefix_next hpre
    have hn := sum_next hi
    have hs := sum_le h xs.length
    have hel := (h.2.2 _ (List.getElem_mem hi)).2
    generalize m[xs.length] = p at *
    have ev0 : En.av p.2 = .agg [.sl 4 (avs p.2.l), i64 p.2.t.st, i64 p.2.t.pr, i64 p.2.t.n] := rfl
    have ew : IntKind.i64.wrap (((sumL (m.take xs.length) : Nat) : Int) + ((p.2.l.length : Nat) : Int)) = ((sumL (m.take xs.length) + p.2.l.length : Nat) : Int) := by
      have : 200 * xs.length ≤ 200 * 200 := Nat.mul_le_mul_left _ (by omega)
      rw [wrap_i64 (by omega) (by omega)]; rfl
    try simp (maxSteps := 1000000) only [go_nil, go_region, go_block, go_blk, go_ops_nil, go_op, opK_none, contK_some, callOf, fstep, fpre, fstep0, fbinA, fbin, fbin0, fload, fcell, fstore, ffieldAddr, flen, T, TI.isAgg, St.ev, St.put, splice, AV.cells, AV.known, AV.flat, Value.cells, Value.oneCell', List.getD_cons_zero, List.getD_cons_succ, List.set, List.map_cons, List.map_nil, List.length_cons, List.length_nil, List.all_cons, List.all_nil, List.drop_succ_cons, List.drop_zero, List.take_zero, List.headD_cons, List.cons_append, List.nil_append, List.append_nil, List.getElem?_cons_zero, List.getElem?_cons_succ, List.getElem?_toArray, true_and, and_true, Bool.and_true, Bool.true_and, Bool.and_self, Bool.false_eq_true, ↓reduceIte, reduceCtorEq, ne_eq, not_false_eq_true, Nat.reduceAdd, Nat.reduceLT, Nat.le_refl, Nat.add_zero, Nat.zero_add, List.length_append, setPs, roundA_normal, ev0, avs_len, ew]
    simp only [roundX_normal, St.trunc, truncVs, truncV, AB.trunc, pureAll, AV.pure, Bool.and_self, List.drop_zero, List.take_succ_cons, List.take_zero, List.map_cons, List.map_nil, List.getElem?_cons_zero, List.getElem?_cons_succ, Nat.reduceLeDiff, Nat.le_refl, ↓reduceIte]
    exact ⟨xs.length + 1, ⟨by first | rfl | simp, by omega⟩, by rw [hn]⟩
  · rintro _ ⟨rfl, hle⟩
    have e1 : (pairs_se m).length = m.length := by simp [pairs_se]
    rw [e1, List.take_length]
    try simp (maxSteps := 1000000) only [go_nil, go_region, go_ops_nil, go_op, opK_none, contK_some, callOf, fstep, fpre, fstep0, fload, fcell, T, TI.isAgg, St.ev, St.put, List.getD_cons_zero, List.getD_cons_succ, List.set, List.length_cons, List.length_nil, List.drop_zero, List.headD_cons, List.getElem?_cons_zero, List.getElem?_cons_succ, true_and, Bool.true_and, Bool.false_eq_true, ↓reduceIte, Nat.reduceLT, Nat.zero_add, goY_region, goY_seq, goY_blk, goY_ret, yK_normal]
    apply hK
    simp only [Try.results42, retK, ares, Bool.and_true, Bool.true_and, AV.ofResults, St.trunc, truncVs, truncV, List.getD_cons_zero, List.getD_cons_succ, List.take_zero, List.map_nil, true_and, and_true, List.cons.injEq, exists_eq_left']
end Go.Proofs.Ytljgfapbbhbbpaa
namespace Go.Proofs.Ytljgfapbbhbbpaa
open Go Go.Proofs.Ytljgfapbbhbbpaa.Sym
set_option maxRecDepth 100000
set_option linter.unusedSimpArgs false
set_option linter.unusedVariables false

theorem fits_strs {ys : List AV} (h : ∀ y ∈ ys, ∃ zs, fitsAll [.str] zs ∧ y = pack false zs) : ∃ l : List ByteArray, ys = l.map fun x => str x := by
  induction ys with
  | nil => exact ⟨[], rfl⟩
  | cons y ys ih =>
    obtain ⟨l, rfl⟩ := ih (fun z hz => h z (List.mem_cons_of_mem _ hz))
    obtain ⟨zs, ⟨x, r, rfl, ⟨s, rfl, _⟩, rfl⟩, rfl⟩ := h y List.mem_cons_self
    exact ⟨s :: l, rfl⟩
theorem fits_op {zs : List AV} (h : fitsAll [.int .i64, .str, .int .i64, .int .i64, .int .i64, .int .u64, .sl 1 false [.str]] zs) : ∃ o : Opb, AV.agg zs = o.av := by
  obtain ⟨_, _, rfl, ⟨a, rfl, _⟩, _, _, rfl, ⟨u, rfl, _⟩, _, _, rfl, ⟨b, rfl, _⟩, _, _, rfl, ⟨c, rfl, _⟩, _, _, rfl, ⟨d, rfl, _⟩, _, _, rfl, ⟨t, rfl, _⟩, _, _, rfl, ⟨ys, rfl, _, hys⟩, rfl⟩ := h
  obtain ⟨us, rfl⟩ := fits_strs hys
  exact ⟨⟨a, u, b, c, d, t, us⟩, rfl⟩
theorem fits_bacts {ys : List AV} (h : ∀ y ∈ ys, ∃ zs, fitsAll [.bool, .int .i64, .str, .int .i64, .int .i64, .int .i64, .int .u64, .sl 1 false [.str], .int .u64] zs ∧ y = pack true zs) : ∃ l : List ActB, ys = bacts l := by
  induction ys with
  | nil => exact ⟨[], rfl⟩
  | cons y ys ih =>
    obtain ⟨l, rfl⟩ := ih (fun z hz => h z (List.mem_cons_of_mem _ hz))
    obtain ⟨zs, ⟨_, _, rfl, ⟨w, rfl⟩, _, _, rfl, ⟨a, rfl, _⟩, _, _, rfl, ⟨u, rfl, _⟩, _, _, rfl, ⟨b, rfl, _⟩, _, _, rfl, ⟨c, rfl, _⟩, _, _, rfl, ⟨d, rfl, _⟩, _, _, rfl, ⟨t, rfl, _⟩, _, _, rfl, ⟨vs, rfl, _, hvs⟩, _, _, rfl, ⟨y, rfl, _⟩, rfl⟩, rfl⟩ := h y List.mem_cons_self
    obtain ⟨us, rfl⟩ := fits_strs hvs
    exact ⟨⟨w, ⟨a, u, b, c, d, t, us⟩, y⟩ :: l, rfl⟩
theorem lit_u8 {n : Int} (h : (Lit.int .u8 n).wf = true) : 0 ≤ n ∧ n ≤ 255 := by
  simpa [Lit.wf, IntKind.min, IntKind.max, IntKind.signed, IntKind.bits] using h
end Go.Proofs.Ytljgfapbbhbbpaa
namespace Go.Proofs.Ytljgfapbbhbbpaa
open Go Go.Proofs.Ytljgfapbbhbbpaa.Sym
set_option maxRecDepth 100000
set_option linter.unusedSimpArgs false
set_option linter.unusedVariables false

theorem lit_u64 {a : Int} (h : (Lit.int .u64 a).wf = true) : 0 ≤ a ∧ a ≤ 18446744073709551615 := by
  simpa [Lit.wf, IntKind.min, IntKind.max, IntKind.signed, IntKind.bits] using h
theorem fits_op2 {zs : List AV} (h : fitsAll [.int .i64, .str, .int .i64, .int .i64, .int .i64, .int .u64, .sl 1 false [.str]] zs) : ∃ o : Opb, AV.agg zs = o.av ∧ 0 ≤ o.ttl ∧ o.ttl ≤ 18446744073709551615 := by
  obtain ⟨_, _, rfl, ⟨a, rfl, _⟩, _, _, rfl, ⟨u, rfl, _⟩, _, _, rfl, ⟨b, rfl, _⟩, _, _, rfl, ⟨c, rfl, _⟩, _, _, rfl, ⟨d, rfl, _⟩, _, _, rfl, ⟨t, rfl, ht⟩, _, _, rfl, ⟨ys, rfl, _, hys⟩, rfl⟩ := h
  obtain ⟨us, rfl⟩ := fits_strs hys
  exact ⟨⟨a, u, b, c, d, t, us⟩, rfl, lit_u64 ht⟩
theorem fits_bacts2 {ys : List AV} (h : ∀ y ∈ ys, ∃ zs, fitsAll [.bool, .int .i64, .str, .int .i64, .int .i64, .int .i64, .int .u64, .sl 1 false [.str], .int .u64] zs ∧ y = pack true zs) : ∃ l : List ActB, ys = bacts l ∧ ∀ a ∈ l, 0 ≤ a.by_ ∧ a.by_ ≤ 18446744073709551615 := by
  induction ys with
  | nil => exact ⟨[], rfl, fun a ha => by cases ha⟩
  | cons y ys ih =>
    obtain ⟨l, rfl, hl⟩ := ih (fun z hz => h z (List.mem_cons_of_mem _ hz))
    obtain ⟨zs, ⟨_, _, rfl, ⟨w, rfl⟩, _, _, rfl, ⟨a, rfl, _⟩, _, _, rfl, ⟨u, rfl, _⟩, _, _, rfl, ⟨b, rfl, _⟩, _, _, rfl, ⟨c, rfl, _⟩, _, _, rfl, ⟨d, rfl, _⟩, _, _, rfl, ⟨t, rfl, _⟩, _, _, rfl, ⟨vs, rfl, _, hvs⟩, _, _, rfl, ⟨y, rfl, hy⟩, rfl⟩, rfl⟩ := h y List.mem_cons_self
    obtain ⟨us, rfl⟩ := fits_strs hvs
    refine ⟨⟨w, ⟨a, u, b, c, d, t, us⟩, y⟩ :: l, rfl, fun x hx => ?_⟩
    rcases List.mem_cons.1 hx with rfl | hx
    · exact lit_u64 hy
    · exact hl x hx
theorem addW_bd {a b : Int} : 0 ≤ addW a b ∧ addW a b ≤ 18446744073709551615 := by
  unfold addW
  split
  · omega
  · rw [IntKind.wrap_u64]; omega
theorem made_now (l : List ActB) (most : Int) (h : ∀ a ∈ l, 0 ≤ a.by_ ∧ a.by_ ≤ 18446744073709551615) : 0 ≤ (madeF l most).2 ∧ (madeF l most).2 ≤ 18446744073709551615 := by
  refine snoc_ind (p := fun l => 0 ≤ (madeF l most).2 ∧ (madeF l most).2 ≤ 18446744073709551615) (show 0 ≤ (0 : Int) ∧ (0 : Int) ≤ 18446744073709551615 by decide) ?_ l
  intro l a ih
  have e : madeF (l ++ [a]) most = madeStep most (madeF l most) a := by rw [madeF, List.foldl_append]; rfl
  rw [e, madeStep]
  exact addW_bd
section
variable {α β : Type} {lt eq : α → α → Bool}
theorem get_same (O : StrictOrd lt) (he : ∀ a b, eq a b = true ↔ a = b) {m m' : List (α × β)} (hr : RisesM lt m) (hr' : RisesM lt m') {k : α} (none : β) (h : ∀ v, (k, v) ∈ m ↔ (k, v) ∈ m') : getG lt eq none m k = getG lt eq none m' k := by
  by_cases hk : k ∈ m.map Prod.fst
  · obtain ⟨⟨k', v⟩, hp, rfl⟩ := List.mem_map.1 hk
    rw [get_mem O he hr hp, get_mem O he hr' ((h v).1 hp)]
  · have hk' : k ∉ m'.map Prod.fst := fun hc => by
      obtain ⟨⟨k', v⟩, hp, rfl⟩ := List.mem_map.1 hc
      exact hk (List.mem_map.2 ⟨_, (h v).2 hp, rfl⟩)
    rw [get_none O he hr hk, get_none O he hr' hk']
end
theorem settle_other {m : Bk} (hr : rises_se m) {u k : ByteArray} (hne : ¬ k = u) (l : List Ses) (now : Int) : wasOf (settleB m u l now) k = wasOf m k := by
  have hs := (settleB_rises hr u l now).1
  have : getG ltS eqS nilEn (settleB m u l now) k = getG ltS eqS nilEn m k := by
    refine get_same ordS eqS_iff hs hr nilEn fun v => ?_
    unfold settleB
    split
    · rw [without_eq ordS eqS_iff hr, List.mem_filter]
      have : eqS k u = false := by
        cases hc : eqS k u with
        | false => rfl
        | true => exact absurd ((eqS_iff _ _).1 hc) hne
      simp [this]
    · rw [mem_with ordS eqS_iff hr]
      constructor
      · rintro (h | h)
        · exact absurd (Prod.mk.inj h).1 hne
        · exact h.1
      · exact fun h => .inr ⟨h, hne⟩
  rw [wasOf, this, wasOf]
theorem was_other {m : Bk} (hr : rises_se m) {o : Opb} {k : ByteArray} {now most : Int} (hne : ¬ k = o.u) : wasOf (writeB m o now most) k = wasOf m k := settle_other hr hne _ _
theorem was_settle {m : Bk} (hr : rises_se m) {u : ByteArray} {l : List Ses} {now : Int} : (wasOf (settleB m u l now) u).l = l := by
  have hs := (settleB_rises hr u l now).1
  unfold wasOf
  by_cases hl : l.length = 0
  · have hnil : l = [] := List.eq_nil_of_length_eq_zero hl
    rw [get_none ordS eqS_iff hs, hnil]
    · rfl
    · intro hc
      obtain ⟨p, hp, hpk⟩ := List.mem_map.1 hc
      rw [settleB, if_pos hl, without_eq ordS eqS_iff hr] at hp
      have := (List.mem_filter.1 hp).2
      rw [hpk, (eqS_iff _ _).2 rfl] at this
      cases this
  · have hm : (u, (⟨l, ofP l now⟩ : En)) ∈ settleB m u l now := by
      rw [settleB, if_neg hl]
      exact (mem_with ordS eqS_iff hr).2 (.inl rfl)
    rw [get_mem ordS eqS_iff hs hm]
theorem presence_call (n : Nat) (m : Bk) (u : ByteArray) (now : Int) (h : bookOk n m) (hn : n ≤ 700000) :
    PCall P 38 [map_se m, str u, u64 now] (fun x => x = .agg [i64 (ofP (wasOf m u).l now).st, i64 (ofP (wasOf m u).l now).pr, i64 (ofP (wasOf m u).l now).n]) := by
  refine pcall_go tyOk Try.func38 rfl rfl ?_
  intro K hK
  simp only [Try.ntmps38, List.length_cons, List.length_nil, Nat.reduceAdd, Nat.reduceSub, List.replicate, List.cons_append, List.nil_append]
  have hml := h.2.1
  have hw := (was_ok h u).2
  try simp (maxSteps := 1000000) only [go_region, go_seq, go_ops_nil, go_op, opK_none, opK_some, contK_some, callOf, callK_eq, callJ_nil, callD_fn, fstep, fpre, fstep0, fload, fcell, evs, T, TI.isAgg, St.ev, St.put, AV.cells, AV.known, AV.owners, ownersAll, List.getD_cons_zero, List.getD_cons_succ, List.set, List.map_cons, List.map_nil, List.length_cons, List.length_nil, List.drop_zero, List.take_succ_cons, List.take_zero, List.cons_append, List.nil_append, List.append_nil, List.getElem?_cons_zero, true_and, Bool.true_and, ↓reduceIte, Nat.reduceAdd, Nat.le_refl, Nat.zero_add, map_se]
  (refine callG_use (get_open m u h.1 (by omega)) rfl ?_; rintro _ rfl)
  try simp (maxSteps := 1000000) only [go_region, go_seq, go_ops_nil, go_op, opK_none, opK_some, contK_some, callOf, callK_eq, callJ_nil, callD_fn, fstep, fpre, fstep0, fload, fcell, fstore, ffieldAddr, evs, T, TI.isAgg, St.ev, St.put, splice, AV.cells, AV.known, AV.flat, AV.owners, ownersAll, Value.oneCell', List.getD_cons_zero, List.getD_cons_succ, List.set, List.map_cons, List.map_nil, List.length_cons, List.length_nil, List.all_cons, List.all_nil, List.drop_succ_cons, List.drop_zero, List.take_zero, List.headD_cons, List.cons_append, List.nil_append, List.append_nil, List.getElem?_cons_zero, List.getElem?_cons_succ, List.getElem?_toArray, true_and, and_true, Bool.and_true, Bool.true_and, Bool.and_self, Bool.false_eq_true, ↓reduceIte, reduceCtorEq, ne_eq, not_false_eq_true, Nat.reduceAdd, Nat.reduceLT, Nat.le_refl, Nat.add_zero, Nat.zero_add]
  (refine callG_use (of_call (wasOf m u).l now (by omega)) rfl ?_; rintro _ rfl)
  try simp (maxSteps := 1000000) only [go_ret, go_ops_nil, go_op, opK_none, contK_some, callOf, fstep, fpre, fstep0, fstore, T, St.ev, St.put, splice, AV.cells, AV.known, AV.flat, Value.oneCell', List.getD_cons_zero, List.getD_cons_succ, List.set, List.length_cons, List.length_nil, List.all_cons, List.all_nil, List.drop_succ_cons, List.drop_zero, List.take_zero, List.nil_append, List.append_nil, List.getElem?_cons_zero, List.getElem?_cons_succ, true_and, and_true, Bool.and_true, Bool.true_and, Bool.and_self, Nat.reduceAdd, Nat.le_refl, Nat.zero_add]
  apply hK
  simp only [Try.results38, retK, ares, List.take_nil, Bool.and_true, Bool.true_and, AV.ofResults, St.trunc, truncVs, truncV, aload, acell, T, TI.isAgg, List.getD_cons_zero, List.getD_cons_succ, List.take_zero, List.take_succ_cons, List.drop_zero, List.map_nil, List.getElem?_cons_zero, List.getElem?_cons_succ, List.length_cons, List.length_nil, Nat.reduceAdd, Nat.le_refl, true_and, and_true, ↓reduceIte, List.cons.injEq, exists_eq_left']
  try rfl
end Go.Proofs.Ytljgfapbbhbbpaa
namespace Go.Proofs.Ytljgfapbbhbbpaa
open Go Go.Proofs.Ytljgfapbbhbbpaa.Sym
set_option maxRecDepth 100000
set_option linter.unusedSimpArgs false
set_option linter.unusedVariables false

theorem take_same {α : Type} {a b : List α} {i : Nat} (h1 : i < a.length) (h2 : i < b.length) : (a.take (i + 1) = b.take (i + 1)) ↔ (a.take i = b.take i ∧ a[i] = b[i]) := by
  rw [take_one h1, take_one h2]
  constructor
  · intro h
    have := List.append_inj h (by simp; omega)
    exact ⟨this.1, by simpa using this.2⟩
  · rintro ⟨h3, h4⟩; rw [h3, h4]
theorem en_eq {p q : En} : p = q ↔ p.t = q.t ∧ p.l = q.l := by
  cases p; cases q; simp only [En.mk.injEq]; exact And.comm
theorem str_beq (a b : ByteArray) : (a.toList == b.toList) = decide (a = b) := by
  rw [Bool.eq_iff_iff, decide_eq_true_iff]
  exact eqS_iff a b
theorem equal_str (a b : List ByteArray) (ha : a.length ≤ 10000) (hb : b.length ≤ 10000) : PCall P 68 [.sl 1 (a.map fun x => str x), .sl 1 (b.map fun x => str x)] (fun x => x = bool (decide (a = b))) := by
  refine pcall_go tyOk Try.func68 rfl rfl ?_
  intro K hK
  simp only [Try.ntmps68, List.length_cons, List.length_nil, Nat.reduceAdd, Nat.reduceSub, List.replicate, List.cons_append, List.nil_append]
  try simp (maxSteps := 1000000) only [go_region, go_seq, go_cond, go_ops_nil, go_op, opK_none, contK_some, callOf, fstep, fpre, fstep0, fbinA, fbin, fbin0, flen, T, St.ev, St.put, List.getD_cons_zero, List.getD_cons_succ, List.set, true_and, Bool.true_and, List.length_map]
  (first | refine guardV_split ?_ ?_ | refine condK_split ?_ ?_ | refine drawV_split ?_ ?_ | refine condY_split ?_ ?_ | refine guardY_split ?_ ?_) <;> intro h <;> try simp (maxSteps := 1000000) only [go_skip, go_region, go_seq, go_block, go_ret, go_loop, go_ops_nil, go_op, opK_none, contK_some, condK_t, condK_f, callOf, fstep, fpre, fstep0, flen, T, St.ev, St.put, List.getD_cons_zero, List.getD_cons_succ, List.set, true_and, Bool.true_and]
  · apply hK
    simp only [Try.results68, retK, ares, List.take_nil, Bool.and_true, Bool.true_and, AV.ofResults, St.trunc, truncVs, truncV, List.getD_cons_zero, List.getD_cons_succ, List.map_nil, true_and, and_true, List.cons.injEq, exists_eq_left']
    have : decide (a = b) = false := by
      rw [decide_eq_false_iff_not]; rintro rfl; simp at h
    rw [this]
  · have hl : a.length = b.length := by simp at h; omega
    try simp (maxSteps := 1000000) only [List.length_map]
    refine loopK_rule tyOk (α := Nat) 0 [0, 1, 12, 13] (fun i => i ≤ a.length ∧ a.take i = b.take i)
      (fun i => ⟨[.sl 1 (a.map fun x => str x), .sl 1 (b.map fun x => str x), .any, .any, .any, .any, .any, .any, .any, .any, .any, .any, i64 a.length, i64 i, .any, .any, .any, .any, .any, .any, .any, .any, .any, .any, .any, .any], []⟩)
      (fun i => a.length - i) 0 (Nat.zero_le _) ⟨Nat.zero_le _, rfl⟩ rfl ?_
    intro i ⟨hi, he⟩
    try simp (maxSteps := 1000000) only [go_region, go_seq, go_cond, go_ops_nil, go_op, opK_none, contK_some, callOf, fstep, fpre, fstep0, fbinA, fbin, fbin0, St.ev, St.put, List.getD_cons_zero, List.getD_cons_succ, List.set, true_and, Bool.true_and]
    (first | refine guardV_split ?_ ?_ | refine condK_split ?_ ?_ | refine drawV_split ?_ ?_ | refine condY_split ?_ ?_ | refine guardY_split ?_ ?_) <;> intro h <;> try simp (maxSteps := 1000000) only [go_skip, go_region, go_seq, go_block, go_exit, go_ret, go_draws, exitK_code, exitK_blk, exitK_nil, go_ops_nil, go_op, opK_none, contK_some, condK_t, condK_f, callOf, fstep, fpre, fstep0, St.ev, St.put, List.getD_cons_zero, List.getD_cons_succ, List.set, true_and, Bool.true_and, ↓reduceIte, loopX_exit]
    · have hlt : i < a.length := by simpa using h
      have hlt2 : i < b.length := by omega
      have eg := at_map (f := fun x : ByteArray => str x) hlt
      have eg2 := at_map (f := fun x : ByteArray => str x) hlt2
      have ew : IntKind.i64.wrap ((i : Int) + 1) = ((i + 1 : Nat) : Int) := by rw [wrap_i64 (by omega) (by omega)]; rfl
      have c1 : (0 : Int) ≤ (i : Int) ∧ Int.toNat (i : Int) < a.length := by omega
      have c2 : (0 : Int) ≤ (i : Int) ∧ Int.toNat (i : Int) < b.length := by omega
      refine draw_rule tyOk (by rfl) (by simp only [List.length_nil, Nat.le_refl]) (by kernel_rfl) rfl ?_
      try simp (maxSteps := 1000000) only [go_cond, callOf, fstep0, fbinA, fbin, fbin0, fload, fcell, findexAddr, T, TI.isAgg, St.ev, St.put, AV.cells, AV.known, Value.cells, List.getD_cons_zero, List.getD_cons_succ, List.set, List.map_cons, List.map_nil, List.length_cons, List.length_nil, List.headD_cons, List.append_nil, List.replicate, true_and, and_true, Bool.and_true, Bool.true_and, Bool.false_eq_true, ↓reduceIte, Nat.reduceAdd, Nat.reduceLT, Nat.add_zero, Nat.zero_add, newCount, drawR_nil, drawR_op, drawP_none, drawQ_some, dstep, isFree, St.app, bump, isNew, eg, eg2, c1, c2, List.length_map]
      refine ⟨by kernel_rfl, ?_⟩
      have e1 : (bne a[i].toList b[i].toList) = !decide (a[i] = b[i]) := by rw [bne, str_beq]
      skip
      (first | refine guardV_split ?_ ?_ | refine condK_split ?_ ?_ | refine drawV_split ?_ ?_ | refine condY_split ?_ ?_ | refine guardY_split ?_ ?_) <;> intro h2
      · try simp (maxSteps := 1000000) only [go_region, go_seq, go_ret, go_ops_nil, go_op, opK_none, contK_some, condK_t, callOf, fstep, fpre, fstep0, St.ev, St.put, List.set, true_and, Bool.true_and, loopX_ret]
        apply hK
        simp only [Try.results68, retK, ares, List.take_nil, Bool.and_true, Bool.true_and, AV.ofResults, St.trunc, truncVs, truncV, List.getD_cons_zero, List.getD_cons_succ, List.map_nil, true_and, and_true, List.cons.injEq, exists_eq_left']
        have : decide (a = b) = false := by
          rw [decide_eq_false_iff_not]; rintro rfl; simp at h2
        rw [this]
      · try simp (maxSteps := 1000000) only [go_nil, go_skip, go_region, go_blk, go_ops_nil, go_op, opK_none, contK_some, condK_f, callOf, fstep, fpre, fstep0, fbinA, fbin, fbin0, St.ev, St.put, List.getD_cons_zero, List.getD_cons_succ, List.set, true_and, Bool.true_and, ew]
        simp only [loopX_normal, St.trunc, St.keep, truncVs, truncV, keepV, List.elem_cons, List.elem_nil, List.take_zero, List.map_nil, Nat.reduceAdd, Nat.reduceBEq, Nat.zero_add, Bool.false_eq_true, ↓reduceIte]
        exact ⟨i + 1, ⟨hlt, (take_same hlt hlt2).2 ⟨he, (eqS_iff _ _).1 (by simpa [eqS, bne] using h2)⟩⟩, by omega, rfl⟩
    · obtain rfl := at_end hi h
      apply hK
      simp only [Try.results68, retK, ares, List.take_nil, Bool.and_true, Bool.true_and, AV.ofResults, St.trunc, truncVs, truncV, List.getD_cons_zero, List.getD_cons_succ, List.map_nil, true_and, and_true, List.cons.injEq, exists_eq_left']
      rw [List.take_length, hl, List.take_length] at he
      rw [decide_eq_true he]
theorem equal_ses (a b : List Ses) (ha : a.length ≤ 10000) (hb : b.length ≤ 10000) : PCall P 70 [.sl 4 (avs a), .sl 4 (avs b)] (fun x => x = bool (decide (a = b))) := by
  refine pcall_go tyOk Try.func70 rfl rfl ?_
  intro K hK
  simp only [Try.ntmps70, List.length_cons, List.length_nil, Nat.reduceAdd, Nat.reduceSub, List.replicate, List.cons_append, List.nil_append]
  try simp (maxSteps := 1000000) only [go_region, go_seq, go_cond, go_ops_nil, go_op, opK_none, contK_some, callOf, fstep, fpre, fstep0, fbinA, fbin, fbin0, flen, T, St.ev, St.put, List.getD_cons_zero, List.getD_cons_succ, List.set, true_and, Bool.true_and, avs_len]
  (first | refine guardV_split ?_ ?_ | refine condK_split ?_ ?_ | refine drawV_split ?_ ?_ | refine condY_split ?_ ?_ | refine guardY_split ?_ ?_) <;> intro h <;> try simp (maxSteps := 1000000) only [go_skip, go_region, go_seq, go_block, go_ret, go_loop, go_ops_nil, go_op, opK_none, contK_some, condK_t, condK_f, callOf, fstep, fpre, fstep0, flen, T, St.ev, St.put, List.getD_cons_zero, List.getD_cons_succ, List.set, true_and, Bool.true_and]
  · apply hK
    simp only [Try.results70, retK, ares, List.take_nil, Bool.and_true, Bool.true_and, AV.ofResults, St.trunc, truncVs, truncV, List.getD_cons_zero, List.getD_cons_succ, List.map_nil, true_and, and_true, List.cons.injEq, exists_eq_left']
    have : decide (a = b) = false := by
      rw [decide_eq_false_iff_not]; rintro rfl; simp at h
    rw [this]
  · have hl : a.length = b.length := by simp at h; omega
    try simp (maxSteps := 1000000) only [avs_len]
    refine loopK_rule tyOk (α := Nat) 0 [0, 1, 12, 13] (fun i => i ≤ a.length ∧ a.take i = b.take i)
      (fun i => ⟨[.sl 4 (avs a), .sl 4 (avs b), .any, .any, .any, .any, .any, .any, .any, .any, .any, .any, i64 a.length, i64 i, .any, .any, .any, .any, .any, .any, .any, .any, .any, .any, .any, .any], []⟩)
      (fun i => a.length - i) 0 (Nat.zero_le _) ⟨Nat.zero_le _, rfl⟩ rfl ?_
    intro i ⟨hi, he⟩
    try simp (maxSteps := 1000000) only [go_region, go_seq, go_cond, go_ops_nil, go_op, opK_none, contK_some, callOf, fstep, fpre, fstep0, fbinA, fbin, fbin0, St.ev, St.put, List.getD_cons_zero, List.getD_cons_succ, List.set, true_and, Bool.true_and]
    (first | refine guardV_split ?_ ?_ | refine condK_split ?_ ?_ | refine drawV_split ?_ ?_ | refine condY_split ?_ ?_ | refine guardY_split ?_ ?_) <;> intro h <;> try simp (maxSteps := 1000000) only [go_skip, go_region, go_seq, go_block, go_exit, go_ret, go_draws, exitK_code, exitK_blk, exitK_nil, go_ops_nil, go_op, opK_none, contK_some, condK_t, condK_f, callOf, fstep, fpre, fstep0, St.ev, St.put, List.getD_cons_zero, List.getD_cons_succ, List.set, true_and, Bool.true_and, ↓reduceIte, loopX_exit]
    · obtain ⟨hlt, eg, ew, c1⟩ := at_idx (by omega) h
      obtain ⟨hlt2, eg2, _, c2⟩ := at_idx (l := b) (i := i) (by omega) (by rw [← hl]; exact h)
      refine draw_rule tyOk (by rfl) (by simp only [List.length_nil, Nat.le_refl]) (by kernel_rfl) rfl ?_
      try simp (maxSteps := 1000000) only [go_cond, callOf, fstep0, fbinA, fbin, fbinS, eqVs, eqV, kOks, kOk, fload, fcell, findexAddr, T, TI.isAgg, St.ev, St.put, AV.cells, AV.known, List.getD_cons_zero, List.getD_cons_succ, List.set, List.length_cons, List.length_nil, List.take_succ_cons, List.take_zero, List.append_nil, List.replicate, true_and, and_true, Bool.and_true, Bool.true_and, Bool.and_self, Bool.false_eq_true, ↓reduceIte, decide_true, Nat.reduceAdd, Nat.le_refl, Nat.add_zero, Nat.zero_add, newCount, drawR_nil, drawR_op, drawP_none, drawQ_some, dstep, isFree, St.app, bump, isNew, eqc91, eg, eg2, c1, c2, avs_len]
      refine ⟨by kernel_rfl, ?_⟩
      try simp (maxSteps := 1000000) only [ses_beq]
      (first | refine guardV_split ?_ ?_ | refine condK_split ?_ ?_ | refine drawV_split ?_ ?_ | refine condY_split ?_ ?_ | refine guardY_split ?_ ?_) <;> intro h2
      · try simp (maxSteps := 1000000) only [go_region, go_seq, go_ret, go_ops_nil, go_op, opK_none, contK_some, condK_t, callOf, fstep, fpre, fstep0, St.ev, St.put, List.set, true_and, Bool.true_and, loopX_ret]
        apply hK
        simp only [Try.results70, retK, ares, List.take_nil, Bool.and_true, Bool.true_and, AV.ofResults, St.trunc, truncVs, truncV, List.getD_cons_zero, List.getD_cons_succ, List.map_nil, true_and, and_true, List.cons.injEq, exists_eq_left']
        have : decide (a = b) = false := by
          rw [decide_eq_false_iff_not]; rintro rfl; simp at h2
        rw [this]
      · try simp (maxSteps := 1000000) only [go_nil, go_skip, go_region, go_blk, go_ops_nil, go_op, opK_none, contK_some, condK_f, callOf, fstep, fpre, fstep0, fbinA, fbin, fbin0, St.ev, St.put, List.getD_cons_zero, List.getD_cons_succ, List.set, true_and, Bool.true_and, ew]
        simp only [loopX_normal, St.trunc, St.keep, truncVs, truncV, keepV, List.elem_cons, List.elem_nil, List.take_zero, List.map_nil, Nat.reduceAdd, Nat.reduceBEq, Nat.zero_add, Bool.false_eq_true, ↓reduceIte]
        exact ⟨i + 1, ⟨hlt, (take_same hlt hlt2).2 ⟨he, by simpa using h2⟩⟩, by omega, rfl⟩
    · obtain rfl := at_end hi h
      apply hK
      simp only [Try.results70, retK, ares, List.take_nil, Bool.and_true, Bool.true_and, AV.ofResults, St.trunc, truncVs, truncV, List.getD_cons_zero, List.getD_cons_succ, List.map_nil, true_and, and_true, List.cons.injEq, exists_eq_left']
      rw [List.take_length, hl, List.take_length] at he
      rw [decide_eq_true he]
theorem equal_keys (a b : Bk) (ha : a.length ≤ 10000) (hb : b.length ≤ 10000) : PCall P 68 [.sl 1 (a.map fun p => str p.1), .sl 1 (b.map fun p => str p.1)] (fun x => x = bool (decide (a.map Prod.fst = b.map Prod.fst))) := by
  have h := equal_str (a.map Prod.fst) (b.map Prod.fst) (by rwa [List.length_map]) (by rwa [List.length_map])
  rw [List.map_map, List.map_map] at h
  exact h
set_option maxHeartbeats 1000000 in
theorem same_call (a b : Bk) (ha : bookOk 1000 a) (hb : bookOk 1000 b) : PCall P 44 [map_se a, map_se b] (fun x => x = bool (decide (a = b))) := by
  refine pcall_goY tyOk Try.func44 rfl rfl ?_
  intro K hK
  simp only [Try.ntmps44, List.length_cons, List.length_nil, Nat.reduceAdd, Nat.reduceSub, List.replicate, List.cons_append, List.nil_append]
  have hal := ha.2.1
  have hbl := hb.2.1
  have hka := keys_call_se a (by omega)
  have hkb := keys_call_se b (by omega)
  have hall := all_call_se a
  unfold map_se at hka hkb hall
  try simp (maxSteps := 1000000) only [go_nil, go_region, go_draws, go_ops_nil, go_op, opK_none, contK_some, callOf, fstep, fpre, fstep0, T, St.ev, St.put, AV.cells, AV.known, List.getD_cons_zero, List.getD_cons_succ, List.set, List.map_cons, List.map_nil, List.length_cons, List.length_nil, List.cons_append, List.nil_append, true_and, Bool.true_and, Nat.reduceAdd, Nat.zero_add, goY_region, goY_seq, yK_normal, map_se]
  refine draw_rule tyOk (by rfl) (by simp only [List.length_cons, List.length_nil, Nat.reduceAdd, Nat.zero_le]) (by kernel_rfl) rfl ?_
  try simp (maxSteps := 1000000) only [callOf, newF, fload, fcell, evs, T, TI.isAgg, St.ev, St.put, List.getD_cons_zero, List.getD_cons_succ, List.set, List.length_cons, List.length_nil, List.drop_zero, List.take_succ_cons, List.take_zero, List.append_nil, List.getElem?_cons_zero, List.replicate, true_and, Bool.true_and, Bool.or_false, Bool.false_eq_true, ↓reduceIte, Nat.reduceAdd, Nat.le_refl, Nat.add_zero, Nat.zero_add, Nat.reduceBEq, newCount, drawR_op, drawP_none, drawP_some, drawQ_some, drawH_fn, dstep, isFree, St.app, bump, isNew]
  refine drawCall_use hka rfl ?_
  try simp (maxSteps := 1000000) only [callOf, newF, fload, fcell, evs, T, TI.isAgg, St.ev, St.put, List.getD_cons_zero, List.getD_cons_succ, List.set, List.length_cons, List.length_nil, List.drop_zero, List.take_succ_cons, List.take_zero, List.append_nil, List.getElem?_cons_zero, List.getElem?_cons_succ, true_and, Bool.true_and, Bool.or_false, Bool.false_eq_true, ↓reduceIte, Nat.reduceAdd, Nat.le_refl, Nat.zero_add, Nat.reduceBEq, drawR_op, drawP_none, drawP_some, drawQ_some, drawH_fn, dstep, isFree, St.app, bump, isNew]
  refine drawCall_use hkb rfl ?_
  try simp (maxSteps := 1000000) only [callOf, newF, evs, St.ev, St.put, List.getD_cons_zero, List.getD_cons_succ, List.set, List.append_nil, Bool.or_false, Bool.false_eq_true, ↓reduceIte, Nat.reduceAdd, Nat.reduceBEq, drawR_op, drawP_some, drawH_fn, bump, isNew]
  refine drawCall_use (equal_keys a b (by omega) (by omega)) rfl ?_
  try simp (maxSteps := 1000000) only [go_nil, callOf, fstep0, newF, funary, St.ev, St.put, List.getD_cons_zero, List.getD_cons_succ, List.set, true_and, Bool.true_and, Bool.or_false, Bool.false_eq_true, ↓reduceIte, Nat.reduceAdd, Nat.reduceBEq, drawR_nil, drawR_op, drawP_none, drawQ_some, dstep, isFree, St.app, bump, isNew, goY_cond, yK_normal]
  refine ⟨by kernel_rfl, ?_⟩
  skip
  (first | refine guardV_split ?_ ?_ | refine condK_split ?_ ?_ | refine drawV_split ?_ ?_ | refine condY_split ?_ ?_ | refine guardY_split ?_ ?_) <;> intro h
  · have hne : decide (a = b) = false := by
      rw [decide_eq_false_iff_not]; rintro rfl; simp at h
    try simp (maxSteps := 1000000) only [go_nil, go_region, go_ops_nil, go_op, opK_none, contK_some, callOf, fstep, fpre, fstep0, fstore, T, St.ev, St.put, splice, AV.cells, AV.known, AV.flat, Value.cells, Value.oneCell', List.getD_cons_zero, List.getD_cons_succ, List.set, List.map_cons, List.map_nil, List.length_cons, List.length_nil, List.all_cons, List.all_nil, List.drop_succ_cons, List.drop_zero, List.take_zero, List.nil_append, List.append_nil, List.getElem?_cons_zero, List.getElem?_cons_succ, true_and, and_true, Bool.and_true, Bool.true_and, Bool.and_self, Nat.le_refl, Nat.zero_add, goY_region, goY_seq, goY_ret, condY_t, yK_normal]
    apply hK
    simp only [Try.results44, retK, ares, Bool.and_true, Bool.true_and, AV.ofResults, St.trunc, truncVs, truncV, aload, acell, T, TI.isAgg, List.getD_cons_zero, List.getD_cons_succ, List.take_zero, List.drop_zero, List.map_nil, List.getElem?_cons_zero, List.getElem?_cons_succ, true_and, and_true, ↓reduceIte, Bool.false_eq_true, List.cons.injEq, exists_eq_left']
    rw [hne]
  · have hk : a.map Prod.fst = b.map Prod.fst := by simpa using h
    have hlen : a.length = b.length := by have := congrArg List.length hk; simpa using this
    try simp (maxSteps := 1000000) only [go_region, go_op, opK_none, opK_some, contK_some, callOf, callK_eq, callJ_nil, callD_fn, fstep, fpre, fstep0, fload, fcell, evs, T, TI.isAgg, St.ev, St.put, AV.owners, ownersAll, List.getD_cons_zero, List.getD_cons_succ, List.set, List.length_cons, List.length_nil, List.drop_zero, List.take_succ_cons, List.take_zero, List.append_nil, List.getElem?_cons_zero, true_and, Bool.true_and, ↓reduceIte, Nat.reduceAdd, Nat.le_refl, Nat.zero_add, goY_skip, goY_region, goY_seq, condY_f]
    (refine callG_use hall rfl ?_; rintro _ rfl)
    try simp (maxSteps := 1000000) only [go_nil, go_ops_nil, St.put, List.set, goY_block, goY_range, yK_normal]
    refine range_rule tyOk (seq_se a (by omega)) (α := Nat) 3 3 [2, 3, 4] ([.any, .any, .ptr 0 0, .ptr 1 0, .ptr 2 0, .any, .any, .any, .any, .any, .any, .any, .any, .any, .any, .any, .any, .any, .any, .any, .any, .any, .any, .any, .any, .any, .any, .any, .any, .any, .any, .any, .any, .any, .any, .any, .any, .any]) (fun xs i => i = xs.length ∧ i ≤ a.length ∧ a.take i = b.take i)
      (fun i => [ebox a, ebox b, .box [bool false]]) 0 rfl rfl
      (fun x hx => by simp only [pairs_se, List.mem_map] at hx; obtain ⟨p, _, rfl⟩ := hx; rfl) (Nat.zero_le _) (by decide) (by rfl) ⟨rfl, Nat.zero_le _, rfl⟩ rfl ?_ ?_
    · rintro xs x _ hpre ⟨rfl, hle, he⟩
      obtain ⟨hi, _, rfl⟩ := prefix_next hpre
      have hi2 : xs.length < b.length := by omega
      have hts := take_same hi hi2
      have hk1 : a[xs.length].1 = b[xs.length].1 := by
        have h1 : (a.map Prod.fst)[xs.length]'(by simpa using hi) = (b.map Prod.fst)[xs.length]'(by simpa using hi2) := by simp only [hk]
        simpa using h1
      have hw : wasOf b a[xs.length].1 = b[xs.length].2 := by
        rw [wasOf, get_mem ordS eqS_iff hb.1 (k := a[xs.length].1) (v := b[xs.length].2) (by rw [hk1]; exact List.getElem_mem hi2)]
      have hlp := (ha.2.2 _ (List.getElem_mem hi)).2
      have hlq := (hb.2.2 _ (List.getElem_mem hi2)).2
      have hgo := get_open b a[xs.length].1 hb.1 (by omega)
      rw [hw] at hgo
      have hne : a[xs.length] ≠ b[xs.length] → decide (a = b) = false := by
        intro hne
        rw [decide_eq_false_iff_not]; rintro rfl; exact hne rfl
      have hpq : a[xs.length].2 = b[xs.length].2 → a[xs.length] = b[xs.length] := fun h2 => Prod.ext hk1 h2
      unfold map_se at hgo
      generalize a[xs.length] = p at *
      generalize b[xs.length] = q at *
      have ev0 : En.av p.2 = .agg [.sl 4 (avs p.2.l), i64 p.2.t.st, i64 p.2.t.pr, i64 p.2.t.n] := rfl
      try simp (maxSteps := 1000000) only [go_nil, go_region, go_seq, go_block, go_ops_nil, go_op, opK_none, opK_some, contK_some, callOf, callK_eq, callJ_nil, callD_fn, fstep, fpre, fstep0, fload, fcell, fstore, evs, T, TI.isAgg, St.ev, St.put, splice, AV.cells, AV.known, AV.flat, AV.owners, ownersAll, Value.oneCell', List.getD_cons_zero, List.getD_cons_succ, List.set, List.map_cons, List.map_nil, List.length_cons, List.length_nil, List.all_cons, List.all_nil, List.drop_succ_cons, List.drop_zero, List.take_succ_cons, List.take_zero, List.cons_append, List.nil_append, List.append_nil, List.getElem?_cons_zero, List.getElem?_cons_succ, true_and, and_true, Bool.and_true, Bool.true_and, Bool.and_self, ↓reduceIte, Nat.reduceAdd, Nat.le_refl, Nat.zero_add, List.length_append, setPs, roundA_normal, ev0]
      (refine callG_use hgo rfl ?_; rintro _ rfl)
      try simp (maxSteps := 1000000) only [go_region, go_seq, go_ops_nil, go_op, go_guard, opK_none, contK_some, guardK_eq, callOf, fstep, fpre, fstep0, fbinA, fbin, fbinS, eqVs, eqV, kOks, kOk, fload, fcell, fstore, ffieldAddr, T, TI.isAgg, St.ev, St.put, splice, AV.cells, AV.known, AV.flat, Value.oneCell', List.getD_cons_zero, List.getD_cons_succ, List.set, List.map_cons, List.map_nil, List.length_cons, List.length_nil, List.all_cons, List.all_nil, List.drop_succ_cons, List.drop_zero, List.take_succ_cons, List.take_zero, List.cons_append, List.nil_append, List.append_nil, List.getElem?_cons_zero, List.getElem?_cons_succ, Option.bind_some, List.getElem?_toArray, true_and, and_true, Bool.and_true, Bool.true_and, Bool.and_self, ↓reduceIte, decide_true, reduceCtorEq, ne_eq, not_false_eq_true, Nat.reduceAdd, Nat.reduceLT, Nat.le_refl, Nat.zero_add, eqc28, pr_beq]
      (first | refine guardV_split ?_ ?_ | refine condK_split ?_ ?_ | refine drawV_split ?_ ?_ | refine condY_split ?_ ?_ | refine guardY_split ?_ ?_) <;> intro h2
      · have h2' : p ≠ q := by rintro rfl; simp at h2
        try simp (maxSteps := 1000000) only [go_region, go_seq, go_cond, go_ret, go_ops_nil, go_op, go_guard, opK_none, contK_some, condK_t, guardK_eq, guardV_tf, undef, callOf, fstep, fpre, fstep0, fstore, fpick, T, St.ev, St.put, splice, AV.cells, AV.known, AV.flat, Value.cells, Value.oneCell', List.getD_cons_zero, List.getD_cons_succ, List.set, List.map_cons, List.map_nil, List.length_cons, List.length_nil, List.all_cons, List.all_nil, List.drop_succ_cons, List.drop_zero, List.take_zero, List.nil_append, List.append_nil, List.getElem?_cons_zero, List.getElem?_cons_succ, Option.bind_some, List.getElem?_toArray, true_and, and_true, Bool.and_true, Bool.true_and, Bool.and_self, ↓reduceIte, Nat.le_refl, Nat.zero_add, roundX_ret, stopY_ret]
        apply hK
        simp only [Try.results44, retK, ares, pureAll, AV.pure, Bool.and_self, Bool.and_true, Bool.true_and, AV.ofResults, St.trunc, truncVs, truncV, AB.trunc, aload, acell, T, TI.isAgg, List.getD_cons_zero, List.getD_cons_succ, List.take_zero, List.take_succ_cons, List.drop_zero, List.drop_succ_cons, List.map_nil, List.map_cons, List.getElem?_cons_zero, List.getElem?_cons_succ, Nat.reduceLeDiff, Nat.le_refl, true_and, and_true, ↓reduceIte, Bool.false_eq_true, List.cons.injEq, exists_eq_left']
        rw [hne h2']
      · have h2' : p.2.t = q.2.t := by simpa using h2
        try simp (maxSteps := 1000000) only [go_guard, opK_none, opK_some, contK_some, guardK_eq, guardV_ff, callOf, callK_eq, callJ_nil, callD_fn, fstep, fpre, fstep0, fload, fcell, ffieldAddr, evs, T, TI.isAgg, St.ev, St.put, AV.owners, ownersAll, List.getD_cons_zero, List.getD_cons_succ, List.set, List.length_cons, List.length_nil, List.drop_zero, List.headD_cons, List.append_nil, List.getElem?_cons_zero, List.getElem?_cons_succ, Option.bind_some, List.getElem?_toArray, true_and, Bool.true_and, Bool.false_eq_true, ↓reduceIte, reduceCtorEq, ne_eq, not_false_eq_true, Nat.reduceAdd, Nat.reduceLT, Nat.add_zero, Nat.zero_add]
        (refine callG_use (equal_ses p.2.l q.2.l (by omega) (by omega)) rfl ?_; rintro _ rfl)
        try simp (maxSteps := 1000000) only [go_cond, go_ops_nil, go_op, go_guard, opK_none, contK_some, guardK_eq, guardV_ff, callOf, fstep, fpre, fstep0, funary, fpick, St.ev, St.put, List.getD_cons_zero, List.getD_cons_succ, List.set, List.getElem?_cons_zero, List.getElem?_cons_succ, Option.bind_some, List.getElem?_toArray, true_and, Bool.true_and, cond_false]
        (first | refine guardV_split ?_ ?_ | refine condK_split ?_ ?_ | refine drawV_split ?_ ?_ | refine condY_split ?_ ?_ | refine guardY_split ?_ ?_) <;> intro h3
        · have h3' : p ≠ q := by rintro rfl; simp at h3
          try simp (maxSteps := 1000000) only [go_region, go_seq, go_ret, go_ops_nil, go_op, opK_none, contK_some, condK_t, callOf, fstep, fpre, fstep0, fstore, T, St.ev, St.put, splice, AV.cells, AV.known, AV.flat, Value.cells, Value.oneCell', List.getD_cons_zero, List.getD_cons_succ, List.set, List.map_cons, List.map_nil, List.length_cons, List.length_nil, List.all_cons, List.all_nil, List.drop_succ_cons, List.drop_zero, List.take_zero, List.nil_append, List.append_nil, List.getElem?_cons_zero, List.getElem?_cons_succ, true_and, and_true, Bool.and_true, Bool.true_and, Bool.and_self, Nat.le_refl, Nat.zero_add, roundX_ret, stopY_ret]
          apply hK
          simp only [Try.results44, retK, ares, pureAll, AV.pure, Bool.and_self, Bool.and_true, Bool.true_and, AV.ofResults, St.trunc, truncVs, truncV, AB.trunc, aload, acell, T, TI.isAgg, List.getD_cons_zero, List.getD_cons_succ, List.take_zero, List.take_succ_cons, List.drop_zero, List.drop_succ_cons, List.map_nil, List.map_cons, List.getElem?_cons_zero, List.getElem?_cons_succ, Nat.reduceLeDiff, Nat.le_refl, true_and, and_true, ↓reduceIte, Bool.false_eq_true, List.cons.injEq, exists_eq_left']
          rw [hne h3']
        · have h3' : p.2.l = q.2.l := by simpa using h3
          have hpq2 := hpq (en_eq.2 ⟨h2', h3'⟩)
          try simp (maxSteps := 1000000) only [go_nil, go_skip, go_blk, condK_f]
          simp only [roundX_normal, St.trunc, truncVs, truncV, AB.trunc, pureAll, AV.pure, Bool.and_self, List.drop_zero, List.drop_succ_cons, List.take_succ_cons, List.take_zero, List.map_cons, List.map_nil, List.getElem?_cons_zero, List.getElem?_cons_succ, Nat.reduceLeDiff, Nat.le_refl, ↓reduceIte]
          exact ⟨xs.length + 1, ⟨by first | rfl | simp, by omega, hts.2 ⟨he, hpq2⟩⟩, by first | rfl | trivial⟩
    · rintro _ ⟨rfl, hle, he⟩
      have e1 : (pairs_se a).length = a.length := by simp [pairs_se]
      rw [e1, List.take_length, hlen, List.take_length] at he
      try simp (maxSteps := 1000000) only [go_nil, go_region, go_ops_nil, go_op, opK_none, contK_some, callOf, fstep, fpre, fstep0, fstore, T, St.ev, St.put, splice, AV.cells, AV.known, AV.flat, Value.cells, Value.oneCell', List.getD_cons_zero, List.getD_cons_succ, List.set, List.map_cons, List.map_nil, List.length_cons, List.length_nil, List.all_cons, List.all_nil, List.drop_succ_cons, List.drop_zero, List.take_zero, List.nil_append, List.append_nil, List.getElem?_cons_zero, List.getElem?_cons_succ, true_and, and_true, Bool.and_true, Bool.true_and, Bool.and_self, Nat.le_refl, Nat.zero_add, goY_region, goY_seq, goY_blk, goY_ret, yK_normal]
      apply hK
      simp only [Try.results44, retK, ares, Bool.and_true, Bool.true_and, AV.ofResults, St.trunc, truncVs, truncV, aload, acell, T, TI.isAgg, List.getD_cons_zero, List.getD_cons_succ, List.take_zero, List.drop_zero, List.map_nil, List.getElem?_cons_zero, List.getElem?_cons_succ, true_and, and_true, ↓reduceIte, Bool.false_eq_true, List.cons.injEq, exists_eq_left']
      rw [decide_eq_true he]
end Go.Proofs.Ytljgfapbbhbbpaa
namespace Go.Proofs.Ytljgfapbbhbbpaa
open Go Go.Proofs.Ytljgfapbbhbbpaa.Sym
set_option maxRecDepth 100000
set_option linter.unusedSimpArgs false
set_option linter.unusedVariables false

theorem bestF_snoc (l : List Ses) (s : Ses) : bestF (l ++ [s]) = bestStep (bestF l) s := by rw [bestF, List.foldl_append]; rfl
instance : Inhabited Ses := ⟨⟨0, 0, 0, 0⟩⟩
def beats (s t : Ses) (k i : Nat) : Bool := decide (t.pr < s.pr) || (s.pr == t.pr && (decide (s.id < t.id) || (s.id == t.id && decide ((k : Int) < (i : Int)))))
def anyBeat (l : List Ses) (i k : Nat) : Bool := (List.range k).any fun k' => beats (l.getD k' default) (l.getD i default) k' i
theorem anyBeat_next {l : List Ses} {i k : Nat} (hi : i < l.length) (hk : k < l.length) : anyBeat l i (k + 1) = (anyBeat l i k || beats l[k] l[i] k i) := by
  rw [anyBeat, List.range_succ, List.any_append, ← anyBeat]
  simp [List.getD_eq_getElem?_getD, List.getElem?_eq_getElem hi, List.getElem?_eq_getElem hk]

theorem best_at : ∀ l : List Ses, l ≠ [] → ∃ j, j < l.length ∧ (bestF l).1 = l.getD j default ∧ ∀ k, k < l.length → k ≠ j → beats (l.getD j default) (l.getD k default) j k = true ∧ beats (l.getD k default) (l.getD j default) k j = false := by
  refine snoc_ind (fun h => absurd rfl h) ?_
  intro l a ih _
  have hc := bestF_count l
  rw [bestF_snoc, bestStep]
  have gl : ∀ k, k < l.length → (l ++ [a]).getD k default = l.getD k default := fun k hk => by
    simp [List.getD_eq_getElem?_getD, List.getElem?_append_left hk]
  have gr : (l ++ [a]).getD l.length default = a := by simp [List.getD_eq_getElem?_getD]
  cases l with
  | nil =>
    refine ⟨0, by simp, ?_, fun k hk hne => ?_⟩
    · rw [if_pos (by rw [hc]; rfl)]; rfl
    · simp at hk; omega
  | cons c l =>
    obtain ⟨j, hj, hb, hall⟩ := ih (by simp)
    have hb2 : ((bestF (c :: l)).2 == 0) = false := by rw [hc]; simp; omega
    rw [hb2, Bool.false_or, hb]
    generalize hL : c :: l = L at *
    generalize hs : L.getD j default = s at *
    cases hbt : better a.pr a.id s.pr s.id with
    | true =>
      simp only [if_true]
      refine ⟨L.length, by simp, gr.symm, fun k hk hne => ?_⟩
      have hk' : k < L.length := by simp at hk; omega
      rw [gr, gl k hk']
      by_cases hkj : k = j
      · subst hkj
        rw [hs]
        simp only [better, beats, Bool.or_eq_true, Bool.and_eq_true, decide_eq_true_eq, beq_iff_eq, Bool.or_eq_false_iff, Bool.and_eq_false_imp, decide_eq_false_iff_not] at *
        constructor
        · omega
        · refine ⟨by omega, fun h => ⟨by omega, fun h => ?_⟩⟩; omega
      · obtain ⟨h1, h2⟩ := hall k hk' hkj
        simp only [better, beats, Bool.or_eq_true, Bool.and_eq_true, decide_eq_true_eq, beq_iff_eq, Bool.or_eq_false_iff, Bool.and_eq_false_imp, decide_eq_false_iff_not] at *
        constructor
        · omega
        · refine ⟨by omega, fun h => ⟨by omega, fun h => ?_⟩⟩; omega
    | false =>
      simp only [Bool.false_eq_true, if_false]
      refine ⟨j, by simp; omega, by rw [gl j hj, hs], fun k hk hne => ?_⟩
      rw [gl j hj, hs]
      by_cases hk' : k < L.length
      · rw [gl k hk']; exact hall k hk' hne
      · have : k = L.length := by simp at hk; omega
        subst this
        rw [gr]
        simp only [better, beats, Bool.or_eq_true, Bool.and_eq_true, decide_eq_true_eq, beq_iff_eq, Bool.or_eq_false_iff, Bool.and_eq_false_imp, decide_eq_false_iff_not] at *
        constructor
        · omega
        · refine ⟨by omega, fun h => ⟨by omega, fun h => ?_⟩⟩; omega

/-- Whom nobody beats is the best. -/
theorem best_unique {l : List Ses} {i : Nat} (hi : i < l.length) (h : anyBeat l i l.length = false) : (bestF l).1 = l[i] := by
  obtain ⟨j, hj, hb, hall⟩ := best_at l (by intro e; rw [e] at hi; simp at hi)
  by_cases e : i = j
  · subst e
    rw [hb]; simp [List.getD_eq_getElem?_getD, List.getElem?_eq_getElem hi]
  · have h2 := (hall i hi e).1
    have : anyBeat l i l.length = true := by
      rw [anyBeat, List.any_eq_true]
      exact ⟨j, by simpa using hj, h2⟩
    rw [h] at this; cases this
theorem best_some {l : List Ses} (hn : l ≠ []) : ∃ j, j < l.length ∧ anyBeat l j l.length = false := by
  obtain ⟨j, hj, hb, hall⟩ := best_at l hn
  refine ⟨j, hj, ?_⟩
  rw [anyBeat, List.any_eq_false]
  intro k hk
  have hk' : k < l.length := by simpa using hk
  by_cases e : k = j
  · subst e
    simp [beats]
  · rw [(hall k hk' e).2]; simp

theorem ref07_Of (l : List Ses) (now : Int) (hlen : l.length ≤ 200) :
    PCall P 80 [.sl 4 (avs l), u64 now] (fun x => x = pres (bestF (lives now l)).1.st (bestF (lives now l)).1.pr (bestF (lives now l)).2) := by
  refine pcall_go tyOk Try.func80 rfl rfl ?_
  intro K hK
  simp only [Try.ntmps80, List.length_cons, List.length_nil, Nat.reduceAdd, Nat.reduceSub, List.replicate, List.cons_append, List.nil_append]
  try simp (maxSteps := 1000000) only [go_region, go_seq, go_ops_nil, go_op, opK_none, opK_some, contK_some, callOf, callK_eq, callJ_nil, callD_fn, fstep, fpre, fstep0, evs, T, St.ev, St.put, AV.owners, ownersAll, List.getD_cons_zero, List.getD_cons_succ, List.set, List.map_cons, List.map_nil, List.length_nil, List.nil_append, List.append_nil, true_and, Bool.true_and]
  (refine callG_use (ref06_Purge _ _ (by omega)) rfl ?_; rintro _ rfl)
  try simp (maxSteps := 1000000) only [go_region, go_seq, go_block, go_loop, go_ops_nil, go_op, opK_none, contK_some, callOf, fstep, fpre, fstep0, St.ev, St.put, List.getD_cons_zero, List.getD_cons_succ, List.set, true_and, Bool.true_and]
  have hll : (lives now l).length ≤ 200 := Nat.le_trans (List.length_filter_le _ _) hlen
  have hcount := bestF_count (lives now l)
  generalize lives now l = L at hll hcount hK
  refine loopK_rule tyOk (α := Nat) 1 [4, 5, 6] (fun i => i ≤ L.length ∧ ∀ i', i' < i → anyBeat L i' L.length = true)
    (fun i => ⟨[.any, .any, .any, .any, .ptr 0 0, .sl 4 (avs L), i64 i, .any, .any, .any, .any, .any, .any, .any, .any, .any, .any, .any, .any, .any, .any, .any, .any, .any, .any, .any, .any, .any, .any, .any, .any, .any, .any, .any, .any, .any, .any, .any, .any, .any, .any, .any, .any, .any, .any, .any, .any, .any, .any, .any, .any, .any, .any, .any, .any, .any, .any, .any, .any, .any, .any, .any, .any, .any, .any, .any, .any, .any, .any, .any, .any, .any, .any, .any, .any, .any, .any, .any, .any, .any, .any, .any, .any, .any, .any, .any, .any, .any, .any, .any, .any, .any, .any, .any], [.box [i64 0, i64 0, i64 0]]⟩)
    (fun i => L.length - i) 0 (Nat.zero_le _) ⟨Nat.zero_le _, fun _ h => by omega⟩ rfl ?_
  intro i ⟨hi, hbf⟩
  try simp (maxSteps := 1000000) only [go_region, go_seq, go_cond, go_ops_nil, go_op, opK_none, contK_some, callOf, fstep, fpre, fstep0, fbinA, fbin, fbin0, flen, T, St.ev, St.put, List.getD_cons_zero, List.getD_cons_succ, List.set, true_and, Bool.true_and, avs_len]
  (first | refine guardV_split ?_ ?_ | refine condK_split ?_ ?_ | refine drawV_split ?_ ?_ | refine condY_split ?_ ?_ | refine guardY_split ?_ ?_) <;> intro h <;> try simp (maxSteps := 1000000) only [go_skip, go_region, go_seq, go_block, go_exit, go_ret, go_loop, exitK_code, exitK_blk, exitK_nil, go_ops_nil, go_op, opK_none, contK_some, condK_t, condK_f, callOf, fstep, fpre, fstep0, fstore, ffill, fieldsOk, fbuild, evParts, T, St.ev, St.put, splice, AV.cells, AV.known, AV.flat, Value.oneCell', List.getD_cons_zero, List.getD_cons_succ, List.set, List.map_cons, List.map_nil, List.length_cons, List.length_nil, List.all_cons, List.all_nil, List.drop_succ_cons, List.drop_zero, List.take_zero, List.nil_append, List.append_nil, List.getElem?_cons_zero, Option.isSome_some, true_and, and_true, Bool.and_true, Bool.true_and, Bool.and_self, ↓reduceIte, Nat.reduceAdd, Nat.le_refl, Nat.zero_add, loopX_exit]
  · obtain ⟨hlt, eg, ew, c1⟩ := at_idx (by omega) h
    refine loopK_rule tyOk (α := Nat) 1 [4, 5, 6, 7, 8] (fun k => k ≤ L.length)
      (fun k => ⟨[.any, .any, .any, .any, .ptr 0 0, .sl 4 (avs L), i64 i, bool (!anyBeat L i k), i64 k, .any, .any, .any, .any, .any, .any, .any, .any, .any, .any, .any, .any, .any, .any, .any, .any, .any, .any, .any, .any, .any, .any, .any, .any, .any, .any, .any, .any, .any, .any, .any, .any, .any, .any, .any, .any, .any, .any, .any, .any, .any, .any, .any, .any, .any, .any, .any, .any, .any, .any, .any, .any, .any, .any, .any, .any, .any, .any, .any, .any, .any, .any, .any, .any, .any, .any, .any, .any, .any, .any, .any, .any, .any, .any, .any, .any, .any, .any, .any, .any, .any, .any, .any, .any, .any], [.box [i64 0, i64 0, i64 0]]⟩)
      (fun k => L.length - k) 0 (Nat.zero_le _) (Nat.zero_le _) rfl ?_
    intro k hk
    try simp (maxSteps := 1000000) only [go_region, go_seq, go_cond, go_ops_nil, go_op, opK_none, contK_some, callOf, fstep, fpre, fstep0, fbinA, fbin, fbin0, flen, T, St.ev, St.put, List.getD_cons_zero, List.getD_cons_succ, List.set, true_and, Bool.true_and, avs_len]
    (first | refine guardV_split ?_ ?_ | refine condK_split ?_ ?_ | refine drawV_split ?_ ?_ | refine condY_split ?_ ?_ | refine guardY_split ?_ ?_) <;> intro h2 <;> try simp (maxSteps := 1000000) only [go_skip, go_region, go_seq, go_cond, go_block, go_exit, go_draws, exitK_code, exitK_blk, exitK_nil, go_ops_nil, go_op, opK_none, contK_some, condK_t, condK_f, callOf, fstep, fpre, fstep0, St.ev, St.put, List.getD_cons_zero, List.getD_cons_succ, List.set, true_and, Bool.true_and, ↓reduceIte, loopX_exit]
    · obtain ⟨hlt2, eg2, ew2, c2⟩ := at_idx (by omega) h2
      have hbt := anyBeat_next (k := k) hlt hlt2
      refine draw_rule tyOk (by rfl) (by simp only [List.length_cons, List.length_nil, Nat.reduceAdd, Nat.zero_le]) (by kernel_rfl) rfl ?_
      try simp (maxSteps := 1000000) only [callOf, fstep0, fbinA, fbin, fbin0, fload, fcell, ffieldAddr, findexAddr, T, TI.isAgg, St.ev, St.put, AV.cells, AV.known, List.getD_cons_zero, List.getD_cons_succ, List.set, List.length_cons, List.length_nil, List.drop_succ_cons, List.drop_zero, List.headD_cons, List.append_nil, List.getElem?_cons_zero, List.getElem?_cons_succ, List.replicate, Option.bind_some, List.getElem?_toArray, true_and, and_true, Bool.and_true, Bool.true_and, Bool.false_eq_true, ↓reduceIte, reduceCtorEq, ne_eq, not_false_eq_true, Nat.reduceAdd, Nat.reduceLT, Nat.add_zero, Nat.zero_add, newCount, drawR_op, drawR_guard, drawW_some, drawP_none, drawQ_some, dstep, isFree, St.app, bump, isNew, eg, c1, eg2, c2, avs_len]
      (first | refine guardV_split ?_ ?_ | refine condK_split ?_ ?_ | refine drawV_split ?_ ?_ | refine condY_split ?_ ?_ | refine guardY_split ?_ ?_) <;> intro b1
      · have hv : beats L[k] L[i] k i = true := by rw [beats, b1]; rfl
        try simp (maxSteps := 1000000) only [go_nil, go_region, go_cond, go_blk, go_ops_nil, go_op, opK_none, contK_some, condK_t, undef, callOf, fstep, fpre, fstep0, fbinA, fbin, fbin0, fpick, St.ev, St.put, List.getD_cons_zero, List.getD_cons_succ, List.set, List.getElem?_cons_zero, List.getElem?_cons_succ, Option.bind_some, List.getElem?_toArray, true_and, Bool.true_and, Bool.false_eq_true, ↓reduceIte, Nat.reduceAdd, drawR_nil, drawR_op, drawR_guard, drawW_some, drawV_tf, drawV_u, drawP_none, drawQ_some, dstep, isFree, St.app, bump, isNew]
        refine ⟨by kernel_rfl, ?_⟩
        try simp (maxSteps := 1000000) only [ew2]
        simp only [loopX_normal, St.trunc, St.keep, truncVs, truncV, AB.trunc, keepV, List.elem_cons, List.elem_nil, List.take_succ_cons, List.take_zero, List.map_cons, List.map_nil, Nat.reduceAdd, Nat.reduceBEq, Nat.reduceLeDiff, Nat.zero_add, Bool.false_eq_true, ↓reduceIte]
        exact ⟨k + 1, hlt2, by omega, by rw [hbt, hv]; first | rfl | rw [Bool.or_false] | (rw [Bool.or_true]; rfl)⟩
      · try simp (maxSteps := 1000000) only [callOf, fstep0, fbinA, fbin, fbin0, fload, fcell, ffieldAddr, findexAddr, T, TI.isAgg, St.ev, St.put, AV.cells, AV.known, List.getD_cons_zero, List.getD_cons_succ, List.set, List.length_cons, List.length_nil, List.drop_succ_cons, List.drop_zero, List.headD_cons, List.getElem?_cons_zero, List.getElem?_cons_succ, Option.bind_some, List.getElem?_toArray, true_and, and_true, Bool.and_true, Bool.true_and, Bool.false_eq_true, ↓reduceIte, reduceCtorEq, ne_eq, not_false_eq_true, Nat.reduceAdd, Nat.reduceLT, Nat.zero_add, drawR_guard, drawW_some, drawV_ff, drawP_none, drawQ_some, dstep, isFree, St.app, bump, isNew, eg, c1, eg2, c2, avs_len]
        (first | refine guardV_split ?_ ?_ | refine condK_split ?_ ?_ | refine drawV_split ?_ ?_ | refine condY_split ?_ ?_ | refine guardY_split ?_ ?_) <;> intro b2
        · try simp (maxSteps := 1000000) only [callOf, fstep0, fbinA, fbin, fbin0, fload, fcell, ffieldAddr, findexAddr, T, TI.isAgg, St.ev, St.put, AV.cells, AV.known, List.getD_cons_zero, List.getD_cons_succ, List.set, List.length_cons, List.length_nil, List.drop_zero, List.headD_cons, List.getElem?_cons_zero, List.getElem?_cons_succ, Option.bind_some, List.getElem?_toArray, true_and, and_true, Bool.and_true, Bool.true_and, Bool.false_eq_true, ↓reduceIte, reduceCtorEq, ne_eq, not_false_eq_true, Nat.reduceAdd, Nat.reduceLT, Nat.zero_add, drawR_guard, drawW_some, drawV_tt, drawP_none, drawQ_some, dstep, isFree, St.app, bump, isNew, eg, c1, eg2, c2, avs_len]
          (first | refine guardV_split ?_ ?_ | refine condK_split ?_ ?_ | refine drawV_split ?_ ?_ | refine condY_split ?_ ?_ | refine guardY_split ?_ ?_) <;> intro b3
          · have hv : beats L[k] L[i] k i = true := by rw [beats, b1, b2, b3]; rfl
            try simp (maxSteps := 1000000) only [go_nil, go_region, go_cond, go_blk, go_ops_nil, go_op, opK_none, contK_some, condK_t, undef, callOf, fstep, fpre, fstep0, fbinA, fbin, fbin0, fpick, St.ev, St.put, List.getD_cons_zero, List.getD_cons_succ, List.set, List.getElem?_cons_zero, List.getElem?_cons_succ, Option.bind_some, List.getElem?_toArray, true_and, Bool.true_and, Bool.false_eq_true, ↓reduceIte, Nat.reduceAdd, cond_true, cond_false, drawR_nil, drawR_op, drawR_guard, drawW_some, drawV_tt, drawV_tf, drawV_ff, drawV_u, drawP_none, drawQ_some, dstep, isFree, St.app, bump, isNew]
            refine ⟨by kernel_rfl, ?_⟩
            try simp (maxSteps := 1000000) only [ew2]
            simp only [loopX_normal, St.trunc, St.keep, truncVs, truncV, AB.trunc, keepV, List.elem_cons, List.elem_nil, List.take_succ_cons, List.take_zero, List.map_cons, List.map_nil, Nat.reduceAdd, Nat.reduceBEq, Nat.reduceLeDiff, Nat.zero_add, Bool.false_eq_true, ↓reduceIte]
            exact ⟨k + 1, hlt2, by omega, by rw [hbt, hv]; first | rfl | rw [Bool.or_false] | (rw [Bool.or_true]; rfl)⟩
          · try simp (maxSteps := 1000000) only [callOf, fstep0, fbinA, fbin, fbin0, fload, fcell, ffieldAddr, findexAddr, T, TI.isAgg, St.ev, St.put, AV.cells, AV.known, List.getD_cons_zero, List.getD_cons_succ, List.set, List.length_cons, List.length_nil, List.drop_zero, List.headD_cons, List.getElem?_cons_zero, List.getElem?_cons_succ, Option.bind_some, List.getElem?_toArray, true_and, and_true, Bool.and_true, Bool.true_and, Bool.false_eq_true, ↓reduceIte, reduceCtorEq, ne_eq, not_false_eq_true, Nat.reduceAdd, Nat.reduceLT, Nat.zero_add, drawR_guard, drawW_some, drawV_ff, drawP_none, drawQ_some, dstep, isFree, St.app, bump, isNew, eg, c1, eg2, c2, avs_len]
            (first | refine guardV_split ?_ ?_ | refine condK_split ?_ ?_ | refine drawV_split ?_ ?_ | refine condY_split ?_ ?_ | refine guardY_split ?_ ?_) <;> intro b4
            · have hv : beats L[k] L[i] k i = decide ((k : Int) < (i : Int)) := by rw [beats, b1, b2, b3, b4]; rfl
              try simp (maxSteps := 1000000) only [go_cond, callOf, fstep0, fbinA, fbin, fbin0, fpick, St.ev, St.put, List.getD_cons_zero, List.getD_cons_succ, List.set, List.getElem?_cons_zero, List.getElem?_cons_succ, Option.bind_some, List.getElem?_toArray, true_and, Bool.true_and, Bool.false_eq_true, ↓reduceIte, Nat.reduceAdd, cond_true, cond_false, drawR_nil, drawR_op, drawR_guard, drawW_some, drawV_tt, drawV_ff, drawP_none, drawQ_some, dstep, isFree, St.app, bump, isNew]
              refine ⟨by kernel_rfl, ?_⟩
              (first | refine guardV_split ?_ ?_ | refine condK_split ?_ ?_ | refine drawV_split ?_ ?_ | refine condY_split ?_ ?_ | refine guardY_split ?_ ?_) <;> intro b5
              · try simp (maxSteps := 1000000) only [go_nil, go_region, go_blk, go_ops_nil, go_op, opK_none, contK_some, condK_t, callOf, fstep, fpre, fstep0, fbinA, fbin, fbin0, St.ev, St.put, List.getD_cons_zero, List.getD_cons_succ, List.set, true_and, Bool.true_and, ew2]
                rw [b5] at hv
                simp only [loopX_normal, St.trunc, St.keep, truncVs, truncV, AB.trunc, keepV, List.elem_cons, List.elem_nil, List.take_succ_cons, List.take_zero, List.map_cons, List.map_nil, Nat.reduceAdd, Nat.reduceBEq, Nat.reduceLeDiff, Nat.zero_add, Bool.false_eq_true, ↓reduceIte]
                exact ⟨k + 1, hlt2, by omega, by rw [hbt, hv]; first | rfl | rw [Bool.or_false] | (rw [Bool.or_true]; rfl)⟩
              · try simp (maxSteps := 1000000) only [go_nil, go_skip, go_region, go_blk, go_ops_nil, go_op, opK_none, contK_some, condK_f, callOf, fstep, fpre, fstep0, fbinA, fbin, fbin0, St.ev, St.put, List.getD_cons_zero, List.getD_cons_succ, List.set, true_and, Bool.true_and, ew2]
                rw [b5] at hv
                simp only [loopX_normal, St.trunc, St.keep, truncVs, truncV, AB.trunc, keepV, List.elem_cons, List.elem_nil, List.take_succ_cons, List.take_zero, List.map_cons, List.map_nil, Nat.reduceAdd, Nat.reduceBEq, Nat.reduceLeDiff, Nat.zero_add, Bool.false_eq_true, ↓reduceIte]
                exact ⟨k + 1, hlt2, by omega, by rw [hbt, hv]; first | rfl | rw [Bool.or_false] | (rw [Bool.or_true]; rfl)⟩
            · have hv : beats L[k] L[i] k i = false := by rw [beats, b1, b2, b3, b4]; rfl
              try simp (maxSteps := 1000000) only [go_nil, go_skip, go_region, go_cond, go_blk, go_ops_nil, go_op, opK_none, contK_some, condK_f, undef, callOf, fstep, fpre, fstep0, fbinA, fbin, fbin0, fpick, St.ev, St.put, List.getD_cons_zero, List.getD_cons_succ, List.set, List.getElem?_cons_zero, List.getElem?_cons_succ, Option.bind_some, List.getElem?_toArray, true_and, Bool.true_and, Bool.false_eq_true, ↓reduceIte, Nat.reduceAdd, cond_true, cond_false, drawR_nil, drawR_op, drawR_guard, drawW_some, drawV_tt, drawV_ft, drawV_ff, drawP_none, drawQ_some, dstep, isFree, St.app, bump, isNew]
              refine ⟨by kernel_rfl, ?_⟩
              try simp (maxSteps := 1000000) only [ew2]
              simp only [loopX_normal, St.trunc, St.keep, truncVs, truncV, AB.trunc, keepV, List.elem_cons, List.elem_nil, List.take_succ_cons, List.take_zero, List.map_cons, List.map_nil, Nat.reduceAdd, Nat.reduceBEq, Nat.reduceLeDiff, Nat.zero_add, Bool.false_eq_true, ↓reduceIte]
              exact ⟨k + 1, hlt2, by omega, by rw [hbt, hv]; first | rfl | rw [Bool.or_false] | (rw [Bool.or_true]; rfl)⟩
        · have hv : beats L[k] L[i] k i = false := by rw [beats, b1, b2]; rfl
          try simp (maxSteps := 1000000) only [go_nil, go_skip, go_region, go_cond, go_blk, go_ops_nil, go_op, opK_none, contK_some, condK_f, undef, callOf, fstep, fpre, fstep0, fbinA, fbin, fbin0, fpick, St.ev, St.put, List.getD_cons_zero, List.getD_cons_succ, List.set, List.getElem?_cons_zero, List.getElem?_cons_succ, Option.bind_some, List.getElem?_toArray, true_and, Bool.true_and, Bool.false_eq_true, ↓reduceIte, Nat.reduceAdd, cond_false, drawR_nil, drawR_op, drawR_guard, drawW_some, drawV_ft, drawV_ff, drawV_u, drawP_none, drawQ_some, dstep, isFree, St.app, bump, isNew]
          refine ⟨by kernel_rfl, ?_⟩
          try simp (maxSteps := 1000000) only [ew2]
          simp only [loopX_normal, St.trunc, St.keep, truncVs, truncV, AB.trunc, keepV, List.elem_cons, List.elem_nil, List.take_succ_cons, List.take_zero, List.map_cons, List.map_nil, Nat.reduceAdd, Nat.reduceBEq, Nat.reduceLeDiff, Nat.zero_add, Bool.false_eq_true, ↓reduceIte]
          exact ⟨k + 1, hlt2, by omega, by rw [hbt, hv]; first | rfl | rw [Bool.or_false] | (rw [Bool.or_true]; rfl)⟩
    · obtain rfl := at_end hk h2
      (first | refine guardV_split ?_ ?_ | refine condK_split ?_ ?_ | refine drawV_split ?_ ?_ | refine condY_split ?_ ?_ | refine guardY_split ?_ ?_) <;> intro h3
      · have hu := best_unique hlt (by simpa using h3)
        try simp (maxSteps := 1000000) only [go_seq, go_draws, condK_t]
        refine draw_rule tyOk (by rfl) (by simp only [List.length_cons, List.length_nil, Nat.reduceAdd, Nat.zero_le]) (by kernel_rfl) rfl ?_
        try simp (maxSteps := 1000000) only [go_ret, callOf, fstep0, fload, fcell, ffieldAddr, findexAddr, ffill, fieldPlaces, fieldsOk, fbuild, evParts, flen, T, TI.isAgg, St.ev, St.put, splice, AV.cells, AV.known, AV.flat, Value.cells, Value.oneCell', List.getD_cons_zero, List.getD_cons_succ, List.set, List.map_cons, List.map_nil, List.length_cons, List.length_nil, List.all_cons, List.all_nil, List.drop_succ_cons, List.drop_zero, List.take_succ_cons, List.take_zero, List.headD_cons, List.cons_append, List.nil_append, List.append_nil, List.getElem?_cons_zero, List.getElem?_cons_succ, List.replicate, Option.isSome_some, List.getElem?_toArray, true_and, and_true, Bool.and_true, Bool.true_and, Bool.and_self, Bool.false_eq_true, ↓reduceIte, reduceCtorEq, ne_eq, not_false_eq_true, Nat.reduceAdd, Nat.reduceLeDiff, Nat.reduceLT, Nat.le_refl, Nat.add_zero, Nat.zero_add, loopX_ret, newCount, drawR_nil, drawR_op, drawP_none, drawQ_some, dstep, isFree, dstore, St.app, bump, isNew, eg, c1, avs_len]
        refine ⟨by kernel_rfl, ?_⟩
        skip
        apply hK
        simp only [Try.results80, retK, ares, List.take_nil, Bool.and_true, Bool.true_and, AV.ofResults, St.trunc, truncVs, truncV, aload, acell, T, TI.isAgg, List.getD_cons_zero, List.getD_cons_succ, List.take_zero, List.take_succ_cons, List.drop_zero, List.map_nil, List.getElem?_cons_zero, List.length_cons, List.length_nil, Nat.reduceAdd, Nat.le_refl, true_and, and_true, ↓reduceIte, List.cons.injEq, exists_eq_left']
        rw [hu, hcount]
      · try simp (maxSteps := 1000000) only [go_nil, go_skip, go_region, go_blk, go_ops_nil, go_op, opK_none, contK_some, condK_f, callOf, fstep, fpre, fstep0, fbinA, fbin, fbin0, St.ev, St.put, List.getD_cons_zero, List.getD_cons_succ, List.set, true_and, Bool.true_and, ew]
        simp only [loopX_normal, St.trunc, St.keep, truncVs, truncV, AB.trunc, keepV, List.elem_cons, List.elem_nil, List.take_succ_cons, List.take_zero, List.map_cons, List.map_nil, Nat.reduceAdd, Nat.reduceBEq, Nat.reduceLeDiff, Nat.zero_add, Bool.false_eq_true, ↓reduceIte]
        refine ⟨i + 1, ⟨hlt, fun i' hi' => ?_⟩, by omega, rfl⟩
        by_cases e : i' = i
        · subst e; simpa using h3
        · exact hbf i' (by omega)
  · obtain rfl := at_end hi h
    have hn : L = [] := by
      apply Classical.byContradiction
      intro hn
      obtain ⟨j, hj, hj2⟩ := best_some hn
      rw [hbf j hj] at hj2
      cases hj2
    subst hn
    apply hK
    simp only [Try.results80, retK, ares, List.take_nil, Bool.and_true, Bool.true_and, AV.ofResults, St.trunc, truncVs, truncV, aload, acell, T, TI.isAgg, List.getD_cons_zero, List.getD_cons_succ, List.take_zero, List.take_succ_cons, List.drop_zero, List.map_nil, List.getElem?_cons_zero, List.length_cons, List.length_nil, Nat.reduceAdd, Nat.le_refl, true_and, and_true, ↓reduceIte, List.cons.injEq, exists_eq_left']
    rfl


theorem ref01_Add (a b : Int) : PCall P 74 [u64 a, u64 b] (fun x => x = u64 (addW a b)) := by
  refine pcall_go tyOk Try.func74 rfl rfl ?_
  intro K hK
  simp only [Try.ntmps74, List.length_cons, List.length_nil, Nat.reduceAdd, Nat.reduceSub, List.replicate, List.cons_append, List.nil_append]
  try simp (maxSteps := 1000000) only [go_region, go_seq, go_cond, go_ops_nil, go_op, opK_none, contK_some, callOf, fstep, fpre, fstep0, fbinA, fbin, fbin0, St.ev, St.put, List.getD_cons_zero, List.getD_cons_succ, List.set, true_and, Bool.true_and]
  (first | refine guardV_split ?_ ?_ | refine condK_split ?_ ?_ | refine drawV_split ?_ ?_ | refine condY_split ?_ ?_ | refine guardY_split ?_ ?_) <;> intro h <;> try simp (maxSteps := 1000000) only [go_skip, go_region, go_seq, go_ret, go_ops_nil, go_op, opK_none, contK_some, condK_t, condK_f, callOf, fstep, fpre, fstep0, fbinA, fbin, fbin0, St.ev, St.put, List.getD_cons_zero, List.getD_cons_succ, List.set, true_and, Bool.true_and]
  · apply hK
    simp only [Try.results74, retK, ares, List.take_nil, Bool.and_true, Bool.true_and, AV.ofResults, St.trunc, truncVs, truncV, List.getD_cons_zero, List.getD_cons_succ, List.map_nil, true_and, and_true, List.cons.injEq, exists_eq_left']
    rw [addW, if_pos (by simpa using h)]
  · apply hK
    simp only [Try.results74, retK, ares, List.take_nil, Bool.and_true, Bool.true_and, AV.ofResults, St.trunc, truncVs, truncV, List.getD_cons_zero, List.getD_cons_succ, List.map_nil, true_and, and_true, List.cons.injEq, exists_eq_left']
    rw [addW, if_neg (by simpa using h)]
def findU (m : Bk) (u : ByteArray) : En := match m.find? (fun p => eqS p.1 u) with | some p => p.2 | none => nilEn
theorem find_none {m : Bk} {u : ByteArray} (h : ∀ p ∈ m, eqS p.1 u = false) : findU m u = nilEn := by
  unfold findU
  rw [List.find?_eq_none.2 (fun p hp => by rw [h p hp]; decide)]
theorem find_some {m : Bk} {u : ByteArray} {i : Nat} (hi : i < m.length) (h : ∀ p ∈ m.take i, eqS p.1 u = false) (h2 : eqS m[i].1 u = true) : findU m u = m[i].2 := by
  unfold findU
  have e : m = m.take i ++ m[i] :: m.drop (i + 1) := by rw [List.getElem_cons_drop, List.take_append_drop]
  have : m.find? (fun p => eqS p.1 u) = some m[i] := by
    refine (congrArg (List.find? (fun p => eqS p.1 u)) e).trans ?_
    rw [List.find?_append, List.find?_eq_none.2 (fun p hp => by rw [h p hp]; decide)]
    simp only [List.find?_cons, h2]
    rfl
  rw [this]
theorem find_was {m : Bk} (hr : rises_se m) (u : ByteArray) : findU m u = wasOf m u := by
  by_cases hk : u ∈ m.map Prod.fst
  · obtain ⟨q, hq, rfl⟩ := List.mem_map.1 hk
    obtain ⟨i, hi, rfl⟩ := List.mem_iff_getElem.1 hq
    have hw : wasOf m m[i].1 = m[i].2 := by rw [wasOf, get_mem ordS eqS_iff hr (k := m[i].1) (v := m[i].2) (List.getElem_mem hi)]
    rw [hw]
    refine find_some hi (fun p hp => ?_) ((eqS_iff _ _).2 rfl)
    obtain ⟨j, hj, rfl⟩ := List.mem_iff_getElem.1 hp
    rw [List.length_take] at hj
    rw [List.getElem_take]
    have := List.pairwise_iff_getElem.1 (risesM_iff.1 hr) j i (by omega) hi (by omega)
    cases hc : eqS m[j].1 m[i].1 with
    | false => rfl
    | true => rw [(eqS_iff _ _).1 hc, ordS.irrefl] at this; cases this
  · rw [wasOf, get_none ordS eqS_iff hr hk]
    refine find_none fun p hp => ?_
    cases hc : eqS p.1 u with
    | false => rfl
    | true => exact absurd (List.mem_map.2 ⟨p, hp, (eqS_iff _ _).1 hc⟩) hk
theorem ref08_Find (m : Bk) (u : ByteArray) (hm : m.length ≤ 10000) : PCall P 73 [.sl 5 (usrs m), str u]
    (fun x => Sym.weak x (usr (u, findU m u))) := by
  refine pcall_go tyOk Try.func73 rfl rfl ?_
  intro K hK
  simp only [Try.ntmps73, List.length_cons, List.length_nil, Nat.reduceAdd, Nat.reduceSub, List.replicate, List.cons_append, List.nil_append]
  try simp (maxSteps := 1000000) only [go_region, go_seq, go_block, go_loop, go_ops_nil, go_op, opK_none, contK_some, callOf, fstep, fpre, fstep0, T, St.ev, St.put, List.set, List.map_cons, List.map_nil, List.length_nil, List.nil_append, true_and, Bool.true_and]
  refine loopK_rule tyOk (α := Nat) 1 [0, 1, 4, 5] (fun i => i ≤ m.length ∧ ∀ p ∈ m.take i, eqS p.1 u = false)
    (fun i => ⟨[.sl 5 (usrs m), str u, .any, .any, .ptr 0 0, i64 i, .any, .any, .any, .any, .any, .any, .any, .any, .any, .any, .any, .any, .any, .any, .any, .any, .any, .any, .any], [.box [str .empty, .v (.slice none 0 0), i64 0, i64 0, i64 0]]⟩)
    (fun i => m.length - i) 0 (Nat.zero_le _) ⟨Nat.zero_le _, fun p hp => by simp at hp⟩ rfl ?_
  intro i ⟨hi, hno⟩
  try simp (maxSteps := 1000000) only [go_region, go_seq, go_cond, go_ops_nil, go_op, opK_none, contK_some, callOf, fstep, fpre, fstep0, fbinA, fbin, fbin0, flen, T, St.ev, St.put, List.getD_cons_zero, List.getD_cons_succ, List.set, true_and, Bool.true_and, usrs_len]
  (first | refine guardV_split ?_ ?_ | refine condK_split ?_ ?_ | refine drawV_split ?_ ?_ | refine condY_split ?_ ?_ | refine guardY_split ?_ ?_) <;> intro h
  · have hlt : i < m.length := by simpa using h
    have eg : (usrs m).getD (Int.toNat (i : Int)) .any = .agg [str m[i].1, .sl 4 (avs m[i].2.l), i64 m[i].2.t.st, i64 m[i].2.t.pr, i64 m[i].2.t.n] := at_map hlt
    have ew : IntKind.i64.wrap ((i : Int) + 1) = ((i + 1 : Nat) : Int) := by rw [wrap_i64 (by omega) (by omega)]; rfl
    have c1 : (0 : Int) ≤ (i : Int) ∧ Int.toNat (i : Int) < m.length := by omega
    try simp (maxSteps := 1000000) only [go_skip, go_region, go_seq, go_cond, go_block, go_ops_nil, go_op, opK_none, contK_some, condK_t, callOf, fstep, fpre, fstep0, fbinA, fbin, fbin0, fload, fcell, ffieldAddr, findexAddr, T, TI.isAgg, St.ev, St.put, AV.cells, AV.known, List.getD_cons_zero, List.getD_cons_succ, List.set, List.length_cons, List.length_nil, List.drop_zero, List.headD_cons, List.getElem?_cons_zero, List.getElem?_toArray, true_and, and_true, Bool.and_true, Bool.true_and, Bool.false_eq_true, ↓reduceIte, reduceCtorEq, ne_eq, not_false_eq_true, Nat.reduceAdd, Nat.reduceLT, Nat.zero_add, eg, c1, usrs_len]
    (first | refine guardV_split ?_ ?_ | refine condK_split ?_ ?_ | refine drawV_split ?_ ?_ | refine condY_split ?_ ?_ | refine guardY_split ?_ ?_) <;> intro h2
    · have h2' : eqS m[i].1 u = true := h2
      try simp (maxSteps := 1000000) only [go_region, go_seq, go_ret, go_ops_nil, go_op, opK_none, contK_some, condK_t, callOf, fstep, fpre, fstep0, fload, fcell, fstore, findexAddr, T, TI.isAgg, St.ev, St.put, splice, AV.cells, AV.known, AV.flat, Value.oneCell', List.getD_cons_zero, List.getD_cons_succ, List.set, List.length_cons, List.length_nil, List.all_cons, List.all_nil, List.drop_succ_cons, List.drop_zero, List.take_succ_cons, List.take_zero, List.nil_append, List.append_nil, List.getElem?_cons_zero, true_and, and_true, Bool.and_true, Bool.true_and, Bool.and_self, ↓reduceIte, Nat.reduceAdd, Nat.le_refl, Nat.zero_add, loopX_ret, eg, c1, usrs_len]
      apply hK
      simp only [Try.results73, retK, ares, List.take_nil, Bool.and_true, Bool.true_and, AV.ofResults, St.trunc, truncVs, truncV, aload, acell, T, TI.isAgg, List.getD_cons_zero, List.getD_cons_succ, List.take_zero, List.take_succ_cons, List.drop_zero, List.map_nil, List.getElem?_cons_zero, List.length_cons, List.length_nil, Nat.reduceAdd, Nat.le_refl, true_and, and_true, ↓reduceIte, List.cons.injEq, exists_eq_left']
      rw [find_some hlt hno h2', ← (eqS_iff _ _).1 h2']
      exact weak_refl _
    · have h2' : eqS m[i].1 u = false := h2
      try simp (maxSteps := 1000000) only [go_nil, go_skip, go_region, go_blk, go_ops_nil, go_op, opK_none, contK_some, condK_f, callOf, fstep, fpre, fstep0, fbinA, fbin, fbin0, St.ev, St.put, List.getD_cons_zero, List.getD_cons_succ, List.set, true_and, Bool.true_and, ew]
      simp only [loopX_normal, St.trunc, St.keep, truncVs, truncV, AB.trunc, keepV, List.elem_cons, List.elem_nil, List.take_succ_cons, List.take_zero, List.map_cons, List.map_nil, Nat.reduceAdd, Nat.reduceBEq, Nat.reduceLeDiff, Nat.zero_add, Bool.false_eq_true, ↓reduceIte]
      refine ⟨i + 1, ⟨hlt, fun p hp => ?_⟩, by omega, rfl⟩
      rw [take_one hlt] at hp
      rcases List.mem_append.1 hp with hp | hp
      · exact hno p hp
      · obtain rfl : p = m[i] := by simpa using hp
        exact h2'
  · obtain rfl := at_end hi h
    rw [List.take_length] at hno
    try simp (maxSteps := 1000000) only [go_region, go_seq, go_exit, go_ret, exitK_code, exitK_blk, exitK_nil, go_ops_nil, go_op, opK_none, contK_some, condK_f, callOf, fstep, fpre, fstep0, fstore, ffill, fieldPlaces, fieldsOk, fbuild, evParts, T, St.ev, St.put, splice, AV.cells, AV.known, AV.flat, Value.cells, Value.oneCell', List.getD_cons_zero, List.getD_cons_succ, List.set, List.map_cons, List.map_nil, List.length_cons, List.length_nil, List.all_cons, List.all_nil, List.drop_succ_cons, List.drop_zero, List.take_zero, List.cons_append, List.nil_append, List.append_nil, List.getElem?_cons_zero, Option.isSome_some, List.getElem?_toArray, true_and, and_true, Bool.and_true, Bool.true_and, Bool.and_self, ↓reduceIte, Nat.reduceAdd, Nat.reduceLeDiff, Nat.le_refl, Nat.zero_add, loopX_exit]
    apply hK
    simp only [Try.results73, retK, ares, List.take_nil, Bool.and_true, Bool.true_and, AV.ofResults, St.trunc, truncVs, truncV, aload, acell, T, TI.isAgg, List.getD_cons_zero, List.getD_cons_succ, List.take_zero, List.take_succ_cons, List.drop_zero, List.map_nil, List.getElem?_cons_zero, List.length_cons, List.length_nil, Nat.reduceAdd, Nat.le_refl, true_and, and_true, ↓reduceIte, List.cons.injEq, exists_eq_left']
    rw [find_none hno]
    exact .inr ⟨_, rfl, _, _, rfl, weak_refl _, _, _, rfl, weak_nil 4, _, _, rfl, weak_refl _, _, _, rfl, weak_refl _, _, _, rfl, weak_refl _, rfl⟩
end Go.Proofs.Ytljgfapbbhbbpaa
namespace Go.Proofs.Ytljgfapbbhbbpaa
open Go Go.Proofs.Ytljgfapbbhbbpaa.Sym
set_option maxRecDepth 100000
set_option linter.unusedSimpArgs false
set_option linter.unusedVariables false

def becStep (u : ByteArray) (e : En) (s : Bk × Bool) (x : ByteArray × En) : Bk × Bool :=
  let s1 : Bk × Bool := if (!s.2 && !ltS x.1 u) = true then (s.1 ++ [(u, e)], true) else s
  if eqS x.1 u = true then s1 else (s1.1 ++ [x], s1.2)
def becRun (u : ByteArray) (e : En) (b : Bool) (m : Bk) : Bk × Bool := m.foldl (becStep u e) ([], b)
def becF (m : Bk) (u : ByteArray) (e : En) : Bk := let r := becRun u e (decide (e.l.length = 0)) m; if r.2 = true then r.1 else r.1 ++ [(u, e)]
theorem bec_put (u : ByteArray) (e : En) (m : Bk) : ∀ out, m.foldl (becStep u e) (out, true) = (out ++ m.filter (fun p => !eqS p.1 u), true) := by
  induction m with
  | nil => intro out; simp
  | cons x xs ih =>
    intro out
    rw [List.foldl_cons, List.filter_cons]
    cases h : eqS x.1 u with
    | true =>
      have e1 : becStep u e (out, true) x = (out, true) := by simp [becStep, h]
      rw [e1, ih]; simp
    | false =>
      have e1 : becStep u e (out, true) x = (out ++ [x], true) := by simp [becStep, h]
      rw [e1, ih]; simp
theorem bec_not (u : ByteArray) (e : En) (m : Bk) (hr : rises_se m) : ∀ out, (fun r : Bk × Bool => if r.2 = true then r.1 else r.1 ++ [(u, e)]) (m.foldl (becStep u e) (out, false)) = out ++ (m.filter (fun p => ltS p.1 u) ++ [(u, e)] ++ m.filter (fun p => ltS u p.1)) := by
  induction m with
  | nil => intro out; simp
  | cons x xs ih =>
    intro out
    have hp := List.pairwise_cons.1 (risesM_iff.1 hr)
    rw [List.foldl_cons, List.filter_cons, List.filter_cons]
    cases hx : ltS x.1 u with
    | true =>
      have hux : ltS u x.1 = false := by
        cases hc : ltS u x.1 with
        | false => rfl
        | true => have := ordS.trans _ _ _ hx hc; rw [ordS.irrefl] at this; cases this
      have hne : eqS x.1 u = false := by
        cases hc : eqS x.1 u with
        | false => rfl
        | true => rw [(eqS_iff _ _).1 hc, ordS.irrefl] at hx; cases hx
      have e1 : becStep u e (out, false) x = (out ++ [x], false) := by simp [becStep, hx, hne]
      rw [e1, ih (risesM_iff.2 hp.2), hux]
      simp
    | false =>
      have hlow : ∀ y ∈ xs, ltS y.1 u = false ∧ eqS y.1 u = false ∧ ltS u y.1 = true := by
        intro y hy
        have hxy := hp.1 y hy
        have h1 : ltS y.1 u = false := by
          cases hc : ltS y.1 u with
          | false => rfl
          | true => have := ordS.trans _ _ _ hxy hc; rw [hx] at this; cases this
        have h2 : eqS y.1 u = false := by
          cases hc : eqS y.1 u with
          | false => rfl
          | true => rw [(eqS_iff _ _).1 hc, hx] at hxy; cases hxy
        refine ⟨h1, h2, ?_⟩
        cases hc : ltS u y.1 with
        | true => rfl
        | false => rw [(eqS_iff _ _).2 (ordS.total _ _ h1 hc)] at h2; cases h2
      have f1 : xs.filter (fun p => ltS p.1 u) = [] := filter_none' fun y hy => (hlow y hy).1
      have f2 : xs.filter (fun p => ltS u p.1) = xs := filter_all' fun y hy => (hlow y hy).2.2
      have f3 : xs.filter (fun p => !eqS p.1 u) = xs := filter_all' fun y hy => by rw [(hlow y hy).2.1]; rfl
      cases heq : eqS x.1 u with
      | true =>
        have hxu := (eqS_iff _ _).1 heq
        have e1 : becStep u e (out, false) x = (out ++ [(u, e)], true) := by simp [becStep, hx, heq]
        rw [e1, bec_put, f1, f2, f3, hxu, ordS.irrefl]
        simp
      | false =>
        have hux : ltS u x.1 = true := by
          cases hc : ltS u x.1 with
          | true => rfl
          | false => rw [(eqS_iff _ _).2 (ordS.total _ _ hx hc)] at heq; cases heq
        have e1 : becStep u e (out, false) x = (out ++ [(u, e)] ++ [x], true) := by simp [becStep, hx, heq]
        rw [e1, bec_put, f1, f2, f3, hux]
        simp
theorem becF_eq {m : Bk} (hr : rises_se m) (u : ByteArray) (l : List Ses) (now : Int) : becF m u ⟨l, ofP l now⟩ = settleB m u l now := by
  unfold becF settleB becRun
  by_cases hl : l.length = 0
  · rw [if_pos hl, without_eq ordS eqS_iff hr]
    simp only [hl, decide_true]
    rw [bec_put]; simp
  · rw [if_neg hl, with_eq ordS eqS_iff hr]
    simp only [hl, decide_false]
    have := bec_not u ⟨l, ofP l now⟩ m hr []
    rw [List.nil_append] at this
    exact this
end Go.Proofs.Ytljgfapbbhbbpaa
namespace Go.Proofs.Ytljgfapbbhbbpaa
open Go Go.Proofs.Ytljgfapbbhbbpaa.Sym
set_option maxRecDepth 100000
set_option linter.unusedSimpArgs false
set_option linter.unusedVariables false

theorem find_call (m : Bk) (u : ByteArray) (hm : m.length ≤ 10000) : PCall P 73 [.sl 5 (usrs m), str u]
    (fun x => x = .agg [str u, .sl 4 (avs (findU m u).l), i64 (findU m u).t.st, i64 (findU m u).t.pr, i64 (findU m u).t.n]) :=
  ACall.weaken (ref08_Find m u hm) fun z m' ⟨h1, h2⟩ => ⟨_, [], by subst h1; exact Turns.weak ⟨_, [], rfl, h2, rfl⟩ rfl, rfl, rfl⟩
theorem of7_call (l : List Ses) (now : Int) (h : l.length ≤ 200) : PCall P 80 [.sl 4 (avs l), u64 now] (fun x => x = .agg [i64 (ofP l now).st, i64 (ofP l now).pr, i64 (ofP l now).n]) := ref07_Of l now h
theorem becStep_len (u : ByteArray) (e : En) (s : Bk × Bool) (x : ByteArray × En) : (becStep u e s x).1.length ≤ s.1.length + 2 := by
  unfold becStep
  simp only
  split <;> split <;> simp
theorem becRun_len (u : ByteArray) (e : En) (b : Bool) (m : Bk) : (becRun u e b m).1.length ≤ 2 * m.length := by
  have : ∀ s : Bk × Bool, (m.foldl (becStep u e) s).1.length ≤ s.1.length + 2 * m.length := by
    induction m with
    | nil => intro s; simp
    | cons x xs ih =>
      intro s
      have h1 := ih (becStep u e s x)
      have h2 := becStep_len u e s x
      simp only [List.foldl_cons, List.length_cons]
      omega
  have h := this ([], b)
  simp only [List.length_nil, Nat.zero_add] at h
  exact h
theorem becRun_next {u : ByteArray} {e : En} {b : Bool} {m : Bk} {i : Nat} (h : i < m.length) : becRun u e b (m.take (i + 1)) = becStep u e (becRun u e b (m.take i)) m[i] := by
  rw [take_one h, becRun, List.foldl_append]; rfl
theorem ref08_become (m : Bk) (u : ByteArray) (l : List Ses) (now : Int) (hm : m.length ≤ 10000) (hl : l.length ≤ 200) :
    PCall P 71 [.sl 5 (usrs m), str u, .sl 4 (avs l), u64 now] (fun x => x = .tup [.sl 5 (usrs (becF m u ⟨l, ofP l now⟩)), if ofP l now = (findU m u).t then .v (.slice none 0 0) else .sl 7 (chgs [⟨u, (findU m u).t, ofP l now⟩])]) := by
  refine pcall_go tyOk Try.func71 rfl rfl ?_
  intro K hK
  simp only [Try.ntmps71, List.length_cons, List.length_nil, Nat.reduceAdd, Nat.reduceSub, List.replicate, List.cons_append, List.nil_append]
  try simp (maxSteps := 1000000) only [go_region, go_seq, go_ops_nil, go_op, opK_none, opK_some, contK_some, callOf, callK_eq, callJ_nil, callD_fn, fstep, fpre, fstep0, evs, St.ev, St.put, AV.owners, ownersAll, List.getD_cons_zero, List.getD_cons_succ, List.set, List.append_nil, true_and, Bool.true_and]
  (refine callG_use (find_call m u hm) rfl ?_; rintro _ rfl)
  try simp (maxSteps := 1000000) only [go_region, go_seq, go_ops_nil, go_op, opK_none, opK_some, contK_some, callOf, callK_eq, callJ_nil, callD_fn, fstep, fpre, fstep0, fstore, evs, T, St.ev, St.put, splice, AV.cells, AV.known, AV.flat, AV.owners, ownersAll, Value.oneCell', List.getD_cons_zero, List.getD_cons_succ, List.set, List.map_cons, List.map_nil, List.length_cons, List.length_nil, List.all_cons, List.all_nil, List.drop_succ_cons, List.drop_zero, List.take_zero, List.nil_append, List.append_nil, List.getElem?_cons_zero, true_and, and_true, Bool.and_true, Bool.true_and, Bool.and_self, Nat.reduceAdd, Nat.le_refl, Nat.zero_add]
  (refine callG_use (of7_call l now hl) rfl ?_; rintro _ rfl)
  unfold becF at hK
  generalize ofP l now = p at *
  generalize findU m u = w at *
  have hb0 : (((l.length : Nat) : Int) == 0) = decide (l.length = 0) := by rw [Bool.eq_iff_iff]; simp
  simp only at hK
  generalize decide (l.length = 0) = b at *
  try simp (maxSteps := 1000000) only [go_region, go_seq, go_block, go_loop, go_ops_nil, go_op, opK_none, contK_some, callOf, fstep, fpre, fstep0, fbinA, fbin, fbin0, fstore, flen, T, St.ev, St.put, splice, AV.cells, AV.known, AV.flat, Value.oneCell', List.getD_cons_zero, List.getD_cons_succ, List.set, List.map_cons, List.map_nil, List.length_cons, List.length_nil, List.all_cons, List.all_nil, List.drop_succ_cons, List.drop_zero, List.take_zero, List.cons_append, List.nil_append, List.append_nil, List.getElem?_cons_zero, List.getElem?_cons_succ, true_and, and_true, Bool.and_true, Bool.true_and, Bool.and_self, Nat.reduceAdd, Nat.le_refl, Nat.zero_add, avs_len, hb0]
  refine loopK_turn (Turns.adopt (i := 12) 96 5 rfl) ?_
  refine loopK_rule tyOk (α := Nat) 3 [0, 1, 2, 10, 11, 12, 13, 14] (fun i => i ≤ m.length)
    (fun i => ⟨[.sl 5 (usrs m), str u, .sl 4 (avs l), .any, .any, .any, .any, .any, .any, .any, .ptr 0 0, .ptr 1 0, .own 2 5 0 (becRun u ⟨l, p⟩ b (m.take i)).1.length, bool (becRun u ⟨l, p⟩ b (m.take i)).2, i64 i, .any, .any, .any, .any, .any, .any, .any, .any, .any, .any, .any, .any, .any, .any, .any, .any, .any, .any, .any, .any, .any, .any, .any, .any, .any, .any, .any, .any, .any, .any, .any, .any, .any, .any, .any, .any, .any, .any, .any, .any, .any, .any, .any, .any, .any, .any, .any, .any, .any, .any, .any, .any, .any, .any, .any, .any, .any, .any, .any, .any, .any, .any, .any, .any, .any, .any, .any, .any], [.box [str u, .sl 4 (avs w.l), i64 w.t.st, i64 w.t.pr, i64 w.t.n], .box [i64 p.st, i64 p.pr, i64 p.n], .row 96 5 (usrs (becRun u ⟨l, p⟩ b (m.take i)).1)]⟩)
    (fun i => m.length - i) 0 (by first | exact Nat.zero_le _ | decide) (Nat.zero_le _) rfl ?_
  intro i hi
  have hrl := becRun_len u ⟨l, p⟩ b (m.take i)
  rw [List.length_take] at hrl
  try simp (maxSteps := 1000000) only [go_region, go_seq, go_cond, go_ops_nil, go_op, opK_none, contK_some, callOf, fstep, fpre, fstep0, fbinA, fbin, fbin0, flen, T, St.ev, St.put, List.getD_cons_zero, List.getD_cons_succ, List.set, true_and, Bool.true_and, usrs_len]
  (first | refine guardV_split ?_ ?_ | refine condK_split ?_ ?_ | refine drawV_split ?_ ?_ | refine condY_split ?_ ?_ | refine guardY_split ?_ ?_) <;> intro h <;> try simp (maxSteps := 1000000) only [go_skip, go_region, go_seq, go_cond, go_block, go_exit, exitK_code, exitK_blk, exitK_nil, go_ops_nil, go_op, go_guard, opK_none, contK_some, condK_t, condK_f, guardK_eq, callOf, fstep, fpre, fstep0, funary, St.ev, St.put, List.getD_cons_zero, List.getD_cons_succ, List.set, List.getElem?_cons_zero, List.getElem?_cons_succ, Option.bind_some, List.getElem?_toArray, true_and, Bool.true_and, ↓reduceIte, loopX_exit]
  · have hlt : i < m.length := by simpa using h
    have eg : (usrs m).getD (Int.toNat (i : Int)) .any = .agg [str m[i].1, .sl 4 (avs m[i].2.l), i64 m[i].2.t.st, i64 m[i].2.t.pr, i64 m[i].2.t.n] := at_map hlt
    have ew : IntKind.i64.wrap ((i : Int) + 1) = ((i + 1 : Nat) : Int) := by rw [wrap_i64 (by omega) (by omega)]; rfl
    have c1 : (0 : Int) ≤ (i : Int) ∧ Int.toNat (i : Int) < m.length := by omega
    have hnext := becRun_next (u := u) (e := ⟨l, p⟩) (b := b) hlt
    obtain ⟨⟨O, put⟩, hO⟩ : ∃ s, becRun u ⟨l, p⟩ b (m.take i) = s := ⟨_, rfl⟩
    rw [hO] at hnext hrl ⊢
    simp only at hrl
    generalize m[i] = x at *
    have us1 : ∀ Q : Bk, usrs Q ++ [.agg [str x.1, .sl 4 (avs x.2.l), i64 x.2.t.st, i64 x.2.t.pr, i64 x.2.t.n]] = usrs (Q ++ [x]) := fun Q => usrs_snoc Q x
    have us2 : ∀ Q : Bk, usrs Q ++ [.agg [str u, .sl 4 (avs l), i64 p.st, i64 p.pr, i64 p.n]] = usrs (Q ++ [(u, ⟨l, p⟩)]) := fun Q => usrs_snoc Q (u, ⟨l, p⟩)
    cases put with
    | true =>
      try simp (maxSteps := 1000000) only [go_skip, go_region, go_seq, go_cond, go_ops_nil, go_op, go_guard, opK_none, contK_some, condK_f, guardK_eq, guardV_ft, undef, callOf, fstep, fpre, fstep0, fbinA, fbin, fbin0, fload, fcell, ffieldAddr, findexAddr, fpick, T, TI.isAgg, St.ev, St.put, AV.cells, AV.known, List.getD_cons_zero, List.getD_cons_succ, List.set, List.length_cons, List.length_nil, List.drop_zero, List.headD_cons, List.getElem?_cons_zero, List.getElem?_cons_succ, Option.bind_some, List.getElem?_toArray, true_and, and_true, Bool.and_true, Bool.true_and, Bool.not_true, Bool.false_eq_true, ↓reduceIte, reduceCtorEq, ne_eq, not_false_eq_true, Nat.reduceAdd, Nat.reduceLT, Nat.zero_add, eg, c1, usrs_len]
      (first | refine guardV_split ?_ ?_ | refine condK_split ?_ ?_ | refine drawV_split ?_ ?_ | refine condY_split ?_ ?_ | refine guardY_split ?_ ?_) <;> intro h3
      · have h3' : eqS x.1 u = false := by simpa [eqS, bne] using h3
        have en : becStep u ⟨l, p⟩ (O, true) x = (O ++ [x], true) := by simp [becStep, h3']
        try simp (maxSteps := 1000000) only [go_nil, go_region, go_blk, go_ops_nil, go_op, opK_none, contK_some, condK_t, callOf, fstep, fpre, fstep0, fbinA, fbin, fbin0, fload, fcell, findexAddr, evParts, evOwners, fbuildSlice, felems, fappend, T, TI.isAgg, TI.zeroOk, TI.zav, setParts, partsOk, St.ev, St.put, St.shutAll, St.rehome, killV, killVs, AB.kill, AV.cells, AV.known, AV.flat, AV.pure, pureAll, AV.owners, ownersAll, Value.oneCell', List.getD_cons_zero, List.getD_cons_succ, List.set, List.map_cons, List.map_nil, List.length_cons, List.length_nil, List.all_cons, List.all_nil, List.drop_zero, List.take_succ_cons, List.take_zero, List.cons_append, List.nil_append, List.append_nil, List.getElem?_cons_zero, List.getElem?_cons_succ, List.replicate, true_and, and_true, Bool.and_true, Bool.true_and, Bool.and_self, Bool.or_false, ↓reduceIte, decide_true, decide_false, reduceCtorEq, Nat.reduceAdd, Nat.reduceMul, Nat.reduceLeDiff, Nat.reduceEqDiff, Nat.reduceLT, Nat.zero_le, Nat.le_refl, Nat.zero_add, eg, c1, usrs_len]
        refine ⟨⟨by simp only [maxLen]; omega, by omega⟩, ?_⟩
        try simp (maxSteps := 1000000) only [ew]
        simp only [loopX_normal, St.trunc, St.keep, truncVs, truncV, AB.trunc, keepV, List.drop_zero, List.elem_cons, List.elem_nil, List.take_succ_cons, List.take_zero, List.map_cons, List.map_nil, List.getElem?_cons_zero, List.getElem?_cons_succ, List.length_cons, List.length_nil, Nat.reduceAdd, Nat.reduceBEq, Nat.reduceLeDiff, Nat.le_refl, Nat.zero_add, Bool.false_eq_true, ↓reduceIte]
        exact ⟨i + 1, hlt, by omega, by rw [hnext, en, us1, List.length_append]; rfl⟩
      · have h3' : eqS x.1 u = true := by simpa [eqS, bne] using h3
        have en : becStep u ⟨l, p⟩ (O, true) x = (O, true) := by simp [becStep, h3']
        try simp (maxSteps := 1000000) only [go_nil, go_skip, go_region, go_blk, go_ops_nil, go_op, opK_none, contK_some, condK_f, callOf, fstep, fpre, fstep0, fbinA, fbin, fbin0, St.ev, St.put, List.getD_cons_zero, List.getD_cons_succ, List.set, true_and, Bool.true_and, ew]
        simp only [loopX_normal, St.trunc, St.keep, truncVs, truncV, AB.trunc, keepV, List.elem_cons, List.elem_nil, List.take_succ_cons, List.take_zero, List.map_cons, List.map_nil, Nat.reduceAdd, Nat.reduceBEq, Nat.reduceLeDiff, Nat.zero_add, Bool.false_eq_true, ↓reduceIte]
        exact ⟨i + 1, hlt, by omega, by rw [hnext, en]⟩
    | false =>
      try simp (maxSteps := 1000000) only [go_cond, go_ops_nil, go_op, go_guard, opK_none, contK_some, guardK_eq, guardV_tt, callOf, fstep, fpre, fstep0, fbinA, gbin, gbits, gnil, fbin, fbin0, fload, fcell, ffieldAddr, findexAddr, fpick, T, TI.isAgg, St.ev, St.put, AV.cells, AV.known, List.getD_cons_zero, List.getD_cons_succ, List.set, List.length_cons, List.length_nil, List.drop_zero, List.headD_cons, List.getElem?_cons_zero, List.getElem?_cons_succ, Option.bind_some, List.getElem?_toArray, true_and, and_true, Bool.and_true, Bool.true_and, Bool.not_false, Bool.false_eq_true, ↓reduceIte, reduceCtorEq, ne_eq, not_false_eq_true, Nat.reduceAdd, Nat.reduceLT, Nat.zero_add, cond_true, eg, c1, usrs_len]
      (first | refine guardV_split ?_ ?_ | refine condK_split ?_ ?_ | refine drawV_split ?_ ?_ | refine condY_split ?_ ?_ | refine guardY_split ?_ ?_) <;> intro h2
      · have h2' : ltS x.1 u = false := by
          have : (!ltS x.1 u) = true := h2
          simpa using this
        try simp (maxSteps := 1000000) only [go_region, go_seq, go_cond, go_ops_nil, go_op, opK_none, contK_some, condK_t, callOf, fstep, fpre, fstep0, fbinA, fbin, fbin0, fload, fcell, ffieldAddr, findexAddr, ffill, fieldPlaces, fieldsOk, fbuild, evParts, evOwners, fbuildSlice, felems, fappend, T, TI.isAgg, TI.zeroOk, TI.zav, setParts, partsOk, St.ev, St.put, St.shutAll, St.rehome, killV, killVs, AB.kill, splice, AV.cells, AV.known, AV.flat, AV.pure, pureAll, AV.owners, ownersAll, Value.cells, Value.oneCell', List.getD_cons_zero, List.getD_cons_succ, List.set, List.map_cons, List.map_nil, List.length_cons, List.length_nil, List.all_cons, List.all_nil, List.drop_succ_cons, List.drop_zero, List.take_succ_cons, List.take_zero, List.headD_cons, List.cons_append, List.nil_append, List.append_nil, List.getElem?_cons_zero, List.getElem?_cons_succ, List.replicate, Option.isSome_some, List.getElem?_toArray, true_and, and_true, Bool.and_true, Bool.true_and, Bool.and_self, Bool.or_false, Bool.false_eq_true, ↓reduceIte, decide_true, decide_false, reduceCtorEq, ne_eq, not_false_eq_true, Nat.reduceAdd, Nat.reduceMul, Nat.reduceLeDiff, Nat.reduceEqDiff, Nat.reduceLT, Nat.zero_le, Nat.le_refl, Nat.zero_add, eg, c1, usrs_len]
        refine ⟨⟨by simp only [maxLen]; omega, by omega⟩, ?_⟩
        skip
        (first | refine guardV_split ?_ ?_ | refine condK_split ?_ ?_ | refine drawV_split ?_ ?_ | refine condY_split ?_ ?_ | refine guardY_split ?_ ?_) <;> intro h3
        · have h3' : eqS x.1 u = false := by simpa [eqS, bne] using h3
          have en : becStep u ⟨l, p⟩ (O, false) x = (O ++ [(u, ⟨l, p⟩)] ++ [x], true) := by simp [becStep, h2', h3']
          try simp (maxSteps := 1000000) only [go_nil, go_region, go_blk, go_ops_nil, go_op, opK_none, contK_some, condK_t, callOf, fstep, fpre, fstep0, fbinA, fbin, fbin0, fload, fcell, findexAddr, evParts, evOwners, fbuildSlice, felems, fappend, T, TI.isAgg, TI.zeroOk, TI.zav, setParts, partsOk, St.ev, St.put, St.shutAll, St.rehome, killV, killVs, AB.kill, AV.cells, AV.known, AV.flat, AV.pure, pureAll, AV.owners, ownersAll, Value.oneCell', List.getD_cons_zero, List.getD_cons_succ, List.set, List.map_cons, List.map_nil, List.length_cons, List.length_nil, List.all_cons, List.all_nil, List.drop_zero, List.take_succ_cons, List.take_zero, List.cons_append, List.nil_append, List.append_nil, List.getElem?_cons_zero, List.getElem?_cons_succ, List.replicate, true_and, and_true, Bool.and_true, Bool.true_and, Bool.and_self, Bool.or_false, ↓reduceIte, decide_true, decide_false, reduceCtorEq, Nat.reduceAdd, Nat.reduceMul, Nat.reduceLeDiff, Nat.reduceEqDiff, Nat.reduceLT, Nat.zero_le, Nat.le_refl, Nat.zero_add, List.length_append, eg, c1, usrs_len]
          refine ⟨⟨by simp only [maxLen]; omega, by omega⟩, ?_⟩
          try simp (maxSteps := 1000000) only [ew]
          simp only [loopX_normal, St.trunc, St.keep, truncVs, truncV, AB.trunc, keepV, List.drop_zero, List.elem_cons, List.elem_nil, List.take_succ_cons, List.take_zero, List.map_cons, List.map_nil, List.getElem?_cons_zero, List.getElem?_cons_succ, List.length_cons, List.length_nil, Nat.reduceAdd, Nat.reduceBEq, Nat.reduceLeDiff, Nat.le_refl, Nat.zero_add, Bool.false_eq_true, ↓reduceIte]
          exact ⟨i + 1, hlt, by omega, by rw [hnext, en, us2, us1, List.length_append, List.length_append]; rfl⟩
        · have h3' : eqS x.1 u = true := by simpa [eqS, bne] using h3
          have en : becStep u ⟨l, p⟩ (O, false) x = (O ++ [(u, ⟨l, p⟩)], true) := by simp [becStep, h2', h3']
          try simp (maxSteps := 1000000) only [go_nil, go_skip, go_region, go_blk, go_ops_nil, go_op, opK_none, contK_some, condK_f, callOf, fstep, fpre, fstep0, fbinA, fbin, fbin0, St.ev, St.put, List.getD_cons_zero, List.getD_cons_succ, List.set, true_and, Bool.true_and, ew]
          simp only [loopX_normal, St.trunc, St.keep, truncVs, truncV, AB.trunc, keepV, List.drop_zero, List.elem_cons, List.elem_nil, List.take_succ_cons, List.take_zero, List.map_cons, List.map_nil, List.getElem?_cons_zero, List.getElem?_cons_succ, List.length_cons, List.length_nil, Nat.reduceAdd, Nat.reduceBEq, Nat.reduceLeDiff, Nat.le_refl, Nat.zero_add, Bool.false_eq_true, ↓reduceIte]
          exact ⟨i + 1, hlt, by omega, by rw [hnext, en, us2, List.length_append]; rfl⟩
      · have h2' : ltS x.1 u = true := by
          have : (!ltS x.1 u) = false := h2
          simpa using this
        try simp (maxSteps := 1000000) only [go_skip, go_region, go_seq, go_cond, go_ops_nil, go_op, opK_none, contK_some, condK_f, callOf, fstep, fpre, fstep0, fbinA, fbin, fbin0, fload, fcell, ffieldAddr, findexAddr, T, TI.isAgg, St.ev, St.put, AV.cells, AV.known, List.getD_cons_zero, List.getD_cons_succ, List.set, List.length_cons, List.length_nil, List.drop_zero, List.headD_cons, List.getElem?_cons_zero, List.getElem?_toArray, true_and, and_true, Bool.and_true, Bool.true_and, Bool.false_eq_true, ↓reduceIte, reduceCtorEq, ne_eq, not_false_eq_true, Nat.reduceAdd, Nat.reduceLT, Nat.zero_add, eg, c1, usrs_len]
        (first | refine guardV_split ?_ ?_ | refine condK_split ?_ ?_ | refine drawV_split ?_ ?_ | refine condY_split ?_ ?_ | refine guardY_split ?_ ?_) <;> intro h3
        · have h3' : eqS x.1 u = false := by simpa [eqS, bne] using h3
          have en : becStep u ⟨l, p⟩ (O, false) x = (O ++ [x], false) := by simp [becStep, h2', h3']
          try simp (maxSteps := 1000000) only [go_nil, go_region, go_blk, go_ops_nil, go_op, opK_none, contK_some, condK_t, callOf, fstep, fpre, fstep0, fbinA, fbin, fbin0, fload, fcell, findexAddr, evParts, evOwners, fbuildSlice, felems, fappend, T, TI.isAgg, TI.zeroOk, TI.zav, setParts, partsOk, St.ev, St.put, St.shutAll, St.rehome, killV, killVs, AB.kill, AV.cells, AV.known, AV.flat, AV.pure, pureAll, AV.owners, ownersAll, Value.oneCell', List.getD_cons_zero, List.getD_cons_succ, List.set, List.map_cons, List.map_nil, List.length_cons, List.length_nil, List.all_cons, List.all_nil, List.drop_zero, List.take_succ_cons, List.take_zero, List.cons_append, List.nil_append, List.append_nil, List.getElem?_cons_zero, List.getElem?_cons_succ, List.replicate, true_and, and_true, Bool.and_true, Bool.true_and, Bool.and_self, Bool.or_false, ↓reduceIte, decide_true, decide_false, reduceCtorEq, Nat.reduceAdd, Nat.reduceMul, Nat.reduceLeDiff, Nat.reduceEqDiff, Nat.reduceLT, Nat.zero_le, Nat.le_refl, Nat.zero_add, eg, c1, usrs_len]
          refine ⟨⟨by simp only [maxLen]; omega, by omega⟩, ?_⟩
          try simp (maxSteps := 1000000) only [ew]
          simp only [loopX_normal, St.trunc, St.keep, truncVs, truncV, AB.trunc, keepV, List.drop_zero, List.elem_cons, List.elem_nil, List.take_succ_cons, List.take_zero, List.map_cons, List.map_nil, List.getElem?_cons_zero, List.getElem?_cons_succ, List.length_cons, List.length_nil, Nat.reduceAdd, Nat.reduceBEq, Nat.reduceLeDiff, Nat.le_refl, Nat.zero_add, Bool.false_eq_true, ↓reduceIte]
          exact ⟨i + 1, hlt, by omega, by rw [hnext, en, us1, List.length_append]; rfl⟩
        · have h3' : eqS x.1 u = true := by simpa [eqS, bne] using h3
          have en : becStep u ⟨l, p⟩ (O, false) x = (O, false) := by simp [becStep, h2', h3']
          try simp (maxSteps := 1000000) only [go_nil, go_skip, go_region, go_blk, go_ops_nil, go_op, opK_none, contK_some, condK_f, callOf, fstep, fpre, fstep0, fbinA, fbin, fbin0, St.ev, St.put, List.getD_cons_zero, List.getD_cons_succ, List.set, true_and, Bool.true_and, ew]
          simp only [loopX_normal, St.trunc, St.keep, truncVs, truncV, AB.trunc, keepV, List.elem_cons, List.elem_nil, List.take_succ_cons, List.take_zero, List.map_cons, List.map_nil, Nat.reduceAdd, Nat.reduceBEq, Nat.reduceLeDiff, Nat.zero_add, Bool.false_eq_true, ↓reduceIte]
          exact ⟨i + 1, hlt, by omega, by rw [hnext, en]⟩
  · obtain rfl := at_end hi h
    rw [List.take_length] at hrl ⊢
    obtain ⟨⟨O, put⟩, hO⟩ : ∃ s, becRun u ⟨l, p⟩ b m = s := ⟨_, rfl⟩
    rw [hO] at hK hrl ⊢
    simp only at hrl hK
    have us2 : ∀ Q : Bk, usrs Q ++ [.agg [str u, .sl 4 (avs l), i64 p.st, i64 p.pr, i64 p.n]] = usrs (Q ++ [(u, ⟨l, p⟩)]) := fun Q => usrs_snoc Q (u, ⟨l, p⟩)
    cases put with
    | true =>
      try simp (maxSteps := 1000000) only [go_skip, go_region, go_seq, go_cond, go_ops_nil, go_op, opK_none, contK_some, condK_f, callOf, fstep, fpre, fstep0, fbinA, fbin, fbinS, eqVs, eqV, kOks, kOk, fload, fcell, ffieldAddr, T, TI.isAgg, St.ev, St.put, List.getD_cons_zero, List.getD_cons_succ, List.set, List.length_cons, List.length_nil, List.drop_succ_cons, List.drop_zero, List.take_succ_cons, List.take_zero, List.getElem?_cons_zero, List.getElem?_cons_succ, List.getElem?_toArray, true_and, and_true, Bool.and_true, Bool.true_and, Bool.and_self, Bool.not_true, ↓reduceIte, decide_true, reduceCtorEq, ne_eq, not_false_eq_true, Nat.reduceAdd, Nat.le_refl, Nat.zero_add, eqc28, pr_beq]
      (first | refine guardV_split ?_ ?_ | refine condK_split ?_ ?_ | refine drawV_split ?_ ?_ | refine condY_split ?_ ?_ | refine guardY_split ?_ ?_) <;> intro h4
      · have h4' : ¬ p = w.t := by simpa using h4
        try simp (maxSteps := 1000000) only [go_seq, go_draws, condK_t]
        refine draw_rule tyOk (by rfl) (by simp only [List.length_cons, List.length_nil, Nat.reduceAdd, Nat.zero_le]) (by kernel_rfl) rfl ?_
        try simp (maxSteps := 1000000) only [go_ret, callOf, fstep0, fload, fcell, ffieldAddr, ffill, fieldPlaces, fieldsOk, fbuild, evParts, T, TI.isAgg, TI.zeroOk, TI.zav, setParts, partsOk, St.ev, St.put, splice, AV.cells, AV.known, AV.flat, AV.pure, pureAll, Value.cells, Value.oneCell', List.getD_cons_zero, List.getD_cons_succ, List.set, List.map_cons, List.map_nil, List.length_cons, List.length_nil, List.all_cons, List.all_nil, List.drop_succ_cons, List.drop_zero, List.take_succ_cons, List.take_zero, List.cons_append, List.nil_append, List.append_nil, List.getElem?_cons_zero, List.getElem?_cons_succ, List.replicate, Option.isSome_some, List.getElem?_toArray, true_and, and_true, Bool.and_true, Bool.true_and, Bool.and_self, Bool.or_false, Bool.false_eq_true, ↓reduceIte, decide_true, decide_false, reduceCtorEq, ne_eq, not_false_eq_true, Nat.reduceAdd, Nat.reduceMul, Nat.reduceLeDiff, Nat.reduceEqDiff, Nat.reduceLT, Nat.le_refl, Nat.add_zero, Nat.zero_add, newCount, drawR_nil, drawR_op, drawP_none, drawQ_some, dstep, isFree, dbuildSlice, St.app, bump, isNew]
        refine ⟨by kernel_rfl, ?_⟩
        skip
        apply hK
        simp only [Try.results71, retK, ares, Bool.and_true, Bool.true_and, AV.ofResults, St.trunc, truncVs, truncV, List.getD_cons_zero, List.getD_cons_succ, List.take_zero, List.drop_zero, List.map_nil, List.getElem?_cons_zero, List.getElem?_cons_succ, Nat.reduceLeDiff, true_and, and_true, ↓reduceIte, List.cons.injEq, exists_eq_left']
        rw [sl_full (usrs_len O), if_neg h4']
        try rfl
      · have h4' : p = w.t := by simpa using h4
        try simp (maxSteps := 1000000) only [go_skip, go_region, go_seq, go_ret, go_ops_nil, go_op, opK_none, contK_some, condK_f, callOf, fstep, fpre, fstep0, St.ev, St.put, List.getD_cons_zero, List.getD_cons_succ, List.set, true_and, Bool.true_and]
        apply hK
        simp only [Try.results71, retK, ares, Bool.and_true, Bool.true_and, AV.ofResults, St.trunc, truncVs, truncV, List.getD_cons_zero, List.getD_cons_succ, List.take_zero, List.drop_zero, List.map_nil, List.getElem?_cons_zero, List.getElem?_cons_succ, Nat.reduceLeDiff, true_and, and_true, ↓reduceIte, List.cons.injEq, exists_eq_left']
        rw [sl_full (usrs_len O), if_pos h4']
        try rfl
    | false =>
      try simp (maxSteps := 1000000) only [go_region, go_seq, go_cond, go_ops_nil, go_op, opK_none, contK_some, condK_t, callOf, fstep, fpre, fstep0, fbinA, fbin, fbinS, eqVs, eqV, kOks, kOk, fload, fcell, ffieldAddr, ffill, fieldPlaces, fieldsOk, fbuild, evParts, evOwners, fbuildSlice, felems, fappend, T, TI.isAgg, TI.zeroOk, TI.zav, setParts, partsOk, St.ev, St.put, St.shutAll, St.rehome, killV, killVs, AB.kill, splice, AV.cells, AV.known, AV.flat, AV.pure, pureAll, AV.owners, ownersAll, Value.cells, Value.oneCell', List.getD_cons_zero, List.getD_cons_succ, List.set, List.map_cons, List.map_nil, List.length_cons, List.length_nil, List.all_cons, List.all_nil, List.drop_succ_cons, List.drop_zero, List.take_succ_cons, List.take_zero, List.cons_append, List.nil_append, List.append_nil, List.getElem?_cons_zero, List.getElem?_cons_succ, List.replicate, Option.isSome_some, List.getElem?_toArray, true_and, and_true, Bool.and_true, Bool.true_and, Bool.and_self, Bool.or_false, Bool.not_false, ↓reduceIte, decide_true, decide_false, reduceCtorEq, ne_eq, not_false_eq_true, Nat.reduceAdd, Nat.reduceMul, Nat.reduceLeDiff, Nat.reduceEqDiff, Nat.reduceLT, Nat.zero_le, Nat.le_refl, Nat.zero_add, eqc28, usrs_len]
      refine ⟨⟨by simp only [maxLen]; omega, by omega⟩, ?_⟩
      rw [us2]
      try simp (maxSteps := 1000000) only [pr_beq]
      (first | refine guardV_split ?_ ?_ | refine condK_split ?_ ?_ | refine drawV_split ?_ ?_ | refine condY_split ?_ ?_ | refine guardY_split ?_ ?_) <;> intro h4
      · have h4' : ¬ p = w.t := by simpa using h4
        try simp (maxSteps := 1000000) only [go_seq, go_draws, condK_t]
        refine draw_rule tyOk (by rfl) (by simp only [List.length_cons, List.length_nil, Nat.reduceAdd, Nat.zero_le]) (by kernel_rfl) rfl ?_
        try simp (maxSteps := 1000000) only [go_ret, callOf, fstep0, fload, fcell, ffieldAddr, ffill, fieldPlaces, fieldsOk, fbuild, evParts, T, TI.isAgg, TI.zeroOk, TI.zav, setParts, partsOk, St.ev, St.put, splice, AV.cells, AV.known, AV.flat, AV.pure, pureAll, Value.cells, Value.oneCell', List.getD_cons_zero, List.getD_cons_succ, List.set, List.map_cons, List.map_nil, List.length_cons, List.length_nil, List.all_cons, List.all_nil, List.drop_succ_cons, List.drop_zero, List.take_succ_cons, List.take_zero, List.cons_append, List.nil_append, List.append_nil, List.getElem?_cons_zero, List.getElem?_cons_succ, List.replicate, Option.isSome_some, List.getElem?_toArray, true_and, and_true, Bool.and_true, Bool.true_and, Bool.and_self, Bool.or_false, Bool.false_eq_true, ↓reduceIte, decide_true, decide_false, reduceCtorEq, ne_eq, not_false_eq_true, Nat.reduceAdd, Nat.reduceMul, Nat.reduceLeDiff, Nat.reduceEqDiff, Nat.reduceLT, Nat.le_refl, Nat.add_zero, Nat.zero_add, newCount, drawR_nil, drawR_op, drawP_none, drawQ_some, dstep, isFree, dbuildSlice, St.app, bump, isNew]
        refine ⟨by kernel_rfl, ?_⟩
        skip
        apply hK
        simp only [Try.results71, retK, ares, Bool.and_true, Bool.true_and, AV.ofResults, St.trunc, truncVs, truncV, List.getD_cons_zero, List.getD_cons_succ, List.take_zero, List.drop_zero, List.map_nil, List.getElem?_cons_zero, List.getElem?_cons_succ, Nat.reduceLeDiff, true_and, and_true, ↓reduceIte, Bool.false_eq_true, List.cons.injEq, exists_eq_left']
        rw [sl_full (by rw [usrs_len]; simp), if_neg h4']
        try rfl
      · have h4' : p = w.t := by simpa using h4
        try simp (maxSteps := 1000000) only [go_skip, go_region, go_seq, go_ret, go_ops_nil, go_op, opK_none, contK_some, condK_f, callOf, fstep, fpre, fstep0, St.ev, St.put, List.getD_cons_zero, List.getD_cons_succ, List.set, true_and, Bool.true_and]
        apply hK
        simp only [Try.results71, retK, ares, Bool.and_true, Bool.true_and, AV.ofResults, St.trunc, truncVs, truncV, List.getD_cons_zero, List.getD_cons_succ, List.take_zero, List.drop_zero, List.map_nil, List.getElem?_cons_zero, List.getElem?_cons_succ, Nat.reduceLeDiff, true_and, and_true, ↓reduceIte, Bool.false_eq_true, List.cons.injEq, exists_eq_left']
        rw [sl_full (by rw [usrs_len]; simp), if_pos h4']
        try rfl
end Go.Proofs.Ytljgfapbbhbbpaa
namespace Go.Proofs.Ytljgfapbbhbbpaa
open Go Go.Proofs.Ytljgfapbbhbbpaa.Sym
set_option maxRecDepth 100000
set_option linter.unusedSimpArgs false
set_option linter.unusedVariables false

theorem bec_call (m : Bk) (u : ByteArray) (l : List Ses) (now : Int) (hr : rises_se m) (hm : m.length ≤ 10000) (hl : l.length ≤ 200) :
    PCall P 71 [.sl 5 (usrs m), str u, .sl 4 (avs l), u64 now] (fun x => x = .tup [.sl 5 (usrs (settleB m u l now)), .sl 7 (chgs (settleC m u l now))]) := by
  have h := ref08_become m u l now hm hl
  rw [becF_eq hr, find_was hr] at h
  refine h.weaken (.inr ⟨_, rfl, _, _, rfl, weak_refl _, _, _, rfl, ?_, rfl⟩)
  unfold settleC
  split
  · exact weak_nil 7
  · exact weak_refl _
theorem find_open (m : Bk) (u : ByteArray) (hr : rises_se m) (hm : m.length ≤ 10000) : PCall P 73 [.sl 5 (usrs m), str u]
    (fun x => x = .agg [str u, .sl 4 (avs (wasOf m u).l), i64 (wasOf m u).t.st, i64 (wasOf m u).t.pr, i64 (wasOf m u).t.n]) := by
  have h := find_call m u hm
  rw [find_was hr] at h
  exact h

theorem beat_next {l : List Ses} {id u : Int} {i : Nat} (h : i < l.length) : (l.take (i + 1)).map (bmpS id u) = (l.take i).map (bmpS id u) ++ [bmpS id u l[i]] := by
  rw [take_one h, List.map_append]; rfl
theorem bump_un {s : Ses} {id u : Int} (h : s.id = id) (h2 : s.un < u) : bmpS id u s = { s with un := u } := by
  unfold bmpS; rw [if_pos (by simp [h]; exact h2)]
theorem bump_no {s : Ses} {id u : Int} (h : (s.id == id && decide (s.un < u)) = false) : bmpS id u s = s := by
  unfold bmpS; rw [if_neg (by rw [h]; decide)]
theorem ref06_Beat (l : List Ses) (id u : Int) (hlen : l.length ≤ 10000) : PCall P 76 [.sl 4 (avs l), i64 id, u64 u] (fun x => x = .tup [.sl 4 (avs (beatF l id u).1), i64 (beatF l id u).2]) := by
  refine pcall_go tyOk Try.func76 rfl rfl ?_
  intro K hK
  simp only [Try.ntmps76, List.length_cons, List.length_nil, Nat.reduceAdd, Nat.reduceSub, List.replicate, List.cons_append, List.nil_append]
  try simp (maxSteps := 1000000) only [go_region, go_seq, go_ops_nil, go_op, opK_none, opK_some, contK_some, callOf, callK_eq, callJ_nil, callD_fn, fstep, fpre, fstep0, evs, St.ev, St.put, AV.owners, ownersAll, List.getD_cons_zero, List.getD_cons_succ, List.set, List.append_nil, true_and, Bool.true_and]
  (refine callG_use (ref06_Has l id hlen) rfl ?_; rintro _ rfl)
  unfold beatF at hK
  try simp (maxSteps := 1000000) only [go_cond, go_ops_nil, go_op, opK_none, contK_some, callOf, fstep, fpre, fstep0, funary, St.ev, St.put, List.getD_cons_zero, List.getD_cons_succ, List.set, true_and, Bool.true_and]
  cases h : has l id
  · rw [h, if_neg (by decide)] at hK
    try simp (maxSteps := 1000000) only [go_region, go_seq, go_ret, go_ops_nil, go_op, opK_none, contK_some, condK_t, callOf, fstep, fpre, fstep0, St.ev, St.put, List.getD_cons_zero, List.getD_cons_succ, List.set, true_and, Bool.true_and, Bool.not_false]
    apply hK
    simp only [Try.results76, retK, ares, List.take_nil, Bool.and_true, Bool.true_and, AV.ofResults, St.trunc, truncVs, truncV, List.getD_cons_zero, List.getD_cons_succ, List.map_nil, true_and, and_true, List.cons.injEq, exists_eq_left']
  · rw [h, if_pos rfl] at hK
    try simp (maxSteps := 1000000) only [go_skip, go_region, go_seq, go_block, go_loop, go_ops_nil, go_op, opK_none, contK_some, condK_f, callOf, fstep, fpre, fstep0, St.ev, St.put, List.set, true_and, Bool.true_and, Bool.not_true]
    refine loopK_turn (Turns.adopt (i := 8) 91 4 rfl) ?_
    refine loopK_rule tyOk (α := Nat) 1 [0, 1, 2, 8, 9] (fun i => i ≤ l.length)
      (fun i => ⟨[.sl 4 (avs l), i64 id, u64 u, .any, .any, .any, .any, .any, .own 0 4 0 ((l.take i).map (bmpS id u)).length, i64 i, .any, .any, .any, .any, .any, .any, .any, .any, .any, .any, .any, .any, .any, .any, .any, .any, .any, .any, .any, .any, .any, .any, .any, .any, .any, .any, .any, .any, .any, .any, .any, .any, .any], [.row 91 4 (avs ((l.take i).map (bmpS id u)))]⟩)
      (fun i => l.length - i) 0 (Nat.zero_le _) (Nat.zero_le _) rfl ?_
    intro i hi
    have hf : ((l.take i).map (bmpS id u)).length ≤ 10000 := by simp; omega
    try simp (maxSteps := 1000000) only [go_region, go_seq, go_cond, go_ops_nil, go_op, opK_none, contK_some, callOf, fstep, fpre, fstep0, fbinA, fbin, fbin0, flen, T, St.ev, St.put, List.getD_cons_zero, List.getD_cons_succ, List.set, true_and, Bool.true_and, avs_len]
    (first | refine guardV_split ?_ ?_ | refine condK_split ?_ ?_ | refine drawV_split ?_ ?_ | refine condY_split ?_ ?_ | refine guardY_split ?_ ?_) <;> intro h <;> try simp (maxSteps := 1000000) only [go_skip, go_region, go_seq, go_block, go_exit, go_ret, exitK_code, exitK_blk, exitK_nil, go_ops_nil, go_op, opK_none, contK_some, condK_t, condK_f, callOf, fstep, fpre, fpost, fstep0, fbinA, gbin, gbits, gnil, isSliceTy, fbin, fbin0, fbinS, fload, fcell, fstore, ffieldAddr, findexAddr, isBoolTy, T, TI.isAgg, St.ev, St.put, splice, AV.cells, AV.known, Value.cells, List.getD_cons_zero, List.getD_cons_succ, List.set, List.map_cons, List.map_nil, List.length_cons, List.length_nil, List.drop_zero, List.take_zero, List.cons_append, List.nil_append, List.getElem?_cons_zero, List.getElem?_cons_succ, List.getElem?_toArray, true_and, and_true, Bool.and_true, Bool.true_and, Bool.false_eq_true, ↓reduceIte, reduceCtorEq, ne_eq, not_false_eq_true, Nat.reduceAdd, Nat.le_refl, Nat.add_zero, Nat.zero_add, loopX_exit, List.length_append]
    · obtain ⟨hlt, eg, ew, c1⟩ := at_idx (by omega) h
      have hb := beat_next (id := id) (u := u) hlt
      generalize (l.take i).map (bmpS id u) = O at hf hb
      try simp (maxSteps := 1000000) only [go_op, go_guard, opK_none, contK_some, guardK_eq, callOf, fstep, fpre, fstep0, St.ev, St.put, AV.flat, Value.oneCell', List.getD_cons_zero, List.getD_cons_succ, List.set, List.length_cons, List.length_nil, List.all_cons, List.all_nil, List.drop_succ_cons, List.drop_zero, List.take_succ_cons, List.take_zero, List.headD_cons, List.append_nil, List.getElem?_cons_zero, List.getElem?_cons_succ, Option.bind_some, List.getElem?_toArray, true_and, and_true, Bool.and_true, Bool.true_and, Bool.and_self, Nat.reduceAdd, Nat.reduceLT, Nat.le_refl, Nat.add_zero, Nat.zero_add, eg, c1, avs_len]
      (first | refine guardV_split ?_ ?_ | refine condK_split ?_ ?_ | refine drawV_split ?_ ?_ | refine condY_split ?_ ?_ | refine guardY_split ?_ ?_) <;> intro h2
      · have h2' : l[i].id = id := by simpa using h2
        try simp (maxSteps := 1000000) only [go_cond, go_ops_nil, go_op, go_guard, opK_none, contK_some, guardK_eq, guardV_tt, callOf, fstep, fpre, fstep0, fbinA, fbin, fbin0, fload, fcell, ffieldAddr, fpick, T, TI.isAgg, St.ev, St.put, List.getD_cons_zero, List.getD_cons_succ, List.set, List.length_cons, List.length_nil, List.drop_succ_cons, List.drop_zero, List.headD_cons, List.getElem?_cons_zero, List.getElem?_cons_succ, Option.bind_some, List.getElem?_toArray, true_and, Bool.true_and, Bool.false_eq_true, ↓reduceIte, reduceCtorEq, ne_eq, not_false_eq_true, Nat.reduceLT, Nat.zero_add, cond_true]
        (first | refine guardV_split ?_ ?_ | refine condK_split ?_ ?_ | refine drawV_split ?_ ?_ | refine condY_split ?_ ?_ | refine guardY_split ?_ ?_) <;> intro h3
        · have e1 := bump_un h2' (by simpa using h3)
          try simp (maxSteps := 1000000) only [go_nil, go_region, go_blk, go_ops_nil, go_op, opK_none, contK_some, condK_t, callOf, fstep, fpre, fstep0, fbinA, fbin, fbin0, fload, fcell, fstore, ffieldAddr, evParts, evOwners, fbuildSlice, felems, fappend, T, TI.isAgg, TI.zeroOk, TI.zav, setParts, partsOk, St.ev, St.put, St.shutAll, St.rehome, killV, killVs, AB.kill, splice, AV.cells, AV.known, AV.flat, AV.pure, pureAll, AV.owners, ownersAll, Value.cells, Value.oneCell', List.getD_cons_zero, List.getD_cons_succ, List.set, List.map_cons, List.map_nil, List.length_cons, List.length_nil, List.all_cons, List.all_nil, List.drop_succ_cons, List.drop_zero, List.take_succ_cons, List.take_zero, List.cons_append, List.nil_append, List.append_nil, List.getElem?_cons_zero, List.getElem?_cons_succ, List.replicate, List.getElem?_toArray, true_and, and_true, Bool.and_true, Bool.true_and, Bool.and_self, Bool.or_false, ↓reduceIte, decide_true, decide_false, reduceCtorEq, ne_eq, not_false_eq_true, Nat.reduceAdd, Nat.reduceMul, Nat.reduceLeDiff, Nat.reduceEqDiff, Nat.reduceLT, Nat.zero_le, Nat.le_refl, Nat.zero_add, avs_len]
          refine ⟨⟨by first | omega | (simp only [maxLen]; omega), by first | omega | (simp only [maxLen]; omega)⟩, ?_⟩
          try simp (maxSteps := 1000000) only [ew]
          simp only [loopX_normal, St.trunc, St.keep, truncVs, truncV, AB.trunc, keepV, pureAll, AV.pure, Bool.and_self, List.drop_zero, List.drop_succ_cons, List.elem_cons, List.elem_nil, List.take_succ_cons, List.take_zero, List.map_cons, List.map_nil, List.getElem?_cons_zero, List.getElem?_cons_succ, List.length_cons, List.length_nil, Nat.reduceAdd, Nat.reduceBEq, Nat.reduceLeDiff, Nat.le_refl, Nat.zero_add, Bool.false_eq_true, ↓reduceIte]
          exact ⟨i + 1, hlt, by omega, by rw [hb, e1, ← avs_snoc, List.length_append]; rfl⟩
        · have e1 : bmpS id u l[i] = l[i] := bump_no (by have h3' : decide (l[i].un < u) = false := h3
                                                         rw [h3', Bool.and_false])
          try simp (maxSteps := 1000000) only [go_nil, go_skip, go_region, go_blk, go_ops_nil, go_op, opK_none, contK_some, condK_f, callOf, fstep, fpre, fstep0, fbinA, fbin, fbin0, fload, fcell, evParts, evOwners, fbuildSlice, felems, fappend, T, TI.isAgg, TI.zeroOk, TI.zav, setParts, partsOk, St.ev, St.put, St.shutAll, St.rehome, killV, killVs, AB.kill, AV.cells, AV.known, AV.flat, AV.pure, pureAll, AV.owners, ownersAll, Value.oneCell', List.getD_cons_zero, List.getD_cons_succ, List.set, List.map_cons, List.map_nil, List.length_cons, List.length_nil, List.all_cons, List.all_nil, List.drop_zero, List.take_succ_cons, List.take_zero, List.cons_append, List.nil_append, List.append_nil, List.getElem?_cons_zero, List.getElem?_cons_succ, List.replicate, true_and, and_true, Bool.and_true, Bool.true_and, Bool.and_self, Bool.or_false, ↓reduceIte, decide_true, decide_false, reduceCtorEq, Nat.reduceAdd, Nat.reduceMul, Nat.reduceLeDiff, Nat.reduceEqDiff, Nat.reduceLT, Nat.zero_le, Nat.le_refl, Nat.zero_add, avs_len]
          refine ⟨⟨by first | omega | (simp only [maxLen]; omega), by first | omega | (simp only [maxLen]; omega)⟩, ?_⟩
          try simp (maxSteps := 1000000) only [ew]
          simp only [loopX_normal, St.trunc, St.keep, truncVs, truncV, AB.trunc, keepV, pureAll, AV.pure, Bool.and_self, List.drop_zero, List.drop_succ_cons, List.elem_cons, List.elem_nil, List.take_succ_cons, List.take_zero, List.map_cons, List.map_nil, List.getElem?_cons_zero, List.getElem?_cons_succ, List.length_cons, List.length_nil, Nat.reduceAdd, Nat.reduceBEq, Nat.reduceLeDiff, Nat.le_refl, Nat.zero_add, Bool.false_eq_true, ↓reduceIte]
          exact ⟨i + 1, hlt, by omega, by rw [hb, e1, ← avs_snoc, List.length_append]; rfl⟩
      · have e1 : bmpS id u l[i] = l[i] := bump_no (by have h2' : (l[i].id == id) = false := h2
                                                       rw [h2', Bool.false_and])
        try simp (maxSteps := 1000000) only [go_nil, go_skip, go_region, go_cond, go_blk, go_ops_nil, go_op, go_guard, opK_none, contK_some, condK_f, guardK_eq, guardV_ft, undef, callOf, fstep, fpre, fstep0, fbinA, fbin, fbin0, fload, fcell, evParts, evOwners, fbuildSlice, felems, fappend, fpick, T, TI.isAgg, TI.zeroOk, TI.zav, setParts, partsOk, St.ev, St.put, St.shutAll, St.rehome, killV, killVs, AB.kill, AV.cells, AV.known, AV.flat, AV.pure, pureAll, AV.owners, ownersAll, Value.oneCell', List.getD_cons_zero, List.getD_cons_succ, List.set, List.map_cons, List.map_nil, List.length_cons, List.length_nil, List.all_cons, List.all_nil, List.drop_zero, List.take_succ_cons, List.take_zero, List.cons_append, List.nil_append, List.append_nil, List.getElem?_cons_zero, List.getElem?_cons_succ, List.replicate, Option.bind_some, List.getElem?_toArray, true_and, and_true, Bool.and_true, Bool.true_and, Bool.and_self, Bool.or_false, Bool.false_eq_true, ↓reduceIte, decide_true, decide_false, reduceCtorEq, Nat.reduceAdd, Nat.reduceMul, Nat.reduceLeDiff, Nat.reduceEqDiff, Nat.reduceLT, Nat.zero_le, Nat.le_refl, Nat.zero_add, avs_len]
        refine ⟨⟨by first | omega | (simp only [maxLen]; omega), by first | omega | (simp only [maxLen]; omega)⟩, ?_⟩
        try simp (maxSteps := 1000000) only [ew]
        simp only [loopX_normal, St.trunc, St.keep, truncVs, truncV, AB.trunc, keepV, pureAll, AV.pure, Bool.and_self, List.drop_zero, List.elem_cons, List.elem_nil, List.take_succ_cons, List.take_zero, List.map_cons, List.map_nil, List.getElem?_cons_zero, List.getElem?_cons_succ, List.length_cons, List.length_nil, Nat.reduceAdd, Nat.reduceBEq, Nat.reduceLeDiff, Nat.le_refl, Nat.zero_add, Bool.false_eq_true, ↓reduceIte]
        exact ⟨i + 1, hlt, by omega, by rw [hb, e1, ← avs_snoc, List.length_append]; rfl⟩
    · obtain rfl := at_end hi h
      apply hK
      simp only [Try.results76, retK, ares, Bool.and_true, Bool.true_and, AV.ofResults, St.trunc, truncVs, truncV, List.getD_cons_zero, List.getD_cons_succ, List.take_zero, List.drop_zero, List.map_nil, List.getElem?_cons_zero, Nat.le_refl, true_and, and_true, ↓reduceIte, List.cons.injEq, exists_eq_left']
      rw [List.take_length, sl_full (by rw [avs_len])]

theorem ref08_Write (n : Nat) (m : Bk) (o : Opb) (now most : Int) (h : bookOk n m) (hn : n ≤ 150) :
    PCall P 46 [.sl 5 (usrs m), o.av, u64 now, i64 most] (fun x => x = .tup [.sl 5 (usrs (writeB m o now most)), .sl 7 (chgs (writeC m o now most)), i64 (writeL m o now most).2]) := by
  refine pcall_go tyOk Try.func46 rfl rfl ?_
  intro K hK
  simp only [Try.ntmps46, List.length_cons, List.length_nil, Nat.reduceAdd, Nat.reduceSub, List.replicate, List.cons_append, List.nil_append]
  obtain ⟨hw1, hw2⟩ := was_ok h o.u
  have hlv := lives_up hw1 now
  have hll : (lives now (wasOf m o.u).l).length ≤ (wasOf m o.u).l.length := List.length_filter_le _ _
  have hok := writeL_ok h o now most
  have hml := h.2.1
  try simp (maxSteps := 1000000) only [go_region, go_seq, go_ops_nil, go_op, opK_none, opK_some, contK_some, callOf, callK_eq, callJ_nil, callD_fn, fstep, fpre, fstep0, fload, fcell, ffieldAddr, evs, T, TI.isAgg, St.ev, St.put, AV.cells, AV.known, AV.owners, ownersAll, List.getD_cons_zero, List.getD_cons_succ, List.set, List.length_cons, List.length_nil, List.drop_succ_cons, List.drop_zero, List.headD_cons, List.nil_append, List.append_nil, List.getElem?_cons_zero, List.getElem?_cons_succ, List.getElem?_toArray, true_and, Bool.true_and, Bool.false_eq_true, ↓reduceIte, reduceCtorEq, ne_eq, not_false_eq_true, Nat.reduceAdd, Nat.reduceLT, Nat.zero_add, Opb.av]
  (refine callG_use (find_open m o.u h.1 (by omega)) rfl ?_; rintro _ rfl)
  try simp (maxSteps := 1000000) only [go_op, opK_none, opK_some, contK_some, callOf, callK_eq, callJ_nil, callD_fn, fstep, fpre, fstep0, ffield, fpart, evs, T, TI.isAgg, St.ev, St.put, AV.owners, ownersAll, List.getD_cons_zero, List.getD_cons_succ, List.set, List.length_cons, List.length_nil, List.drop_succ_cons, List.drop_zero, List.headD_cons, List.append_nil, List.getElem?_cons_zero, List.getElem?_cons_succ, List.getElem?_toArray, true_and, Bool.true_and, Bool.false_eq_true, ↓reduceIte, Nat.reduceAdd, Nat.reduceLT, Nat.zero_add]
  (refine callG_use (ref06_Purge (wasOf m o.u).l now (by omega)) rfl ?_; rintro _ rfl)
  try simp (maxSteps := 1000000) only [go_region, go_seq, go_ops_nil, go_op, opK_none, opK_some, contK_some, callOf, callK_eq, callJ_nil, callD_fn, fstep, fpre, fstep0, fload, fcell, ffieldAddr, evs, T, TI.isAgg, St.ev, St.put, AV.owners, ownersAll, List.getD_cons_zero, List.getD_cons_succ, List.set, List.length_cons, List.length_nil, List.drop_succ_cons, List.drop_zero, List.headD_cons, List.append_nil, List.getElem?_cons_zero, List.getElem?_cons_succ, List.getElem?_toArray, true_and, Bool.true_and, Bool.false_eq_true, ↓reduceIte, reduceCtorEq, ne_eq, not_false_eq_true, Nat.reduceAdd, Nat.reduceLT, Nat.zero_add]
  (refine callG_use (ref01_Add now o.ttl) rfl ?_; rintro _ rfl)
  try simp (maxSteps := 1000000) only [go_region, go_seq, go_cond, go_block, go_ops_nil, go_op, opK_none, contK_some, callOf, fstep, fpre, fstep0, fbinA, fbin, fbin0, fload, fcell, ffieldAddr, T, TI.isAgg, St.ev, St.put, List.getD_cons_zero, List.getD_cons_succ, List.set, List.length_cons, List.length_nil, List.drop_zero, List.headD_cons, List.getElem?_cons_zero, List.getElem?_toArray, true_and, Bool.true_and, Bool.false_eq_true, ↓reduceIte, reduceCtorEq, ne_eq, not_false_eq_true, Nat.reduceAdd, Nat.reduceLT, Nat.add_zero, Nat.zero_add]
  (first | refine guardV_split ?_ ?_ | refine condK_split ?_ ?_ | refine drawV_split ?_ ?_ | refine condY_split ?_ ?_ | refine guardY_split ?_ ?_) <;> intro h1
  · have k1 : o.kind = 1 := by simpa using h1
    obtain ⟨⟨L, e⟩, hL⟩ : ∃ r, writeL m o now most = r := ⟨_, rfl⟩
    have hS := ref06_Set (lives now (wasOf m o.u).l) ⟨o.id, o.st, o.pr, addW now o.ttl⟩ most (by omega)
    have e1 : setF (lives now (wasOf m o.u).l) ⟨o.id, o.st, o.pr, addW now o.ttl⟩ most = (L, e) := by rw [← hL, writeL]; simp only [k1, if_true]
    rw [e1] at hS
    rw [hL] at hok hK
    simp only at hok
    try simp (maxSteps := 1000000) only [go_region, go_op, opK_none, opK_some, contK_some, condK_t, callOf, callK_eq, callJ_nil, callD_fn, fstep, fpre, fstep0, fload, fcell, ffieldAddr, ffill, fieldPlaces, fieldsOk, fbuild, evParts, evs, T, TI.isAgg, St.ev, St.put, splice, AV.cells, AV.known, AV.owners, ownersAll, Value.cells, List.getD_cons_zero, List.getD_cons_succ, List.set, List.map_cons, List.map_nil, List.length_cons, List.length_nil, List.drop_succ_cons, List.drop_zero, List.take_succ_cons, List.take_zero, List.headD_cons, List.cons_append, List.nil_append, List.append_nil, List.getElem?_cons_zero, List.getElem?_cons_succ, Option.isSome_some, List.getElem?_toArray, true_and, and_true, Bool.and_true, Bool.true_and, Bool.and_self, Bool.false_eq_true, ↓reduceIte, reduceCtorEq, ne_eq, not_false_eq_true, Nat.reduceAdd, Nat.reduceLeDiff, Nat.reduceLT, Nat.le_refl, Nat.zero_add]
    (refine callG_use hS rfl ?_; rintro _ rfl)
    try simp (maxSteps := 1000000) only [go_region, go_seq, go_blk, go_ops_nil, go_op, opK_none, opK_some, contK_some, callOf, callK_eq, callJ_nil, callD_fn, fstep, fpre, fstep0, fload, fcell, ffieldAddr, evs, T, TI.isAgg, St.ev, St.put, AV.owners, ownersAll, List.getD_cons_zero, List.getD_cons_succ, List.set, List.length_cons, List.length_nil, List.drop_succ_cons, List.drop_zero, List.headD_cons, List.append_nil, List.getElem?_cons_zero, List.getElem?_cons_succ, List.getElem?_toArray, true_and, Bool.true_and, Bool.false_eq_true, ↓reduceIte, reduceCtorEq, ne_eq, not_false_eq_true, Nat.reduceAdd, Nat.reduceLT, Nat.zero_add]
    (refine callG_use (bec_call m o.u L now h.1 (by omega) (by omega)) rfl ?_; rintro _ rfl)
    try simp (maxSteps := 1000000) only [go_region, go_seq, go_ret, go_ops_nil, go_op, opK_none, contK_some, callOf, fstep, fpre, fstep0, St.ev, St.put, List.getD_cons_zero, List.getD_cons_succ, List.set, List.length_cons, List.length_nil, true_and, Bool.true_and, Nat.reduceAdd, Nat.reduceLT, Nat.zero_add]
    apply hK
    simp only [Try.results46, retK, ares, Bool.and_true, Bool.true_and, AV.ofResults, St.trunc, truncVs, truncV, List.getD_cons_zero, List.getD_cons_succ, List.take_zero, List.map_nil, true_and, and_true, List.cons.injEq, exists_eq_left']
    rw [writeB, writeC, hL]
    try rfl
  · have k1 : ¬ o.kind = 1 := by simpa using h1
    try simp (maxSteps := 1000000) only [go_region, go_seq, go_cond, go_ops_nil, go_op, opK_none, contK_some, condK_f, callOf, fstep, fpre, fstep0, fbinA, fbin, fbin0, St.ev, St.put, List.getD_cons_zero, List.getD_cons_succ, List.set, true_and, Bool.true_and]
    (first | refine guardV_split ?_ ?_ | refine condK_split ?_ ?_ | refine drawV_split ?_ ?_ | refine condY_split ?_ ?_ | refine guardY_split ?_ ?_) <;> intro h2
    · have k2 : o.kind = 2 := by simpa using h2
      obtain ⟨⟨L, e⟩, hL⟩ : ∃ r, writeL m o now most = r := ⟨_, rfl⟩
      have hS := ref06_Beat (lives now (wasOf m o.u).l) o.id (addW now o.ttl) (by omega)
      have e1 : beatF (lives now (wasOf m o.u).l) o.id (addW now o.ttl) = (L, e) := by rw [← hL, writeL]; simp only [if_neg k1, if_pos k2]
      rw [e1] at hS
      rw [hL] at hok hK
      simp only at hok
      try simp (maxSteps := 1000000) only [go_region, go_op, opK_none, opK_some, contK_some, condK_t, callOf, callK_eq, callJ_nil, callD_fn, fstep, fpre, fstep0, fload, fcell, ffieldAddr, evs, T, TI.isAgg, St.ev, St.put, AV.owners, ownersAll, List.getD_cons_zero, List.getD_cons_succ, List.set, List.length_cons, List.length_nil, List.drop_succ_cons, List.drop_zero, List.headD_cons, List.append_nil, List.getElem?_cons_zero, List.getElem?_cons_succ, List.getElem?_toArray, true_and, Bool.true_and, Bool.false_eq_true, ↓reduceIte, reduceCtorEq, ne_eq, not_false_eq_true, Nat.reduceAdd, Nat.reduceLT, Nat.zero_add]
      (refine callG_use hS rfl ?_; rintro _ rfl)
      try simp (maxSteps := 1000000) only [go_region, go_seq, go_blk, go_ops_nil, go_op, opK_none, opK_some, contK_some, callOf, callK_eq, callJ_nil, callD_fn, fstep, fpre, fstep0, fload, fcell, ffieldAddr, evs, T, TI.isAgg, St.ev, St.put, AV.owners, ownersAll, List.getD_cons_zero, List.getD_cons_succ, List.set, List.length_cons, List.length_nil, List.drop_succ_cons, List.drop_zero, List.headD_cons, List.append_nil, List.getElem?_cons_zero, List.getElem?_cons_succ, List.getElem?_toArray, true_and, Bool.true_and, Bool.false_eq_true, ↓reduceIte, reduceCtorEq, ne_eq, not_false_eq_true, Nat.reduceAdd, Nat.reduceLT, Nat.zero_add]
      (refine callG_use (bec_call m o.u L now h.1 (by omega) (by omega)) rfl ?_; rintro _ rfl)
      try simp (maxSteps := 1000000) only [go_region, go_seq, go_ret, go_ops_nil, go_op, opK_none, contK_some, callOf, fstep, fpre, fstep0, St.ev, St.put, List.getD_cons_zero, List.getD_cons_succ, List.set, List.length_cons, List.length_nil, true_and, Bool.true_and, Nat.reduceAdd, Nat.reduceLT, Nat.zero_add]
      apply hK
      simp only [Try.results46, retK, ares, Bool.and_true, Bool.true_and, AV.ofResults, St.trunc, truncVs, truncV, List.getD_cons_zero, List.getD_cons_succ, List.take_zero, List.map_nil, true_and, and_true, List.cons.injEq, exists_eq_left']
      rw [writeB, writeC, hL]
      try rfl
    · have k2 : ¬ o.kind = 2 := by simpa using h2
      try simp (maxSteps := 1000000) only [go_region, go_seq, go_cond, go_ops_nil, go_op, opK_none, contK_some, condK_f, callOf, fstep, fpre, fstep0, fbinA, fbin, fbin0, St.ev, St.put, List.getD_cons_zero, List.getD_cons_succ, List.set, true_and, Bool.true_and]
      (first | refine guardV_split ?_ ?_ | refine condK_split ?_ ?_ | refine drawV_split ?_ ?_ | refine condY_split ?_ ?_ | refine guardY_split ?_ ?_) <;> intro h3
      · have k3 : o.kind = 3 := by simpa using h3
        have hC := ref06_Clear (lives now (wasOf m o.u).l) o.id (by omega)
        obtain ⟨⟨L, e⟩, hL⟩ : ∃ r, writeL m o now most = r := ⟨_, rfl⟩
        have e1 : (clear (lives now (wasOf m o.u).l) o.id, if has (lives now (wasOf m o.u).l) o.id = true then (0 : Int) else 3) = (L, e) := by rw [← hL, writeL]; simp only [if_neg k1, if_neg k2, if_pos k3]
        have e2 := congrArg Prod.fst e1
        have e3 := congrArg Prod.snd e1
        simp only at e2 e3
        rw [e2] at hC
        rw [hL] at hok hK
        simp only at hok
        try simp (maxSteps := 1000000) only [go_region, go_seq, go_op, opK_none, opK_some, contK_some, condK_t, callOf, callK_eq, callJ_nil, callD_fn, fstep, fpre, fstep0, fload, fcell, ffieldAddr, evs, T, TI.isAgg, St.ev, St.put, AV.owners, ownersAll, List.getD_cons_zero, List.getD_cons_succ, List.set, List.length_cons, List.length_nil, List.drop_succ_cons, List.drop_zero, List.headD_cons, List.append_nil, List.getElem?_cons_zero, List.getElem?_cons_succ, List.getElem?_toArray, true_and, Bool.true_and, Bool.false_eq_true, ↓reduceIte, reduceCtorEq, ne_eq, not_false_eq_true, Nat.reduceAdd, Nat.reduceLT, Nat.zero_add]
        (refine callG_use (ref06_Has (lives now (wasOf m o.u).l) o.id (by omega)) rfl ?_; rintro _ rfl)
        cases hh : has (lives now (wasOf m o.u).l) o.id with
        | true =>
          rw [hh, if_pos rfl] at e3
          subst e3
          try simp (maxSteps := 1000000) only [go_skip, go_region, go_cond, go_ops_nil, go_op, opK_none, opK_some, contK_some, condK_f, callOf, callK_eq, callJ_nil, callD_fn, fstep, fpre, fstep0, fload, fcell, ffieldAddr, funary, evs, T, TI.isAgg, St.ev, St.put, AV.owners, ownersAll, List.getD_cons_zero, List.getD_cons_succ, List.set, List.length_cons, List.length_nil, List.drop_succ_cons, List.drop_zero, List.headD_cons, List.append_nil, List.getElem?_cons_zero, List.getElem?_cons_succ, List.getElem?_toArray, true_and, Bool.true_and, Bool.not_true, Bool.false_eq_true, ↓reduceIte, reduceCtorEq, ne_eq, not_false_eq_true, Nat.reduceAdd, Nat.reduceLT, Nat.zero_add]
          (refine callG_use hC rfl ?_; rintro _ rfl)
          try simp (maxSteps := 1000000) only [go_region, go_seq, go_blk, go_ops_nil, go_op, opK_none, opK_some, contK_some, callOf, callK_eq, callJ_nil, callD_fn, fstep, fpre, fstep0, fload, fcell, ffieldAddr, evs, T, TI.isAgg, St.ev, St.put, AV.owners, ownersAll, List.getD_cons_zero, List.getD_cons_succ, List.set, List.length_cons, List.length_nil, List.drop_succ_cons, List.drop_zero, List.headD_cons, List.append_nil, List.getElem?_cons_zero, List.getElem?_cons_succ, List.getElem?_toArray, true_and, Bool.true_and, Bool.false_eq_true, ↓reduceIte, reduceCtorEq, ne_eq, not_false_eq_true, Nat.reduceAdd, Nat.reduceLT, Nat.zero_add]
          (refine callG_use (bec_call m o.u L now h.1 (by omega) (by omega)) rfl ?_; rintro _ rfl)
          try simp (maxSteps := 1000000) only [go_region, go_seq, go_ret, go_ops_nil, go_op, opK_none, contK_some, callOf, fstep, fpre, fstep0, St.ev, St.put, List.getD_cons_zero, List.getD_cons_succ, List.set, List.length_cons, List.length_nil, true_and, Bool.true_and, Nat.reduceAdd, Nat.reduceLT, Nat.zero_add]
          apply hK
          simp only [Try.results46, retK, ares, Bool.and_true, Bool.true_and, AV.ofResults, St.trunc, truncVs, truncV, List.getD_cons_zero, List.getD_cons_succ, List.take_zero, List.map_nil, true_and, and_true, List.cons.injEq, exists_eq_left']
          rw [writeB, writeC, hL]
          try rfl
        | false =>
          rw [hh, if_neg (by decide)] at e3
          subst e3
          try simp (maxSteps := 1000000) only [go_region, go_cond, go_ops_nil, go_op, opK_none, opK_some, contK_some, condK_t, callOf, callK_eq, callJ_nil, callD_fn, fstep, fpre, fstep0, fload, fcell, ffieldAddr, funary, evs, T, TI.isAgg, St.ev, St.put, AV.owners, ownersAll, List.getD_cons_zero, List.getD_cons_succ, List.set, List.length_cons, List.length_nil, List.drop_succ_cons, List.drop_zero, List.headD_cons, List.append_nil, List.getElem?_cons_zero, List.getElem?_cons_succ, List.getElem?_toArray, true_and, Bool.true_and, Bool.not_false, Bool.false_eq_true, ↓reduceIte, reduceCtorEq, ne_eq, not_false_eq_true, Nat.reduceAdd, Nat.reduceLT, Nat.zero_add]
          (refine callG_use hC rfl ?_; rintro _ rfl)
          try simp (maxSteps := 1000000) only [go_region, go_seq, go_blk, go_ops_nil, go_op, opK_none, opK_some, contK_some, callOf, callK_eq, callJ_nil, callD_fn, fstep, fpre, fstep0, fload, fcell, ffieldAddr, evs, T, TI.isAgg, St.ev, St.put, AV.owners, ownersAll, List.getD_cons_zero, List.getD_cons_succ, List.set, List.length_cons, List.length_nil, List.drop_succ_cons, List.drop_zero, List.headD_cons, List.append_nil, List.getElem?_cons_zero, List.getElem?_cons_succ, List.getElem?_toArray, true_and, Bool.true_and, Bool.false_eq_true, ↓reduceIte, reduceCtorEq, ne_eq, not_false_eq_true, Nat.reduceAdd, Nat.reduceLT, Nat.zero_add]
          (refine callG_use (bec_call m o.u L now h.1 (by omega) (by omega)) rfl ?_; rintro _ rfl)
          try simp (maxSteps := 1000000) only [go_region, go_seq, go_ret, go_ops_nil, go_op, opK_none, contK_some, callOf, fstep, fpre, fstep0, St.ev, St.put, List.getD_cons_zero, List.getD_cons_succ, List.set, List.length_cons, List.length_nil, true_and, Bool.true_and, Nat.reduceAdd, Nat.reduceLT, Nat.zero_add]
          apply hK
          simp only [Try.results46, retK, ares, Bool.and_true, Bool.true_and, AV.ofResults, St.trunc, truncVs, truncV, List.getD_cons_zero, List.getD_cons_succ, List.take_zero, List.map_nil, true_and, and_true, List.cons.injEq, exists_eq_left']
          rw [writeB, writeC, hL]
          try rfl
      · have k3 : ¬ o.kind = 3 := by simpa using h3
        obtain ⟨⟨L, e⟩, hL⟩ : ∃ r, writeL m o now most = r := ⟨_, rfl⟩
        have e1 : (lives now (wasOf m o.u).l, (0 : Int)) = (L, e) := by rw [← hL, writeL]; simp only [if_neg k1, if_neg k2, if_neg k3]
        have e2 := congrArg Prod.fst e1
        have e3 := congrArg Prod.snd e1
        simp only at e2 e3
        rw [hL] at hok hK
        simp only at hok
        rw [e2]
        rw [← e3] at hK
        rw [← e3] at hL
        try simp (maxSteps := 1000000) only [go_skip, go_region, go_seq, go_blk, go_op, opK_none, opK_some, contK_some, condK_f, callOf, callK_eq, callJ_nil, callD_fn, fstep, fpre, fstep0, fload, fcell, ffieldAddr, evs, T, TI.isAgg, St.ev, St.put, AV.owners, ownersAll, List.getD_cons_zero, List.getD_cons_succ, List.set, List.length_cons, List.length_nil, List.drop_succ_cons, List.drop_zero, List.headD_cons, List.append_nil, List.getElem?_cons_zero, List.getElem?_cons_succ, List.getElem?_toArray, true_and, Bool.true_and, Bool.false_eq_true, ↓reduceIte, reduceCtorEq, ne_eq, not_false_eq_true, Nat.reduceAdd, Nat.reduceLT, Nat.zero_add]
        (refine callG_use (bec_call m o.u L now h.1 (by omega) (by omega)) rfl ?_; rintro _ rfl)
        try simp (maxSteps := 1000000) only [go_region, go_seq, go_ret, go_ops_nil, go_op, opK_none, contK_some, callOf, fstep, fpre, fstep0, St.ev, St.put, List.getD_cons_zero, List.getD_cons_succ, List.set, List.length_cons, List.length_nil, true_and, Bool.true_and, Nat.reduceAdd, Nat.reduceLT, Nat.zero_add]
        apply hK
        simp only [Try.results46, retK, ares, Bool.and_true, Bool.true_and, AV.ofResults, St.trunc, truncVs, truncV, List.getD_cons_zero, List.getD_cons_succ, List.take_zero, List.map_nil, true_and, and_true, List.cons.injEq, exists_eq_left']
        rw [writeB, writeC, hL]
        try rfl

theorem ref08_Sweep (n : Nat) (m : Bk) (now : Int) (h : bookOk n m) (hn : n ≤ 200) :
    PCall P 45 [.sl 5 (usrs m), u64 now] (fun x => x = .tup [.sl 5 (usrs (sweepF m now).1), .sl 7 (chgs (sweepF m now).2)]) := by
  refine pcall_go tyOk Try.func45 rfl rfl ?_
  intro K hK
  simp only [Try.ntmps45, List.length_cons, List.length_nil, Nat.reduceAdd, Nat.reduceSub, List.replicate, List.cons_append, List.nil_append]
  have hml := h.2.1
  try simp (maxSteps := 1000000) only [go_region, go_seq, go_block, go_loop, go_ops_nil, go_op, opK_none, contK_some, callOf, fstep, fpre, fstep0, St.ev, St.put, List.getD_cons_zero, List.getD_cons_succ, List.set, true_and, Bool.true_and]
  refine loopK_turn (Turns.adopt (i := 6) 57 7 rfl) ?_
  refine loopK_rule tyOk (α := Nat) 1 [0, 1, 6, 7, 8] (fun i => i ≤ m.length)
    (fun i => ⟨[.sl 5 (usrs m), u64 now, .any, .any, .any, .any, .own 0 7 0 (sweepTo m now i).2.length, .sl 5 (usrs (sweepTo m now i).1), i64 i, .any, .any, .any, .any, .any, .any, .any, .any, .any, .any, .any, .any, .any, .any, .any, .any, .any, .any, .any, .any, .any, .any, .any, .any, .any, .any, .any, .any, .any, .any, .any, .any, .any], [.row 57 7 (chgs (sweepTo m now i).2)]⟩)
    (fun i => m.length - i) 0 (Nat.zero_le _) (Nat.zero_le _) rfl ?_
  intro i hi
  try simp (maxSteps := 1000000) only [go_region, go_seq, go_cond, go_ops_nil, go_op, opK_none, contK_some, callOf, fstep, fpre, fstep0, fbinA, fbin, fbin0, flen, T, St.ev, St.put, List.getD_cons_zero, List.getD_cons_succ, List.set, true_and, Bool.true_and, usrs_len]
  (first | refine guardV_split ?_ ?_ | refine condK_split ?_ ?_ | refine drawV_split ?_ ?_ | refine condY_split ?_ ?_ | refine guardY_split ?_ ?_) <;> intro h2
  · have hlt : i < m.length := by simpa using h2
    have eg : (usrs m).getD (Int.toNat (i : Int)) .any = .agg [str m[i].1, .sl 4 (avs m[i].2.l), i64 m[i].2.t.st, i64 m[i].2.t.pr, i64 m[i].2.t.n] := at_map hlt
    have ew : IntKind.i64.wrap ((i : Int) + 1) = ((i + 1 : Nat) : Int) := by rw [wrap_i64 (by omega) (by omega)]; rfl
    have c1 : (0 : Int) ≤ (i : Int) ∧ Int.toNat (i : Int) < m.length := by omega
    have hs := sweep_ok h.1 now i
    have hnx := sweep_next (now := now) hlt
    have hel := (h.2.2 _ (List.getElem_mem hlt)).2
    obtain ⟨s, hO⟩ : ∃ s, sweepTo m now i = s := ⟨_, rfl⟩
    rw [hO] at hnx hs
    simp only [hO]
    generalize m[i] = p at *
    have hll : (lives now p.2.l).length ≤ p.2.l.length := List.length_filter_le _ _
    have hcl := settleC_len s.1 p.1 (lives now p.2.l) now
    try simp (maxSteps := 1000000) only [go_skip, go_seq, go_block, go_draws, condK_t]
    refine draw_rule tyOk (by rfl) (by simp only [List.length_cons, List.length_nil, Nat.reduceAdd, Nat.zero_le]) (by kernel_rfl) rfl ?_
    try simp (maxSteps := 1000000) only [callOf, fstep0, newF, fload, fcell, ffieldAddr, findexAddr, evs, T, TI.isAgg, St.ev, St.put, AV.cells, AV.known, List.getD_cons_zero, List.getD_cons_succ, List.set, List.length_cons, List.length_nil, List.drop_succ_cons, List.drop_zero, List.headD_cons, List.append_nil, List.getElem?_cons_zero, List.getElem?_cons_succ, List.replicate, List.getElem?_toArray, true_and, and_true, Bool.and_true, Bool.true_and, Bool.or_false, Bool.false_eq_true, ↓reduceIte, reduceCtorEq, ne_eq, not_false_eq_true, Nat.reduceAdd, Nat.reduceLT, Nat.add_zero, Nat.zero_add, Nat.reduceBEq, newCount, drawR_op, drawP_none, drawP_some, drawQ_some, drawH_fn, dstep, isFree, St.app, bump, isNew, eg, c1, usrs_len]
    refine drawCall_use (ref06_Purge p.2.l now (by omega)) rfl ?_
    try simp (maxSteps := 1000000) only [callOf, fstep0, newF, evs, St.ev, St.put, List.getD_cons_zero, List.getD_cons_succ, List.set, List.append_nil, true_and, Bool.true_and, Bool.or_false, Bool.false_eq_true, ↓reduceIte, Nat.reduceAdd, Nat.reduceBEq, drawR_op, drawP_none, drawP_some, drawQ_some, drawH_fn, dstep, isFree, St.app, bump, isNew]
    refine drawCall_use (bec_call s.1 p.1 (lives now p.2.l) now hs.1 (by omega) (by omega)) rfl ?_
    try simp (maxSteps := 1000000) only [go_nil, go_region, go_seq, go_blk, go_ops_nil, go_op, opK_none, contK_some, callOf, fstep, fpre, fstep0, fbinA, newF, fbin, fbin0, felems, fappend, T, TI.isAgg, TI.zeroOk, St.ev, St.put, St.rehome, killV, killVs, AB.kill, Value.oneCell', List.getD_cons_zero, List.getD_cons_succ, List.set, List.map_cons, List.map_nil, List.length_cons, List.length_nil, List.all_cons, List.all_nil, List.getElem?_cons_zero, true_and, Bool.true_and, Bool.and_self, Bool.or_false, Bool.false_eq_true, ↓reduceIte, decide_true, decide_false, Nat.reduceAdd, Nat.reduceEqDiff, Nat.reduceLT, Nat.le_refl, Nat.zero_add, Nat.reduceBEq, drawR_nil, drawR_op, drawP_none, drawQ_some, dstep, isFree, St.app, bump, isNew]
    refine ⟨by kernel_rfl, ?_⟩
    try simp (maxSteps := 1000000) only [true_and, Bool.true_and, chgs_len]
    refine ⟨⟨by simp only [maxLen]; omega, by omega⟩, ?_⟩
    try simp (maxSteps := 1000000) only [ew]
    simp only [loopX_normal, St.trunc, St.keep, truncVs, truncV, AB.trunc, keepV, List.elem_cons, List.elem_nil, List.take_succ_cons, List.take_zero, List.map_cons, List.map_nil, Nat.reduceAdd, Nat.reduceBEq, Nat.reduceLeDiff, Nat.zero_add, Bool.false_eq_true, ↓reduceIte]
    refine ⟨i + 1, hlt, by omega, ?_⟩
    rw [hnx]
    simp only [sweepStep, List.length_append, chgs, List.map_append]
  · obtain rfl := at_end hi h2
    have e2 : sweepTo m now m.length = sweepF m now := by rw [sweepTo, List.take_length, sweepF]
    rw [e2]
    try simp (maxSteps := 1000000) only [go_region, go_seq, go_exit, go_ret, exitK_code, exitK_blk, exitK_nil, go_ops_nil, go_op, opK_none, contK_some, condK_f, callOf, fstep, fpre, fstep0, St.ev, St.put, List.getD_cons_zero, List.getD_cons_succ, List.set, true_and, Bool.true_and, ↓reduceIte, loopX_exit]
    apply hK
    simp only [Try.results45, retK, ares, Bool.and_true, Bool.true_and, AV.ofResults, St.trunc, truncVs, truncV, List.getD_cons_zero, List.getD_cons_succ, List.take_zero, List.drop_zero, List.map_nil, List.getElem?_cons_zero, Nat.le_refl, true_and, and_true, ↓reduceIte, List.cons.injEq, exists_eq_left']
    rw [sl_full (chgs_len _)]
    try rfl

theorem ref08_Presence (m : Bk) (u : ByteArray) (now : Int) (hr : rises_se m) (hm : m.length ≤ 10000) (hl : (wasOf m u).l.length ≤ 200) :
    PCall P 49 [.sl 5 (usrs m), str u, u64 now] (fun x => x = .agg [i64 (ofP (wasOf m u).l now).st, i64 (ofP (wasOf m u).l now).pr, i64 (ofP (wasOf m u).l now).n]) := by
  refine pcall_go tyOk Try.func49 rfl rfl ?_
  intro K hK
  simp only [Try.ntmps49, List.length_cons, List.length_nil, Nat.reduceAdd, Nat.reduceSub, List.replicate, List.cons_append, List.nil_append]
  try simp (maxSteps := 1000000) only [go_region, go_seq, go_ops_nil, go_op, opK_none, opK_some, contK_some, callOf, callK_eq, callJ_nil, callD_fn, fstep, fpre, fstep0, evs, T, St.ev, St.put, AV.owners, ownersAll, List.getD_cons_zero, List.getD_cons_succ, List.set, List.map_cons, List.map_nil, List.length_nil, List.nil_append, List.append_nil, true_and, Bool.true_and]
  (refine callG_use (find_open m u hr hm) rfl ?_; rintro _ rfl)
  try simp (maxSteps := 1000000) only [go_op, opK_none, opK_some, contK_some, callOf, callK_eq, callJ_nil, callD_fn, fstep, fpre, fstep0, ffield, fpart, evs, T, TI.isAgg, St.ev, St.put, AV.owners, ownersAll, List.getD_cons_zero, List.getD_cons_succ, List.set, List.length_cons, List.length_nil, List.drop_succ_cons, List.drop_zero, List.headD_cons, List.append_nil, List.getElem?_cons_zero, List.getElem?_cons_succ, List.getElem?_toArray, true_and, Bool.true_and, Bool.false_eq_true, ↓reduceIte, Nat.reduceAdd, Nat.reduceLT, Nat.zero_add]
  (refine callG_use (of7_call (wasOf m u).l now hl) rfl ?_; rintro _ rfl)
  try simp (maxSteps := 1000000) only [go_ret, go_ops_nil, go_op, opK_none, contK_some, callOf, fstep, fpre, fstep0, fstore, T, St.ev, St.put, splice, AV.cells, AV.known, AV.flat, Value.oneCell', List.getD_cons_zero, List.getD_cons_succ, List.set, List.length_cons, List.length_nil, List.all_cons, List.all_nil, List.drop_succ_cons, List.drop_zero, List.take_zero, List.nil_append, List.append_nil, List.getElem?_cons_zero, true_and, and_true, Bool.and_true, Bool.true_and, Bool.and_self, Nat.reduceAdd, Nat.le_refl, Nat.zero_add]
  apply hK
  simp only [Try.results49, retK, ares, List.take_nil, Bool.and_true, Bool.true_and, AV.ofResults, St.trunc, truncVs, truncV, aload, acell, T, TI.isAgg, List.getD_cons_zero, List.getD_cons_succ, List.take_zero, List.take_succ_cons, List.drop_zero, List.map_nil, List.getElem?_cons_zero, List.length_cons, List.length_nil, Nat.reduceAdd, Nat.le_refl, true_and, and_true, ↓reduceIte, List.cons.injEq, exists_eq_left']

theorem usr_eq {p q : ByteArray × En} : p = q ↔ p.1 = q.1 ∧ p.2.t = q.2.t ∧ p.2.l = q.2.l := by
  constructor
  · rintro rfl; exact ⟨rfl, rfl, rfl⟩
  · rintro ⟨h1, h2, h3⟩; exact Prod.ext h1 (en_eq.2 ⟨h2, h3⟩)
theorem ref08_Same (a b : Bk) (ha : a.length ≤ 10000) (hb : b.length ≤ 10000) (ha2 : ∀ p ∈ a, p.2.l.length ≤ 10000) (hb2 : ∀ p ∈ b, p.2.l.length ≤ 10000) :
    PCall P 47 [.sl 5 (usrs a), .sl 5 (usrs b)] (fun x => x = bool (decide (a = b))) := by
  refine pcall_go tyOk Try.func47 rfl rfl ?_
  intro K hK
  simp only [Try.ntmps47, List.length_cons, List.length_nil, Nat.reduceAdd, Nat.reduceSub, List.replicate, List.cons_append, List.nil_append]
  try simp (maxSteps := 1000000) only [go_region, go_seq, go_cond, go_ops_nil, go_op, opK_none, contK_some, callOf, fstep, fpre, fstep0, fbinA, fbin, fbin0, flen, T, St.ev, St.put, List.getD_cons_zero, List.getD_cons_succ, List.set, true_and, Bool.true_and, usrs_len]
  (first | refine guardV_split ?_ ?_ | refine condK_split ?_ ?_ | refine drawV_split ?_ ?_ | refine condY_split ?_ ?_ | refine guardY_split ?_ ?_) <;> intro h <;> try simp (maxSteps := 1000000) only [go_skip, go_region, go_seq, go_block, go_ret, go_loop, go_ops_nil, go_op, opK_none, contK_some, condK_t, condK_f, callOf, fstep, fpre, fstep0, St.ev, St.put, List.set, true_and, Bool.true_and]
  · apply hK
    simp only [Try.results47, retK, ares, List.take_nil, Bool.and_true, Bool.true_and, AV.ofResults, St.trunc, truncVs, truncV, List.getD_cons_zero, List.getD_cons_succ, List.map_nil, true_and, and_true, List.cons.injEq, exists_eq_left']
    have : decide (a = b) = false := by
      rw [decide_eq_false_iff_not]; rintro rfl; simp at h
    rw [this]
  · have hl : a.length = b.length := by simp at h; omega
    refine loopK_rule tyOk (α := Nat) 0 [0, 1, 5] (fun i => i ≤ a.length ∧ a.take i = b.take i)
      (fun i => ⟨[.sl 5 (usrs a), .sl 5 (usrs b), .any, .any, .any, i64 i, .any, .any, .any, .any, .any, .any, .any, .any, .any, .any, .any, .any, .any, .any, .any, .any, .any, .any, .any, .any, .any, .any, .any, .any, .any, .any, .any, .any, .any, .any, .any, .any, .any, .any, .any, .any, .any, .any, .any, .any, .any, .any, .any, .any, .any, .any, .any, .any, .any], []⟩)
      (fun i => a.length - i) 0 (Nat.zero_le _) ⟨Nat.zero_le _, rfl⟩ rfl ?_
    intro i ⟨hi, he⟩
    try simp (maxSteps := 1000000) only [go_region, go_seq, go_cond, go_ops_nil, go_op, opK_none, contK_some, callOf, fstep, fpre, fstep0, fbinA, fbin, fbin0, flen, T, St.ev, St.put, List.getD_cons_zero, List.getD_cons_succ, List.set, true_and, Bool.true_and, usrs_len]
    (first | refine guardV_split ?_ ?_ | refine condK_split ?_ ?_ | refine drawV_split ?_ ?_ | refine condY_split ?_ ?_ | refine guardY_split ?_ ?_) <;> intro h <;> try simp (maxSteps := 1000000) only [go_skip, go_region, go_seq, go_block, go_exit, go_ret, go_draws, exitK_code, exitK_blk, exitK_nil, go_ops_nil, go_op, opK_none, contK_some, condK_t, condK_f, callOf, fstep, fpre, fstep0, St.ev, St.put, List.set, true_and, Bool.true_and, ↓reduceIte, loopX_exit]
    · have hlt : i < a.length := by simpa using h
      have hlt2 : i < b.length := by omega
      have eg : (usrs a).getD (Int.toNat (i : Int)) .any = .agg [str a[i].1, .sl 4 (avs a[i].2.l), i64 a[i].2.t.st, i64 a[i].2.t.pr, i64 a[i].2.t.n] := at_map hlt
      have eg2 : (usrs b).getD (Int.toNat (i : Int)) .any = .agg [str b[i].1, .sl 4 (avs b[i].2.l), i64 b[i].2.t.st, i64 b[i].2.t.pr, i64 b[i].2.t.n] := at_map hlt2
      have ew : IntKind.i64.wrap ((i : Int) + 1) = ((i + 1 : Nat) : Int) := by rw [wrap_i64 (by omega) (by omega)]; rfl
      have c1 : (0 : Int) ≤ (i : Int) ∧ Int.toNat (i : Int) < a.length := by omega
      have c2 : (0 : Int) ≤ (i : Int) ∧ Int.toNat (i : Int) < b.length := by omega
      have hp := ha2 _ (List.getElem_mem hlt)
      have hq := hb2 _ (List.getElem_mem hlt2)
      have hts := take_same hlt hlt2
      have hue := usr_eq (p := a[i]) (q := b[i])
      have hne0 : a[i] ≠ b[i] → (a = b → False) := by
        intro hne hab; subst hab; exact hne rfl
      generalize a[i] = p at *
      generalize b[i] = q at *
      refine draw_rule tyOk (by rfl) (by simp only [List.length_nil, Nat.le_refl]) (by kernel_rfl) rfl ?_
      try simp (maxSteps := 1000000) only [callOf, fstep0, fbinA, newF, fbin, fbin0, fload, fcell, ffieldAddr, findexAddr, T, TI.isAgg, St.ev, St.put, AV.cells, AV.known, List.getD_cons_zero, List.getD_cons_succ, List.set, List.length_cons, List.length_nil, List.drop_zero, List.headD_cons, List.append_nil, List.getElem?_cons_zero, List.getElem?_cons_succ, List.replicate, Option.bind_some, List.getElem?_toArray, true_and, and_true, Bool.and_true, Bool.true_and, Bool.or_false, Bool.false_eq_true, ↓reduceIte, reduceCtorEq, ne_eq, not_false_eq_true, Nat.reduceAdd, Nat.reduceLT, Nat.add_zero, Nat.zero_add, Nat.reduceBEq, newCount, drawR_op, drawR_guard, drawW_some, drawP_none, drawQ_some, dstep, isFree, St.app, bump, isNew, eg, eg2, c1, c2, usrs_len, str_beq]
      (first | refine guardV_split ?_ ?_ | refine condK_split ?_ ?_ | refine drawV_split ?_ ?_ | refine condY_split ?_ ?_ | refine guardY_split ?_ ?_) <;> intro h1
      · have hne : a = b → False := hne0 (fun hpq => by subst hpq; simp at h1)
        try simp (maxSteps := 1000000) only [go_region, go_seq, go_cond, go_ret, go_ops_nil, go_op, opK_none, contK_some, condK_t, undef, callOf, fstep, fpre, fstep0, newF, fpick, St.ev, St.put, List.getD_cons_zero, List.getD_cons_succ, List.set, List.getElem?_cons_zero, List.getElem?_cons_succ, Option.bind_some, List.getElem?_toArray, true_and, Bool.true_and, Bool.or_false, Bool.false_eq_true, ↓reduceIte, Nat.reduceAdd, Nat.reduceBEq, loopX_ret, drawR_nil, drawR_op, drawR_guard, drawW_some, drawV_tf, drawP_none, drawQ_some, dstep, isFree, St.app, bump, isNew]
        refine ⟨by kernel_rfl, ?_⟩
        skip
        apply hK
        simp only [Try.results47, retK, ares, List.take_nil, Bool.and_true, Bool.true_and, AV.ofResults, St.trunc, truncVs, truncV, List.getD_cons_zero, List.getD_cons_succ, List.map_nil, true_and, and_true, List.cons.injEq, exists_eq_left']
        have : decide (a = b) = false := by
          rw [decide_eq_false_iff_not]; rintro rfl; exact hne rfl
        rw [this]
      · have h1' : p.1 = q.1 := by simpa [str_beq, bne] using h1
        try simp (maxSteps := 1000000) only [callOf, fstep0, fbinA, fbin, fbinS, eqVs, eqV, kOks, kOk, fload, fcell, ffieldAddr, findexAddr, fpick, T, TI.isAgg, St.ev, St.put, AV.cells, AV.known, List.getD_cons_zero, List.getD_cons_succ, List.set, List.length_cons, List.length_nil, List.drop_succ_cons, List.drop_zero, List.take_succ_cons, List.take_zero, List.getElem?_cons_zero, List.getElem?_cons_succ, Option.bind_some, List.getElem?_toArray, true_and, and_true, Bool.and_true, Bool.true_and, Bool.and_self, Bool.false_eq_true, ↓reduceIte, decide_true, reduceCtorEq, ne_eq, not_false_eq_true, Nat.reduceAdd, Nat.le_refl, Nat.zero_add, cond_false, drawR_op, drawR_guard, drawW_some, drawV_ff, drawP_none, drawQ_some, dstep, isFree, St.app, bump, isNew, eqc28, eg, eg2, c1, c2, usrs_len, pr_beq]
        (first | refine guardV_split ?_ ?_ | refine condK_split ?_ ?_ | refine drawV_split ?_ ?_ | refine condY_split ?_ ?_ | refine guardY_split ?_ ?_) <;> intro h2
        · have hne : a = b → False := hne0 (fun hpq => by subst hpq; simp at h2)
          try simp (maxSteps := 1000000) only [go_region, go_seq, go_cond, go_ret, go_ops_nil, go_op, opK_none, contK_some, condK_t, undef, callOf, fstep, fpre, fstep0, newF, fpick, St.ev, St.put, List.getD_cons_zero, List.getD_cons_succ, List.set, List.getElem?_cons_zero, List.getElem?_cons_succ, Option.bind_some, List.getElem?_toArray, true_and, Bool.true_and, Bool.or_false, Bool.false_eq_true, ↓reduceIte, Nat.reduceAdd, Nat.reduceBEq, loopX_ret, drawR_nil, drawR_op, drawR_guard, drawW_some, drawV_tf, drawP_none, drawQ_some, dstep, isFree, St.app, bump, isNew]
          refine ⟨by kernel_rfl, ?_⟩
          skip
          apply hK
          simp only [Try.results47, retK, ares, List.take_nil, Bool.and_true, Bool.true_and, AV.ofResults, St.trunc, truncVs, truncV, List.getD_cons_zero, List.getD_cons_succ, List.map_nil, true_and, and_true, List.cons.injEq, exists_eq_left']
          have : decide (a = b) = false := by
            rw [decide_eq_false_iff_not]; rintro rfl; exact hne rfl
          rw [this]
        · have h2' : p.2.t = q.2.t := by simpa using h2
          try simp (maxSteps := 1000000) only [callOf, fstep0, fload, fcell, ffieldAddr, findexAddr, evs, T, TI.isAgg, St.ev, St.put, AV.cells, AV.known, List.getD_cons_zero, List.getD_cons_succ, List.set, List.length_cons, List.length_nil, List.drop_succ_cons, List.drop_zero, List.headD_cons, List.append_nil, List.getElem?_cons_zero, List.getElem?_cons_succ, Option.bind_some, List.getElem?_toArray, true_and, and_true, Bool.and_true, Bool.true_and, Bool.false_eq_true, ↓reduceIte, reduceCtorEq, ne_eq, not_false_eq_true, Nat.reduceAdd, Nat.reduceLT, Nat.zero_add, drawR_guard, drawW_some, drawV_ff, drawP_none, drawP_some, drawQ_some, drawH_fn, dstep, isFree, St.app, bump, isNew, eg, eg2, c1, c2, usrs_len]
          refine drawCall_use (ref06_Same p.2.l q.2.l (by omega) (by omega)) rfl ?_
          try simp (maxSteps := 1000000) only [go_cond, callOf, fstep0, newF, funary, fpick, St.ev, St.put, List.getD_cons_zero, List.getD_cons_succ, List.set, List.getElem?_cons_zero, List.getElem?_cons_succ, Option.bind_some, List.getElem?_toArray, true_and, Bool.true_and, Bool.or_false, Bool.false_eq_true, ↓reduceIte, Nat.reduceAdd, Nat.reduceBEq, cond_false, drawR_nil, drawR_op, drawR_guard, drawW_some, drawV_ff, drawP_none, drawQ_some, dstep, isFree, St.app, bump, isNew]
          refine ⟨by kernel_rfl, ?_⟩
          (first | refine guardV_split ?_ ?_ | refine condK_split ?_ ?_ | refine drawV_split ?_ ?_ | refine condY_split ?_ ?_ | refine guardY_split ?_ ?_) <;> intro h3
          · have hne : a = b → False := hne0 (fun hpq => by subst hpq; simp at h3)
            try simp (maxSteps := 1000000) only [go_region, go_seq, go_ret, go_ops_nil, go_op, opK_none, contK_some, condK_t, callOf, fstep, fpre, fstep0, St.ev, St.put, List.set, true_and, Bool.true_and, loopX_ret]
            apply hK
            simp only [Try.results47, retK, ares, List.take_nil, Bool.and_true, Bool.true_and, AV.ofResults, St.trunc, truncVs, truncV, List.getD_cons_zero, List.getD_cons_succ, List.map_nil, true_and, and_true, List.cons.injEq, exists_eq_left']
            have : decide (a = b) = false := by
              rw [decide_eq_false_iff_not]; rintro rfl; exact hne rfl
            rw [this]
          · have h3' : p.2.l = q.2.l := by simpa using h3
            try simp (maxSteps := 1000000) only [go_nil, go_skip, go_region, go_blk, go_ops_nil, go_op, opK_none, contK_some, condK_f, callOf, fstep, fpre, fstep0, fbinA, fbin, fbin0, St.ev, St.put, List.getD_cons_zero, List.getD_cons_succ, List.set, true_and, Bool.true_and, ew]
            simp only [loopX_normal, St.trunc, St.keep, truncVs, truncV, keepV, List.elem_cons, List.elem_nil, List.take_zero, List.map_nil, Nat.reduceAdd, Nat.reduceBEq, Nat.zero_add, Bool.false_eq_true, ↓reduceIte]
            exact ⟨i + 1, ⟨hlt, hts.2 ⟨he, hue.2 ⟨h1', h2', h3'⟩⟩⟩, by omega, rfl⟩
    · obtain rfl := at_end hi h
      apply hK
      simp only [Try.results47, retK, ares, List.take_nil, Bool.and_true, Bool.true_and, AV.ofResults, St.trunc, truncVs, truncV, List.getD_cons_zero, List.getD_cons_succ, List.map_nil, true_and, and_true, List.cons.injEq, exists_eq_left']
      rw [List.take_length, hl, List.take_length] at he
      rw [decide_eq_true he]
end Go.Proofs.Ytljgfapbbhbbpaa
namespace Go.Proofs.Ytljgfapbbhbbpaa
open Go Go.Proofs.Ytljgfapbbhbbpaa.Sym
set_option maxRecDepth 100000
set_option linter.unusedSimpArgs false
set_option linter.unusedVariables false

theorem chg_beq (x y : Chg) : x = y ↔ x.u = y.u ∧ x.old = y.old ∧ x.new = y.new := by
  cases x; cases y; simp
theorem law08_changes (a b : List Chg) (ha : a.length ≤ 10000) (hb : b.length ≤ 10000) : PCall P 48 [.sl 7 (chgs a), .sl 7 (chgs b)] (fun x => x = bool (decide (a = b))) := by
  refine pcall_go tyOk Try.func48 rfl rfl ?_
  intro K hK
  simp only [Try.ntmps48, List.length_cons, List.length_nil, Nat.reduceAdd, Nat.reduceSub, List.replicate, List.cons_append, List.nil_append]
  try simp (maxSteps := 1000000) only [go_region, go_seq, go_cond, go_ops_nil, go_op, opK_none, contK_some, callOf, fstep, fpre, fstep0, fbinA, fbin, fbin0, flen, T, St.ev, St.put, List.getD_cons_zero, List.getD_cons_succ, List.set, true_and, Bool.true_and, chgs_len]
  (first | refine guardV_split ?_ ?_ | refine condK_split ?_ ?_ | refine drawV_split ?_ ?_ | refine condY_split ?_ ?_ | refine guardY_split ?_ ?_) <;> intro h <;> try simp (maxSteps := 1000000) only [go_skip, go_region, go_seq, go_block, go_ret, go_loop, go_ops_nil, go_op, opK_none, contK_some, condK_t, condK_f, callOf, fstep, fpre, fstep0, St.ev, St.put, List.set, true_and, Bool.true_and]
  · apply hK
    simp only [Try.results48, retK, ares, List.take_nil, Bool.and_true, Bool.true_and, AV.ofResults, St.trunc, truncVs, truncV, List.getD_cons_zero, List.getD_cons_succ, List.map_nil, true_and, and_true, List.cons.injEq, exists_eq_left']
    have : decide (a = b) = false := by
      rw [decide_eq_false_iff_not]; rintro rfl; simp at h
    rw [this]
  · have hl : a.length = b.length := by simp at h; omega
    refine loopK_rule tyOk (α := Nat) 0 [0, 1, 5] (fun i => i ≤ a.length ∧ a.take i = b.take i)
      (fun i => ⟨[.sl 7 (chgs a), .sl 7 (chgs b), .any, .any, .any, i64 i, .any, .any, .any, .any, .any, .any, .any, .any, .any, .any, .any, .any, .any, .any, .any, .any, .any, .any, .any, .any, .any, .any, .any, .any, .any, .any, .any, .any, .any, .any, .any, .any, .any, .any, .any, .any, .any, .any, .any, .any, .any, .any, .any, .any, .any, .any, .any, .any], []⟩)
      (fun i => a.length - i) 0 (Nat.zero_le _) ⟨Nat.zero_le _, rfl⟩ rfl ?_
    intro i ⟨hi, he⟩
    try simp (maxSteps := 1000000) only [go_region, go_seq, go_cond, go_ops_nil, go_op, opK_none, contK_some, callOf, fstep, fpre, fstep0, fbinA, fbin, fbin0, flen, T, St.ev, St.put, List.getD_cons_zero, List.getD_cons_succ, List.set, true_and, Bool.true_and, chgs_len]
    (first | refine guardV_split ?_ ?_ | refine condK_split ?_ ?_ | refine drawV_split ?_ ?_ | refine condY_split ?_ ?_ | refine guardY_split ?_ ?_) <;> intro h <;> try simp (maxSteps := 1000000) only [go_skip, go_region, go_seq, go_block, go_exit, go_ret, go_draws, exitK_code, exitK_blk, exitK_nil, go_ops_nil, go_op, opK_none, contK_some, condK_t, condK_f, callOf, fstep, fpre, fstep0, St.ev, St.put, List.set, true_and, Bool.true_and, ↓reduceIte, loopX_exit]
    · have hlt : i < a.length := by simpa using h
      have hlt2 : i < b.length := by omega
      have eg : (chgs a).getD (Int.toNat (i : Int)) .any = .agg [str a[i].u, i64 a[i].old.st, i64 a[i].old.pr, i64 a[i].old.n, i64 a[i].new.st, i64 a[i].new.pr, i64 a[i].new.n] := at_map hlt
      have eg2 : (chgs b).getD (Int.toNat (i : Int)) .any = .agg [str b[i].u, i64 b[i].old.st, i64 b[i].old.pr, i64 b[i].old.n, i64 b[i].new.st, i64 b[i].new.pr, i64 b[i].new.n] := at_map hlt2
      have ew : IntKind.i64.wrap ((i : Int) + 1) = ((i + 1 : Nat) : Int) := by rw [wrap_i64 (by omega) (by omega)]; rfl
      have c1 : (0 : Int) ≤ (i : Int) ∧ Int.toNat (i : Int) < a.length := by omega
      have c2 : (0 : Int) ≤ (i : Int) ∧ Int.toNat (i : Int) < b.length := by omega
      have hts := take_same hlt hlt2
      have hue := chg_beq a[i] b[i]
      have hne0 : a[i] ≠ b[i] → (a = b → False) := by
        intro hne hab; subst hab; exact hne rfl
      generalize a[i] = p at *
      generalize b[i] = q at *
      refine draw_rule tyOk (by rfl) (by simp only [List.length_nil, Nat.le_refl]) (by kernel_rfl) rfl ?_
      try simp (maxSteps := 1000000) only [callOf, fstep0, fbinA, fbin, fbin0, fload, fcell, ffieldAddr, findexAddr, T, TI.isAgg, St.ev, St.put, AV.cells, AV.known, List.getD_cons_zero, List.getD_cons_succ, List.set, List.length_cons, List.length_nil, List.drop_zero, List.headD_cons, List.append_nil, List.getElem?_cons_zero, List.getElem?_cons_succ, List.replicate, Option.bind_some, List.getElem?_toArray, true_and, and_true, Bool.and_true, Bool.true_and, Bool.false_eq_true, ↓reduceIte, reduceCtorEq, ne_eq, not_false_eq_true, Nat.reduceAdd, Nat.reduceLT, Nat.add_zero, Nat.zero_add, newCount, drawR_op, drawR_guard, drawW_some, drawP_none, drawQ_some, dstep, isFree, St.app, bump, isNew, eg, eg2, c1, c2, chgs_len, str_beq]
      (first | refine guardV_split ?_ ?_ | refine condK_split ?_ ?_ | refine drawV_split ?_ ?_ | refine condY_split ?_ ?_ | refine guardY_split ?_ ?_) <;> intro h1
      · have hne : a = b → False := hne0 (fun hpq => by subst hpq; simp at h1)
        try simp (maxSteps := 1000000) only [go_region, go_seq, go_cond, go_ret, go_ops_nil, go_op, opK_none, contK_some, condK_t, undef, callOf, fstep, fpre, fstep0, fpick, St.ev, St.put, List.getD_cons_zero, List.getD_cons_succ, List.set, List.getElem?_cons_zero, List.getElem?_cons_succ, Option.bind_some, List.getElem?_toArray, true_and, Bool.true_and, Bool.false_eq_true, ↓reduceIte, Nat.reduceAdd, loopX_ret, drawR_nil, drawR_op, drawR_guard, drawW_some, drawV_tf, drawP_none, drawQ_some, dstep, isFree, St.app, bump, isNew]
        refine ⟨by kernel_rfl, ?_⟩
        skip
        apply hK
        simp only [Try.results48, retK, ares, List.take_nil, Bool.and_true, Bool.true_and, AV.ofResults, St.trunc, truncVs, truncV, List.getD_cons_zero, List.getD_cons_succ, List.map_nil, true_and, and_true, List.cons.injEq, exists_eq_left']
        have : decide (a = b) = false := by
          rw [decide_eq_false_iff_not]; rintro rfl; exact hne rfl
        rw [this]
      · have h1' : p.u = q.u := by simpa [str_beq, bne] using h1
        try simp (maxSteps := 1000000) only [callOf, fstep0, fbinA, fbin, fbinS, eqVs, eqV, kOks, kOk, fload, fcell, ffieldAddr, findexAddr, fpick, T, TI.isAgg, St.ev, St.put, AV.cells, AV.known, List.getD_cons_zero, List.getD_cons_succ, List.set, List.length_cons, List.length_nil, List.drop_succ_cons, List.drop_zero, List.take_succ_cons, List.take_zero, List.getElem?_cons_zero, List.getElem?_cons_succ, Option.bind_some, List.getElem?_toArray, true_and, and_true, Bool.and_true, Bool.true_and, Bool.and_self, Bool.false_eq_true, ↓reduceIte, decide_true, reduceCtorEq, ne_eq, not_false_eq_true, Nat.reduceAdd, Nat.reduceLeDiff, Nat.zero_add, cond_false, drawR_op, drawR_guard, drawW_some, drawV_ff, drawP_none, drawQ_some, dstep, isFree, St.app, bump, isNew, eqc28, eg, eg2, c1, c2, chgs_len, pr_beq]
        (first | refine guardV_split ?_ ?_ | refine condK_split ?_ ?_ | refine drawV_split ?_ ?_ | refine condY_split ?_ ?_ | refine guardY_split ?_ ?_) <;> intro h2
        · have hne : a = b → False := hne0 (fun hpq => by subst hpq; simp at h2)
          try simp (maxSteps := 1000000) only [go_region, go_seq, go_cond, go_ret, go_ops_nil, go_op, opK_none, contK_some, condK_t, undef, callOf, fstep, fpre, fstep0, fpick, St.ev, St.put, List.getD_cons_zero, List.getD_cons_succ, List.set, List.getElem?_cons_zero, List.getElem?_cons_succ, Option.bind_some, List.getElem?_toArray, true_and, Bool.true_and, Bool.false_eq_true, ↓reduceIte, Nat.reduceAdd, loopX_ret, drawR_nil, drawR_op, drawR_guard, drawW_some, drawV_tf, drawP_none, drawQ_some, dstep, isFree, St.app, bump, isNew]
          refine ⟨by kernel_rfl, ?_⟩
          skip
          apply hK
          simp only [Try.results48, retK, ares, List.take_nil, Bool.and_true, Bool.true_and, AV.ofResults, St.trunc, truncVs, truncV, List.getD_cons_zero, List.getD_cons_succ, List.map_nil, true_and, and_true, List.cons.injEq, exists_eq_left']
          have : decide (a = b) = false := by
            rw [decide_eq_false_iff_not]; rintro rfl; exact hne rfl
          rw [this]
        · have h2' : p.old = q.old := by simpa using h2
          try simp (maxSteps := 1000000) only [go_cond, callOf, fstep0, fbinA, fbin, fbinS, eqVs, eqV, kOks, kOk, fload, fcell, ffieldAddr, findexAddr, fpick, T, TI.isAgg, St.ev, St.put, AV.cells, AV.known, List.getD_cons_zero, List.getD_cons_succ, List.set, List.length_cons, List.length_nil, List.drop_succ_cons, List.drop_zero, List.take_succ_cons, List.take_zero, List.getElem?_cons_zero, List.getElem?_cons_succ, Option.bind_some, List.getElem?_toArray, true_and, and_true, Bool.and_true, Bool.true_and, Bool.and_self, Bool.false_eq_true, ↓reduceIte, decide_true, reduceCtorEq, ne_eq, not_false_eq_true, Nat.reduceAdd, Nat.le_refl, Nat.zero_add, cond_false, drawR_nil, drawR_op, drawR_guard, drawW_some, drawV_ff, drawP_none, drawQ_some, dstep, isFree, St.app, bump, isNew, eqc28, eg, eg2, c1, c2, chgs_len, pr_beq]
          refine ⟨by kernel_rfl, ?_⟩
          (first | refine guardV_split ?_ ?_ | refine condK_split ?_ ?_ | refine drawV_split ?_ ?_ | refine condY_split ?_ ?_ | refine guardY_split ?_ ?_) <;> intro h3
          · have hne : a = b → False := hne0 (fun hpq => by subst hpq; simp at h3)
            try simp (maxSteps := 1000000) only [go_region, go_seq, go_ret, go_ops_nil, go_op, opK_none, contK_some, condK_t, callOf, fstep, fpre, fstep0, St.ev, St.put, List.set, true_and, Bool.true_and, loopX_ret]
            apply hK
            simp only [Try.results48, retK, ares, List.take_nil, Bool.and_true, Bool.true_and, AV.ofResults, St.trunc, truncVs, truncV, List.getD_cons_zero, List.getD_cons_succ, List.map_nil, true_and, and_true, List.cons.injEq, exists_eq_left']
            have : decide (a = b) = false := by
              rw [decide_eq_false_iff_not]; rintro rfl; exact hne rfl
            rw [this]
          · have h3' : p.new = q.new := by simpa using h3
            try simp (maxSteps := 1000000) only [go_nil, go_skip, go_region, go_blk, go_ops_nil, go_op, opK_none, contK_some, condK_f, callOf, fstep, fpre, fstep0, fbinA, fbin, fbin0, St.ev, St.put, List.getD_cons_zero, List.getD_cons_succ, List.set, true_and, Bool.true_and, ew]
            simp only [loopX_normal, St.trunc, St.keep, truncVs, truncV, keepV, List.elem_cons, List.elem_nil, List.take_zero, List.map_nil, Nat.reduceAdd, Nat.reduceBEq, Nat.zero_add, Bool.false_eq_true, ↓reduceIte]
            exact ⟨i + 1, ⟨hlt, hts.2 ⟨he, hue.2 ⟨h1', h2', h3'⟩⟩⟩, by omega, rfl⟩
    · obtain rfl := at_end hi h
      apply hK
      simp only [Try.results48, retK, ares, List.take_nil, Bool.and_true, Bool.true_and, AV.ofResults, St.trunc, truncVs, truncV, List.getD_cons_zero, List.getD_cons_succ, List.map_nil, true_and, and_true, List.cons.injEq, exists_eq_left']
      rw [List.take_length, hl, List.take_length] at he
      rw [decide_eq_true he]

/-- What the book's changes come to: no more than there are users. -/
theorem sweepC_len (m : Bk) (now : Int) (h : rises_se m) : (sweepF m now).2.length ≤ m.length := by
  have := (sweep_ok h now m.length).2.2
  rwa [show sweepTo m now m.length = sweepF m now by rw [sweepTo, List.take_length, sweepF]] at this

set_option maxHeartbeats 4000000 in
theorem law_plays (l : List ActB) (most : Int) (user : ByteArray) (hl : l.length ≤ maxLen) :
    PCall P 13 [.sl 9 (bacts l), i64 most, str user] (fun x => x = .v (.bool true)) := by
  refine pcall_go tyOk Try.func13 rfl rfl ?_
  intro K hK
  simp only [Try.ntmps13, List.length_cons, List.length_nil, Nat.reduceAdd, Nat.reduceSub, List.replicate, List.cons_append, List.nil_append]
  try simp (maxSteps := 1000000) only [go_region, go_seq, go_ops_nil, go_op, opK_none, opK_some, contK_some, callOf, callK_eq, callJ_nil, callD_fn, fstep, fpre, fstep0, evs, St.ev, St.put, ownersAll, List.set, List.append_nil, true_and, Bool.true_and]
  (refine callG_use law08_awake rfl ?_; rintro _ rfl)
  try simp (maxSteps := 1000000) only [go_op, go_guard, opK_none, opK_some, contK_some, guardK_eq, guardV_ff, callOf, callK_eq, callJ_nil, callD_fn, fstep, fpre, fstep0, funary, evs, St.ev, St.put, AV.owners, ownersAll, List.getD_cons_zero, List.getD_cons_succ, List.set, List.append_nil, List.getElem?_cons_zero, List.getElem?_cons_succ, Option.bind_some, List.getElem?_toArray, true_and, Bool.true_and, Bool.not_true]
  (refine callG_use (law08_long l hl) rfl ?_; rintro _ rfl)
  try simp (maxSteps := 1000000) only [go_op, go_guard, opK_none, contK_some, guardK_eq, callOf, fstep, fpre, fstep0, fpick, St.ev, St.put, List.getD_cons_zero, List.getD_cons_succ, List.set, List.getElem?_cons_zero, List.getElem?_cons_succ, Option.bind_some, List.getElem?_toArray, true_and, Bool.true_and, cond_false]
  (first | refine guardV_split ?_ ?_ | refine condK_split ?_ ?_ | refine drawV_split ?_ ?_ | refine condY_split ?_ ?_ | refine guardY_split ?_ ?_) <;> intro h0
  · try simp (maxSteps := 1000000) only [go_region, go_seq, go_cond, go_ops_nil, go_op, go_guard, opK_none, opK_some, contK_some, condK_t, guardK_eq, guardV_tf, undef, callOf, callK_eq, callJ_nil, callD_fn, fstep, fpre, fstep0, evs, fpick, St.ev, St.put, ownersAll, List.getD_cons_zero, List.getD_cons_succ, List.set, List.append_nil, List.getElem?_cons_zero, List.getElem?_cons_succ, Option.bind_some, List.getElem?_toArray, true_and, Bool.true_and, ↓reduceIte]
    (refine callG_use law08_awake rfl ?_; rintro _ rfl)
    try simp (maxSteps := 1000000) only [go_ret, go_ops_nil, go_op, opK_none, contK_some, callOf, fstep, fpre, fstep0, St.ev, St.put, List.getD_cons_zero, List.getD_cons_succ, List.set, true_and, Bool.true_and]
    apply hK
    simp only [Try.results13, retK, ares, List.take_nil, Bool.and_true, Bool.true_and, AV.ofResults, St.trunc, truncVs, truncV, List.getD_cons_zero, List.getD_cons_succ, List.map_nil, true_and, and_true, List.cons.injEq, exists_eq_left']
  try simp (maxSteps := 1000000) only [go_cond, go_ops_nil, go_op, go_guard, opK_none, contK_some, guardK_eq, guardV_ff, callOf, fstep, fpre, fstep0, fbinA, fbin, fbin0, flen, fpick, T, St.ev, St.put, List.getD_cons_zero, List.getD_cons_succ, List.set, List.getElem?_cons_zero, List.getElem?_cons_succ, Option.bind_some, List.getElem?_toArray, true_and, Bool.true_and, cond_false]
  (first | refine guardV_split ?_ ?_ | refine condK_split ?_ ?_ | refine drawV_split ?_ ?_ | refine condY_split ?_ ?_ | refine guardY_split ?_ ?_) <;> intro h1
  · try simp (maxSteps := 1000000) only [go_region, go_seq, go_op, opK_some, condK_t, callOf, callK_eq, callJ_nil, callD_fn, evs, St.ev, ownersAll, List.append_nil]
    (refine callG_use law08_awake rfl ?_; rintro _ rfl)
    try simp (maxSteps := 1000000) only [go_ret, go_ops_nil, go_op, opK_none, contK_some, callOf, fstep, fpre, fstep0, St.ev, St.put, List.getD_cons_zero, List.getD_cons_succ, List.set, true_and, Bool.true_and]
    apply hK
    simp only [Try.results13, retK, ares, List.take_nil, Bool.and_true, Bool.true_and, AV.ofResults, St.trunc, truncVs, truncV, List.getD_cons_zero, List.getD_cons_succ, List.map_nil, true_and, and_true, List.cons.injEq, exists_eq_left']
  have hlen := longB_few h0
  try simp (maxSteps := 1000000) only [go_skip, go_region, go_seq, go_block, go_loop, go_ops_nil, go_op, opK_none, contK_some, condK_f, callOf, fstep, fpre, fstep0, T, St.ev, St.put, List.set, List.map_cons, List.map_nil, List.length_nil, List.nil_append, true_and, Bool.true_and]
  refine loopK_ruleT tyOk (α := Nat) 1 [0, 1, 2, 7, 8, 9, 10] (fun i => i ≤ l.length)
    (fun i => ⟨[.sl 9 (bacts l), i64 most, str user, .any, .any, .any, .any, .ptr 0 0, .sl 5 (usrs (madeF (l.take i) most).1), u64 (madeF (l.take i) most).2, i64 i, .any, .any, .any, .any, .any, .any, .any, .any, .any, .any, .any, .any, .any, .any, .any, .any, .any, .any, .any, .any, .any, .any, .any, .any, .any, .any, .any, .any, .any, .any, .any, .any, .any, .any, .any, .any, .any, .any, .any, .any, .any, .any, .any, .any, .any, .any, .any, .any, .any, .any, .any, .any, .any, .any, .any, .any, .any, .any, .any, .any, .any, .any, .any, .any, .any, .any, .any, .any, .any, .any, .any, .any, .any, .any, .any, .any, .any, .any, .any, .any, .any, .any, .any, .any, .any, .any, .any, .any, .any, .any, .any, .any, .any, .any, .any, .any, .any, .any, .any, .any, .any, .any, .any, .any, .any, .any, .any, .any, .any, .any, .any, .any, .any, .any, .any, .any, .any, .any, .any, .any, .any, .any, .any, .any, .any, .any, .any, .any, .any, .any, .any, .any, .any, .any, .any, .any, .any, .any, .any, .any, .any, .any, .any, .any, .any, .any, .any, .any, .any, .any, .any], [ebox (madeF (l.take i) most).1]⟩)
    (fun i => l.length - i) 0 (Nat.zero_le _) (Nat.zero_le _) ?_ ?_
  · refine Turns.weak ⟨_, _, rfl, weak_refl _, _, _, rfl, weak_refl _, _, _, rfl, weak_refl _, _, _, rfl, weak_refl _, _, _, rfl, weak_refl _, _, _, rfl, weak_refl _, _, _, rfl, weak_refl _, _, _, rfl, weak_refl _, _, _, rfl, weak_nil 5, weaks_refl _⟩ ⟨_, _, rfl, ⟨_, rfl, _, _, rfl, weak_nil 1, _, _, rfl, weak_nil 4, rfl⟩, rfl⟩
  intro i hi
  try simp (maxSteps := 1000000) only [go_region, go_seq, go_cond, go_ops_nil, go_op, opK_none, contK_some, callOf, fstep, fpre, fstep0, fbinA, fbin, fbin0, flen, T, St.ev, St.put, List.getD_cons_zero, List.getD_cons_succ, List.set, true_and, Bool.true_and, bacts_len]
  (first | refine guardV_split ?_ ?_ | refine condK_split ?_ ?_ | refine drawV_split ?_ ?_ | refine condY_split ?_ ?_ | refine guardY_split ?_ ?_) <;> intro h
  · obtain ⟨hlt, eg, ew, c1⟩ := act_idx (by omega) h
    have hok := made_ok (l.take i) most
    have hnx := made_next (most := most) hlt
    obtain ⟨⟨B, now⟩, hB⟩ : ∃ s, madeF (l.take i) most = s := ⟨_, rfl⟩
    rw [hB] at hok hnx
    simp only [hB]
    simp only at hok
    have hok := hok.mono (show (l.take i).length ≤ 120 by rw [List.length_take]; omega)
    obtain ⟨a, ha⟩ : ∃ a, l[i] = a := ⟨_, rfl⟩
    rw [ha] at eg hnx
    try simp (maxSteps := 1000000) only [go_skip, go_region, go_seq, go_block, go_op, opK_none, opK_some, contK_some, condK_t, callOf, callK_eq, callJ_nil, callD_fn, fstep, fpre, fstep0, fload, fcell, ffieldAddr, findexAddr, evs, T, TI.isAgg, St.ev, St.put, AV.cells, AV.known, AV.owners, ownersAll, List.getD_cons_zero, List.getD_cons_succ, List.set, List.length_cons, List.length_nil, List.drop_succ_cons, List.drop_zero, List.headD_cons, List.append_nil, List.getElem?_cons_zero, List.getElem?_cons_succ, List.getElem?_toArray, true_and, and_true, Bool.and_true, Bool.true_and, Bool.false_eq_true, ↓reduceIte, reduceCtorEq, ne_eq, not_false_eq_true, Nat.reduceLT, Nat.zero_add, eg, c1, bacts_len]
    (refine callG_use (law_later now a.by_) rfl ?_; rintro _ rfl)
    try simp (maxSteps := 1000000) only [go_region, go_seq, go_cond, go_ops_nil, go_op, opK_none, contK_some, callOf, fstep, fpre, fstep0, fload, fcell, ffieldAddr, findexAddr, T, TI.isAgg, St.ev, St.put, AV.cells, AV.known, List.getD_cons_zero, List.getD_cons_succ, List.set, List.map_cons, List.map_nil, List.length_cons, List.length_nil, List.drop_zero, List.headD_cons, List.cons_append, List.nil_append, List.getElem?_cons_zero, List.getElem?_toArray, true_and, and_true, Bool.and_true, Bool.true_and, Bool.false_eq_true, ↓reduceIte, reduceCtorEq, ne_eq, not_false_eq_true, Nat.reduceAdd, Nat.reduceLT, Nat.zero_add, eg, c1, bacts_len]
    obtain ⟨th, hth⟩ : ∃ th, addW now a.by_ = th := ⟨_, rfl⟩
    rw [hth]
    have hBl := hok.2.1
    have hu1 := users_call B (by omega)
    have hs1 := ref08_Same B B (by omega) (by omega) (fun p hp => by have := (hok.2.2 p hp).2; omega) (fun p hp => by have := (hok.2.2 p hp).2; omega)
    rw [decide_eq_true rfl] at hs1
    cases hsw : a.sw
    · have e1 : madeF (l.take (i + 1)) most = (writeB B a.op th most, th) := by rw [hnx, madeStep, if_neg (by rw [hsw]; decide), hth]
      have hw1 := write_call 120 B a.op th most hok (by omega)
      have hw2 := ref08_Write 120 B a.op th most hok (by omega)
      have hCok := (book_write hok a.op th most).mono (show 120 + 1 ≤ 200 by omega)
      have hcl := settleC_len B a.op.u (writeL B a.op th most).1 th
      replace hnx := e1
      clear e1
      change (writeC B a.op th most).length ≤ 1 at hcl
      generalize writeB B a.op th most = C at *
      generalize writeC B a.op th most = X at *
      generalize (writeL B a.op th most).2 = er at *
      have cer : (er != er) = false := by simp
      have hCl := hCok.2.1
      have hu2 := users_call C (by omega)
      have hs2 := ref08_Same C C (by omega) (by omega) (fun p hp => by have := (hCok.2.2 p hp).2; omega) (fun p hp => by have := (hCok.2.2 p hp).2; omega)
      rw [decide_eq_true rfl] at hs2
      have hch := law08_changes X X (by omega) (by omega)
      rw [decide_eq_true rfl] at hch
      have hss := same_call C C (hCok.mono (by omega)) (hCok.mono (by omega))
      rw [decide_eq_true rfl] at hss
      have hst := stored_call C hCok
      have cst : (((sumL C : Nat) : Int) != ((sumL C : Nat) : Int)) = false := by simp
      have hp1 := presence_call 200 C user th hCok (by omega)
      have hp2 := ref08_Presence C user th hCok.1 (by omega) (was_ok hCok user).2
      generalize ofP (wasOf C user).l th = p0 at *
      have cpr : (!decide (p0 = p0)) = false := by simp
      have hsb := same_call B C (hok.mono (by omega)) (hCok.mono (by omega))
      have hsr := ref08_Same B C (by omega) (by omega) (fun p hp => by have := (hok.2.2 p hp).2; omega) (fun p hp => by have := (hCok.2.2 p hp).2; omega)
      generalize decide (B = C) = bc at *
      have csb : (bc != bc) = false := by simp
      unfold Opb.av at hw1 hw2
      unfold map_se at hw1 hu1 hu2 hss hst hp1 hsb
      try simp (maxSteps := 1000000) only [go_seq, go_draws, condK_f]
      refine draw_rule tyOk (by rfl) (by simp only [List.length_cons, List.length_nil, Nat.reduceAdd, Nat.zero_le]) (by kernel_rfl) rfl ?_
      try simp (maxSteps := 1000000) only [callOf, fstep0, newF, fload, fcell, ffieldAddr, findexAddr, evs, T, TI.isAgg, St.ev, St.put, AV.cells, AV.known, List.getD_cons_zero, List.getD_cons_succ, List.set, List.length_cons, List.length_nil, List.drop_succ_cons, List.drop_zero, List.take_succ_cons, List.take_zero, List.cons_append, List.nil_append, List.append_nil, List.getElem?_cons_zero, List.getElem?_cons_succ, List.replicate, List.getElem?_toArray, true_and, and_true, Bool.and_true, Bool.true_and, Bool.or_false, Bool.false_eq_true, ↓reduceIte, reduceCtorEq, ne_eq, not_false_eq_true, Nat.reduceAdd, Nat.reduceLeDiff, Nat.le_refl, Nat.add_zero, Nat.zero_add, Nat.reduceBEq, newCount, drawR_op, drawP_none, drawP_some, drawQ_some, drawH_fn, dstep, isFree, St.app, bump, isNew, eg, c1, bacts_len]
      refine drawCall_use hw1 rfl ?_
      try simp (maxSteps := 1000000) only [go_region, go_seq, go_op, opK_none, opK_some, contK_some, callOf, callK_eq, fstep, fpre, fstep0, newF, fload, fcell, ffieldAddr, findexAddr, evs, T, TI.isAgg, St.ev, St.put, St.rehome, killV, killVs, AB.kill, splice, AV.cells, AV.known, AV.flat, AV.owners, ownersAll, Value.cells, List.getD_cons_zero, List.getD_cons_succ, List.set, List.map_cons, List.map_nil, List.length_cons, List.length_nil, List.all_cons, List.all_nil, List.drop_succ_cons, List.drop_zero, List.take_zero, List.nil_append, List.append_nil, List.getElem?_cons_zero, List.getElem?_cons_succ, List.getElem?_toArray, true_and, and_true, Bool.and_true, Bool.true_and, Bool.and_self, Bool.or_false, Bool.false_eq_true, ↓reduceIte, reduceCtorEq, ne_eq, not_false_eq_true, Nat.reduceAdd, Nat.reduceEqDiff, Nat.reduceLT, Nat.le_refl, Nat.zero_add, Nat.reduceBEq, drawR_nil, drawR_op, drawP_none, drawQ_some, dstep, isFree, dstore, St.app, bump, isNew]
      refine ⟨by kernel_rfl, ?_⟩
      try simp (maxSteps := 1000000) only [callJ_nil, callD_fn, evs, St.ev, AV.owners, ownersAll, List.getD_cons_zero, List.getD_cons_succ, List.length_cons, List.length_nil, List.drop_succ_cons, List.drop_zero, List.take_succ_cons, List.take_zero, List.append_nil, true_and, and_true, Bool.and_true, Bool.true_and, Nat.reduceAdd, Nat.reduceLeDiff, Nat.zero_add, eg, c1, bacts_len]
      (refine callG_use hw2 rfl ?_; rintro _ rfl)
      try simp (maxSteps := 1000000) only [go_skip, go_region, go_seq, go_cond, go_ops_nil, go_op, opK_none, opK_some, contK_some, condK_f, callOf, callK_eq, callJ_nil, callD_fn, fstep, fpre, fstep0, fbinA, fbin, fbin0, fload, fcell, fstore, evs, T, TI.isAgg, St.ev, St.put, splice, AV.cells, AV.known, AV.flat, AV.owners, ownersAll, List.getD_cons_zero, List.getD_cons_succ, List.set, List.length_cons, List.length_nil, List.all_cons, List.all_nil, List.drop_succ_cons, List.drop_zero, List.take_succ_cons, List.take_zero, List.nil_append, List.append_nil, List.getElem?_cons_zero, List.getElem?_cons_succ, true_and, and_true, Bool.and_true, Bool.true_and, Bool.and_self, ↓reduceIte, Nat.reduceAdd, Nat.reduceLT, Nat.le_refl, Nat.zero_add, bne_self_eq_false]
      skip
      (refine callG_use hu1 rfl ?_; rintro _ rfl)
      try simp (maxSteps := 1000000) only [go_op, opK_none, opK_some, contK_some, callOf, callK_eq, callJ_nil, callD_fn, fstep, fpre, fstep0, evs, St.ev, St.put, AV.owners, ownersAll, List.getD_cons_zero, List.getD_cons_succ, List.set, List.append_nil, true_and, Bool.true_and]
      (refine callG_use hs1 rfl ?_; rintro _ rfl)
      try simp (maxSteps := 1000000) only [go_op, go_guard, opK_none, opK_some, contK_some, guardK_eq, guardV_ff, callOf, callK_eq, callJ_nil, callD_fn, fstep, fpre, fstep0, fload, fcell, funary, evs, T, TI.isAgg, St.ev, St.put, AV.owners, ownersAll, List.getD_cons_zero, List.getD_cons_succ, List.set, List.length_cons, List.length_nil, List.drop_zero, List.take_succ_cons, List.take_zero, List.append_nil, List.getElem?_cons_zero, List.getElem?_cons_succ, Option.bind_some, List.getElem?_toArray, true_and, Bool.true_and, Bool.not_true, ↓reduceIte, Nat.reduceAdd, Nat.le_refl, Nat.zero_add]
      (refine callG_use hu2 rfl ?_; rintro _ rfl)
      try simp (maxSteps := 1000000) only [go_guard, opK_none, opK_some, contK_some, guardK_eq, guardV_ff, callOf, callK_eq, callJ_nil, callD_fn, fstep, fpre, fstep0, evs, St.ev, St.put, AV.owners, ownersAll, List.getD_cons_zero, List.getD_cons_succ, List.set, List.append_nil, List.getElem?_cons_zero, List.getElem?_cons_succ, Option.bind_some, List.getElem?_toArray, true_and, Bool.true_and]
      (refine callG_use hs2 rfl ?_; rintro _ rfl)
      try simp (maxSteps := 1000000) only [go_op, go_guard, opK_none, opK_some, contK_some, guardK_eq, guardV_ff, callOf, callK_eq, callJ_nil, callD_fn, fstep, fpre, fstep0, funary, evs, fpick, St.ev, St.put, AV.owners, ownersAll, List.getD_cons_zero, List.getD_cons_succ, List.set, List.append_nil, List.getElem?_cons_zero, List.getElem?_cons_succ, Option.bind_some, List.getElem?_toArray, true_and, Bool.true_and, Bool.not_true, cond_false]
      (refine callG_use hch rfl ?_; rintro _ rfl)
      try simp (maxSteps := 1000000) only [go_op, go_guard, opK_none, opK_some, contK_some, guardK_eq, guardV_ff, callOf, callK_eq, callJ_nil, callD_fn, fstep, fpre, fstep0, fload, fcell, funary, evs, fpick, T, TI.isAgg, St.ev, St.put, AV.owners, ownersAll, List.getD_cons_zero, List.getD_cons_succ, List.set, List.length_cons, List.length_nil, List.drop_zero, List.take_succ_cons, List.take_zero, List.append_nil, List.getElem?_cons_zero, List.getElem?_cons_succ, Option.bind_some, List.getElem?_toArray, true_and, Bool.true_and, Bool.not_true, ↓reduceIte, Nat.reduceAdd, Nat.le_refl, Nat.zero_add, cond_false]
      (refine callG_use hss rfl ?_; rintro _ rfl)
      try simp (maxSteps := 1000000) only [go_skip, go_region, go_seq, go_cond, go_block, go_loop, go_ops_nil, go_op, go_guard, opK_none, contK_some, condK_f, guardK_eq, guardV_ff, callOf, fstep, fpre, fstep0, funary, fpick, St.ev, St.put, List.getD_cons_zero, List.getD_cons_succ, List.set, List.getElem?_cons_zero, List.getElem?_cons_succ, Option.bind_some, List.getElem?_toArray, true_and, Bool.true_and, Bool.not_true, cond_false]
      refine loopK_rule tyOk (α := Nat) 2 [0, 1, 2, 7, 8, 9, 10, 11, 13, 21, 22] (fun k => k ≤ C.length)
        (fun k => ⟨[.sl 9 (bacts l), i64 most, str user, .any, .any, .any, .any, .ptr 0 0, .sl 5 (usrs B), u64 th, i64 i, .ptr 1 0, .any, .sl 5 (usrs C), .any, .any, .any, .any, .any, .any, .any, i64 (sumL (C.take k) : Nat), i64 k, .any, .any, .any, .any, .any, .any, .any, .any, .any, .any, .any, .any, .any, .any, .any, .any, .any, .any, .any, .any, .any, .any, .any, .any, .any, .any, .any, .any, .any, .any, .any, .any, .any, .any, .any, .any, .any, .any, .any, .any, .any, .any, .any, .any, .any, .any, .any, .any, .any, .any, .any, .any, .any, .any, .any, .any, .any, .any, .any, .any, .any, .any, .any, .any, .any, .any, .any, .any, .any, .any, .any, .any, .any, .any, .any, .any, .any, .any, .any, .any, .any, .any, .any, .any, .any, .any, .any, .any, .any, .any, .any, .any, .any, .any, .any, .any, .any, .any, .any, .any, .any, .any, .any, .any, .any, .any, .any, .any, .any, .any, .any, .any, .any, .any, .any, .any, .any, .any, .any, .any, .any, .any, .any, .any, .any, .any, .any, .any, .any, .any, .any, .any, .any, .any, .any, .any, .any, .any, .any], [ebox B, ebox C]⟩)
        (fun k => C.length - k) 0 (Nat.zero_le _) (Nat.zero_le _) rfl ?_
      intro k hk
      try simp (maxSteps := 1000000) only [go_region, go_seq, go_cond, go_ops_nil, go_op, opK_none, contK_some, callOf, fstep, fpre, fstep0, fbinA, fbin, fbin0, flen, T, St.ev, St.put, List.getD_cons_zero, List.getD_cons_succ, List.set, true_and, Bool.true_and, usrs_len]
      (first | refine guardV_split ?_ ?_ | refine condK_split ?_ ?_ | refine drawV_split ?_ ?_ | refine condY_split ?_ ?_ | refine guardY_split ?_ ?_) <;> intro h5
      · have hlt5 : k < C.length := by simpa using h5
        have eg5 : (usrs C).getD (Int.toNat (k : Int)) .any = .agg [str C[k].1, .sl 4 (avs C[k].2.l), i64 C[k].2.t.st, i64 C[k].2.t.pr, i64 C[k].2.t.n] := at_map hlt5
        have ew5 : IntKind.i64.wrap ((k : Int) + 1) = ((k + 1 : Nat) : Int) := by rw [wrap_i64 (by omega) (by omega)]; rfl
        have c5 : (0 : Int) ≤ (k : Int) ∧ Int.toNat (k : Int) < C.length := by omega
        have hn5 := sum_next hlt5
        have hs5 := sum_le hCok k
        have hel5 := (hCok.2.2 _ (List.getElem_mem hlt5)).2
        have es5 : IntKind.i64.wrap (((sumL (C.take k) : Nat) : Int) + ((C[k].2.l.length : Nat) : Int)) = ((sumL (C.take k) + C[k].2.l.length : Nat) : Int) := by
          have : 200 * k ≤ 200 * 200 := Nat.mul_le_mul_left _ (by omega)
          rw [wrap_i64 (by omega) (by omega)]; rfl
        try simp (maxSteps := 1000000) only [go_nil, go_skip, go_region, go_seq, go_block, go_blk, go_ops_nil, go_op, opK_none, contK_some, condK_t, callOf, fstep, fpre, fstep0, fbinA, fbin, fbin0, fload, fcell, ffieldAddr, findexAddr, flen, T, TI.isAgg, St.ev, St.put, AV.cells, AV.known, List.getD_cons_zero, List.getD_cons_succ, List.set, List.length_cons, List.length_nil, List.drop_succ_cons, List.drop_zero, List.headD_cons, List.getElem?_cons_zero, List.getElem?_cons_succ, List.getElem?_toArray, true_and, and_true, Bool.and_true, Bool.true_and, Bool.false_eq_true, ↓reduceIte, reduceCtorEq, ne_eq, not_false_eq_true, Nat.reduceAdd, Nat.reduceLT, Nat.zero_add, eg5, c5, usrs_len, avs_len, es5, ew5]
        simp only [loopX_normal, St.trunc, St.keep, truncVs, truncV, AB.trunc, keepV, List.elem_cons, List.elem_nil, List.take_succ_cons, List.take_zero, List.map_cons, List.map_nil, Nat.reduceAdd, Nat.reduceBEq, Nat.reduceLeDiff, Nat.zero_add, Bool.false_eq_true, ↓reduceIte]
        exact ⟨k + 1, hlt5, by omega, by rw [hn5]⟩
      · obtain rfl := at_end hk h5
        rw [List.take_length]
        try simp (maxSteps := 1000000) only [go_region, go_seq, go_exit, exitK_code, exitK_blk, exitK_nil, go_op, opK_none, opK_some, contK_some, condK_f, callOf, callK_eq, callJ_nil, callD_fn, fstep, fpre, fstep0, fload, fcell, evs, T, TI.isAgg, St.ev, St.put, AV.owners, ownersAll, List.getD_cons_zero, List.getD_cons_succ, List.set, List.length_cons, List.length_nil, List.drop_zero, List.take_succ_cons, List.take_zero, List.append_nil, List.getElem?_cons_zero, List.getElem?_cons_succ, true_and, Bool.true_and, ↓reduceIte, Nat.reduceAdd, Nat.le_refl, Nat.zero_add, loopX_exit]
        (refine callG_use hst rfl ?_; rintro _ rfl)
        try simp (maxSteps := 1000000) only [go_op, go_guard, opK_none, opK_some, contK_some, guardK_eq, guardV_ff, callOf, callK_eq, callJ_nil, callD_fn, fstep, fpre, fstep0, fbinA, fbin, fbin0, fload, fcell, evs, T, TI.isAgg, St.ev, St.put, AV.owners, ownersAll, List.getD_cons_zero, List.getD_cons_succ, List.set, List.length_cons, List.length_nil, List.drop_zero, List.take_succ_cons, List.take_zero, List.append_nil, List.getElem?_cons_zero, List.getElem?_cons_succ, Option.bind_some, List.getElem?_toArray, true_and, Bool.true_and, ↓reduceIte, Nat.reduceAdd, Nat.le_refl, Nat.zero_add, bne_self_eq_false]
        (refine callG_use hp1 rfl ?_; rintro _ rfl)
        try simp (maxSteps := 1000000) only [go_guard, opK_none, opK_some, contK_some, guardK_eq, guardV_ff, callOf, callK_eq, callJ_nil, callD_fn, fstep, fpre, fstep0, evs, St.ev, St.put, AV.owners, ownersAll, List.getD_cons_zero, List.getD_cons_succ, List.set, List.append_nil, List.getElem?_cons_zero, List.getElem?_cons_succ, Option.bind_some, List.getElem?_toArray, true_and, Bool.true_and]
        (refine callG_use hp2 rfl ?_; rintro _ rfl)
        try simp (maxSteps := 1000000) only [go_op, go_guard, opK_none, opK_some, contK_some, guardK_eq, guardV_ff, callOf, callK_eq, callJ_nil, callD_fn, fstep, fpre, fstep0, fbinA, fbin, fbinS, eqVs, eqV, kOks, kOk, fload, fcell, evs, fpick, T, TI.isAgg, St.ev, St.put, AV.owners, ownersAll, List.getD_cons_zero, List.getD_cons_succ, List.set, List.length_cons, List.length_nil, List.drop_zero, List.take_succ_cons, List.take_zero, List.append_nil, List.getElem?_cons_zero, List.getElem?_cons_succ, Option.bind_some, List.getElem?_toArray, true_and, Bool.true_and, Bool.and_self, Bool.not_true, ↓reduceIte, decide_true, Nat.reduceAdd, Nat.le_refl, Nat.zero_add, cond_false, beq_self_eq_true, eqc28]
        (refine callG_use hsb rfl ?_; rintro _ rfl)
        try simp (maxSteps := 1000000) only [go_guard, opK_none, opK_some, contK_some, guardK_eq, guardV_ff, callOf, callK_eq, callJ_nil, callD_fn, fstep, fpre, fstep0, evs, St.ev, St.put, AV.owners, ownersAll, List.getD_cons_zero, List.getD_cons_succ, List.set, List.append_nil, List.getElem?_cons_zero, List.getElem?_cons_succ, Option.bind_some, List.getElem?_toArray, true_and, Bool.true_and]
        (refine callG_use hsr rfl ?_; rintro _ rfl)
        try simp (maxSteps := 1000000) only [go_nil, go_skip, go_region, go_cond, go_blk, go_ops_nil, go_op, go_guard, opK_none, contK_some, condK_f, guardK_eq, guardV_ff, callOf, fstep, fpre, fstep0, fbinA, fbin, fbin0, fload, fcell, fstore, fpick, isBoolTy, T, TI.isAgg, St.ev, St.put, splice, AV.cells, AV.known, AV.flat, List.getD_cons_zero, List.getD_cons_succ, List.set, List.length_cons, List.length_nil, List.all_cons, List.all_nil, List.drop_succ_cons, List.drop_zero, List.take_succ_cons, List.take_zero, List.nil_append, List.append_nil, List.getElem?_cons_zero, List.getElem?_cons_succ, Option.bind_some, List.getElem?_toArray, true_and, and_true, Bool.and_true, Bool.true_and, Bool.and_self, ↓reduceIte, Nat.reduceAdd, Nat.le_refl, Nat.zero_add, cond_false, bne_self_eq_false]
        try simp (maxSteps := 1000000) only [ew]
        simp only [loopT_normal, St.trunc, St.keep, truncVs, truncV, AB.trunc, keepV, pureAll, AV.pure, Bool.and_self, List.drop_zero, List.elem_cons, List.elem_nil, List.take_succ_cons, List.take_zero, List.map_cons, List.map_nil, List.getElem?_cons_zero, List.getElem?_cons_succ, Nat.reduceAdd, Nat.reduceBEq, Nat.reduceLeDiff, Nat.le_refl, Nat.zero_add, Bool.false_eq_true, ↓reduceIte]
        refine ⟨i + 1, hlt, by omega, ?_⟩
        rw [hnx]
        exact Turns.refl _
    · have e1 : madeF (l.take (i + 1)) most = ((sweepF B th).1, th) := by rw [hnx, madeStep, if_pos hsw, hth]
      have hw1 := sweep_call 120 B th hok (by omega)
      have hw2 := ref08_Sweep 120 B th hok (by omega)
      have hCok := (book_sweep hok th).mono (show 120 ≤ 200 by omega)
      have hcl := sweepC_len B th hok.1
      replace hnx := e1
      clear e1
      obtain ⟨⟨C, X⟩, hCX⟩ : ∃ s, sweepF B th = s := ⟨_, rfl⟩
      rw [hCX] at hw1 hw2 hCok hcl hnx
      simp only at hw1 hw2 hCok hcl hnx
      have hCl := hCok.2.1
      have hu2 := users_call C (by omega)
      have hs2 := ref08_Same C C (by omega) (by omega) (fun p hp => by have := (hCok.2.2 p hp).2; omega) (fun p hp => by have := (hCok.2.2 p hp).2; omega)
      rw [decide_eq_true rfl] at hs2
      have hch := law08_changes X X (by omega) (by omega)
      rw [decide_eq_true rfl] at hch
      have hss := same_call C C (hCok.mono (by omega)) (hCok.mono (by omega))
      rw [decide_eq_true rfl] at hss
      have hst := stored_call C hCok
      have cst : (((sumL C : Nat) : Int) != ((sumL C : Nat) : Int)) = false := by simp
      have hp1 := presence_call 200 C user th hCok (by omega)
      have hp2 := ref08_Presence C user th hCok.1 (by omega) (was_ok hCok user).2
      generalize ofP (wasOf C user).l th = p0 at *
      have cpr : (!decide (p0 = p0)) = false := by simp
      have hsb := same_call B C (hok.mono (by omega)) (hCok.mono (by omega))
      have hsr := ref08_Same B C (by omega) (by omega) (fun p hp => by have := (hok.2.2 p hp).2; omega) (fun p hp => by have := (hCok.2.2 p hp).2; omega)
      generalize decide (B = C) = bc at *
      have csb : (bc != bc) = false := by simp
      unfold map_se at hw1 hu1 hu2 hss hst hp1 hsb
      try simp (maxSteps := 1000000) only [go_region, go_seq, go_op, opK_none, opK_some, contK_some, condK_t, callOf, callK_eq, callJ_nil, callD_fn, fstep, fpre, fstep0, fload, fcell, evs, T, TI.isAgg, St.ev, St.put, AV.owners, ownersAll, List.getD_cons_zero, List.getD_cons_succ, List.set, List.length_cons, List.length_nil, List.drop_zero, List.take_succ_cons, List.take_zero, List.append_nil, List.getElem?_cons_zero, true_and, Bool.true_and, ↓reduceIte, Nat.reduceAdd, Nat.le_refl, Nat.zero_add]
      (refine callG_use hw1 rfl ?_; rintro _ rfl)
      try simp (maxSteps := 1000000) only [go_region, go_ops_nil, go_op, opK_none, opK_some, contK_some, callOf, callK_eq, callJ_nil, callD_fn, fstep, fpre, fstep0, fstore, evs, T, St.ev, St.put, splice, AV.cells, AV.known, AV.flat, AV.owners, ownersAll, List.getD_cons_zero, List.getD_cons_succ, List.set, List.length_cons, List.length_nil, List.all_cons, List.all_nil, List.drop_succ_cons, List.drop_zero, List.take_zero, List.nil_append, List.append_nil, List.getElem?_cons_zero, List.getElem?_cons_succ, true_and, and_true, Bool.and_true, Bool.true_and, Bool.and_self, Nat.reduceAdd, Nat.reduceLT, Nat.le_refl, Nat.zero_add]
      (refine callG_use hw2 rfl ?_; rintro _ rfl)
      try simp (maxSteps := 1000000) only [go_region, go_seq, go_ops_nil, go_op, opK_none, opK_some, contK_some, callOf, callK_eq, callJ_nil, callD_fn, fstep, fpre, fstep0, fload, fcell, evs, T, TI.isAgg, St.ev, St.put, AV.owners, ownersAll, List.getD_cons_zero, List.getD_cons_succ, List.set, List.length_cons, List.length_nil, List.drop_zero, List.take_succ_cons, List.take_zero, List.append_nil, List.getElem?_cons_zero, true_and, Bool.true_and, ↓reduceIte, Nat.reduceAdd, Nat.reduceLT, Nat.le_refl, Nat.zero_add]
      skip
      (refine callG_use hu1 rfl ?_; rintro _ rfl)
      try simp (maxSteps := 1000000) only [go_op, opK_none, opK_some, contK_some, callOf, callK_eq, callJ_nil, callD_fn, fstep, fpre, fstep0, evs, St.ev, St.put, AV.owners, ownersAll, List.getD_cons_zero, List.getD_cons_succ, List.set, List.append_nil, true_and, Bool.true_and]
      (refine callG_use hs1 rfl ?_; rintro _ rfl)
      try simp (maxSteps := 1000000) only [go_op, go_guard, opK_none, opK_some, contK_some, guardK_eq, guardV_ff, callOf, callK_eq, callJ_nil, callD_fn, fstep, fpre, fstep0, fload, fcell, funary, evs, T, TI.isAgg, St.ev, St.put, AV.owners, ownersAll, List.getD_cons_zero, List.getD_cons_succ, List.set, List.length_cons, List.length_nil, List.drop_zero, List.take_succ_cons, List.take_zero, List.append_nil, List.getElem?_cons_zero, List.getElem?_cons_succ, Option.bind_some, List.getElem?_toArray, true_and, Bool.true_and, Bool.not_true, ↓reduceIte, Nat.reduceAdd, Nat.le_refl, Nat.zero_add]
      (refine callG_use hu2 rfl ?_; rintro _ rfl)
      try simp (maxSteps := 1000000) only [go_guard, opK_none, opK_some, contK_some, guardK_eq, guardV_ff, callOf, callK_eq, callJ_nil, callD_fn, fstep, fpre, fstep0, evs, St.ev, St.put, AV.owners, ownersAll, List.getD_cons_zero, List.getD_cons_succ, List.set, List.append_nil, List.getElem?_cons_zero, List.getElem?_cons_succ, Option.bind_some, List.getElem?_toArray, true_and, Bool.true_and]
      (refine callG_use hs2 rfl ?_; rintro _ rfl)
      try simp (maxSteps := 1000000) only [go_op, go_guard, opK_none, opK_some, contK_some, guardK_eq, guardV_ff, callOf, callK_eq, callJ_nil, callD_fn, fstep, fpre, fstep0, funary, evs, fpick, St.ev, St.put, AV.owners, ownersAll, List.getD_cons_zero, List.getD_cons_succ, List.set, List.append_nil, List.getElem?_cons_zero, List.getElem?_cons_succ, Option.bind_some, List.getElem?_toArray, true_and, Bool.true_and, Bool.not_true, cond_false]
      (refine callG_use hch rfl ?_; rintro _ rfl)
      try simp (maxSteps := 1000000) only [go_op, go_guard, opK_none, opK_some, contK_some, guardK_eq, guardV_ff, callOf, callK_eq, callJ_nil, callD_fn, fstep, fpre, fstep0, fload, fcell, funary, evs, fpick, T, TI.isAgg, St.ev, St.put, AV.owners, ownersAll, List.getD_cons_zero, List.getD_cons_succ, List.set, List.length_cons, List.length_nil, List.drop_zero, List.take_succ_cons, List.take_zero, List.append_nil, List.getElem?_cons_zero, List.getElem?_cons_succ, Option.bind_some, List.getElem?_toArray, true_and, Bool.true_and, Bool.not_true, ↓reduceIte, Nat.reduceAdd, Nat.le_refl, Nat.zero_add, cond_false]
      (refine callG_use hss rfl ?_; rintro _ rfl)
      try simp (maxSteps := 1000000) only [go_skip, go_region, go_seq, go_cond, go_block, go_loop, go_ops_nil, go_op, go_guard, opK_none, contK_some, condK_f, guardK_eq, guardV_ff, callOf, fstep, fpre, fstep0, funary, fpick, St.ev, St.put, List.getD_cons_zero, List.getD_cons_succ, List.set, List.getElem?_cons_zero, List.getElem?_cons_succ, Option.bind_some, List.getElem?_toArray, true_and, Bool.true_and, Bool.not_true, cond_false]
      refine loopK_rule tyOk (α := Nat) 2 [0, 1, 2, 7, 8, 9, 10, 11, 13, 21, 22] (fun k => k ≤ C.length)
        (fun k => ⟨[.sl 9 (bacts l), i64 most, str user, .any, .any, .any, .any, .ptr 0 0, .sl 5 (usrs B), u64 th, i64 i, .ptr 1 0, .any, .sl 5 (usrs C), .any, .any, .any, .any, .any, .any, .any, i64 (sumL (C.take k) : Nat), i64 k, .any, .any, .any, .any, .any, .any, .any, .any, .any, .any, .any, .any, .any, .any, .any, .any, .any, .any, .any, .any, .any, .any, .any, .any, .any, .any, .any, .any, .any, .any, .any, .any, .any, .any, .any, .any, .any, .any, .any, .any, .any, .any, .any, .any, .any, .any, .any, .any, .any, .any, .any, .any, .any, .any, .any, .any, .any, .any, .any, .any, .any, .any, .any, .any, .any, .any, .any, .any, .any, .any, .any, .any, .any, .any, .any, .any, .any, .any, .any, .any, .any, .any, .any, .any, .any, .any, .any, .any, .any, .any, .any, .any, .any, .any, .any, .any, .any, .any, .any, .any, .any, .any, .any, .any, .any, .any, .any, .any, .any, .any, .any, .any, .any, .any, .any, .any, .any, .any, .any, .any, .any, .any, .any, .any, .any, .any, .any, .any, .any, .any, .any, .any, .any, .any, .any, .any, .any, .any, .any], [ebox B, ebox C]⟩)
        (fun k => C.length - k) 0 (Nat.zero_le _) (Nat.zero_le _) rfl ?_
      intro k hk
      try simp (maxSteps := 1000000) only [go_region, go_seq, go_cond, go_ops_nil, go_op, opK_none, contK_some, callOf, fstep, fpre, fstep0, fbinA, fbin, fbin0, flen, T, St.ev, St.put, List.getD_cons_zero, List.getD_cons_succ, List.set, true_and, Bool.true_and, usrs_len]
      (first | refine guardV_split ?_ ?_ | refine condK_split ?_ ?_ | refine drawV_split ?_ ?_ | refine condY_split ?_ ?_ | refine guardY_split ?_ ?_) <;> intro h5
      · have hlt5 : k < C.length := by simpa using h5
        have eg5 : (usrs C).getD (Int.toNat (k : Int)) .any = .agg [str C[k].1, .sl 4 (avs C[k].2.l), i64 C[k].2.t.st, i64 C[k].2.t.pr, i64 C[k].2.t.n] := at_map hlt5
        have ew5 : IntKind.i64.wrap ((k : Int) + 1) = ((k + 1 : Nat) : Int) := by rw [wrap_i64 (by omega) (by omega)]; rfl
        have c5 : (0 : Int) ≤ (k : Int) ∧ Int.toNat (k : Int) < C.length := by omega
        have hn5 := sum_next hlt5
        have hs5 := sum_le hCok k
        have hel5 := (hCok.2.2 _ (List.getElem_mem hlt5)).2
        have es5 : IntKind.i64.wrap (((sumL (C.take k) : Nat) : Int) + ((C[k].2.l.length : Nat) : Int)) = ((sumL (C.take k) + C[k].2.l.length : Nat) : Int) := by
          have : 200 * k ≤ 200 * 200 := Nat.mul_le_mul_left _ (by omega)
          rw [wrap_i64 (by omega) (by omega)]; rfl
        try simp (maxSteps := 1000000) only [go_nil, go_skip, go_region, go_seq, go_block, go_blk, go_ops_nil, go_op, opK_none, contK_some, condK_t, callOf, fstep, fpre, fstep0, fbinA, fbin, fbin0, fload, fcell, ffieldAddr, findexAddr, flen, T, TI.isAgg, St.ev, St.put, AV.cells, AV.known, List.getD_cons_zero, List.getD_cons_succ, List.set, List.length_cons, List.length_nil, List.drop_succ_cons, List.drop_zero, List.headD_cons, List.getElem?_cons_zero, List.getElem?_cons_succ, List.getElem?_toArray, true_and, and_true, Bool.and_true, Bool.true_and, Bool.false_eq_true, ↓reduceIte, reduceCtorEq, ne_eq, not_false_eq_true, Nat.reduceAdd, Nat.reduceLT, Nat.zero_add, eg5, c5, usrs_len, avs_len, es5, ew5]
        simp only [loopX_normal, St.trunc, St.keep, truncVs, truncV, AB.trunc, keepV, List.elem_cons, List.elem_nil, List.take_succ_cons, List.take_zero, List.map_cons, List.map_nil, Nat.reduceAdd, Nat.reduceBEq, Nat.reduceLeDiff, Nat.zero_add, Bool.false_eq_true, ↓reduceIte]
        exact ⟨k + 1, hlt5, by omega, by rw [hn5]⟩
      · obtain rfl := at_end hk h5
        rw [List.take_length]
        try simp (maxSteps := 1000000) only [go_region, go_seq, go_exit, exitK_code, exitK_blk, exitK_nil, go_op, opK_none, opK_some, contK_some, condK_f, callOf, callK_eq, callJ_nil, callD_fn, fstep, fpre, fstep0, fload, fcell, evs, T, TI.isAgg, St.ev, St.put, AV.owners, ownersAll, List.getD_cons_zero, List.getD_cons_succ, List.set, List.length_cons, List.length_nil, List.drop_zero, List.take_succ_cons, List.take_zero, List.append_nil, List.getElem?_cons_zero, List.getElem?_cons_succ, true_and, Bool.true_and, ↓reduceIte, Nat.reduceAdd, Nat.le_refl, Nat.zero_add, loopX_exit]
        (refine callG_use hst rfl ?_; rintro _ rfl)
        try simp (maxSteps := 1000000) only [go_op, go_guard, opK_none, opK_some, contK_some, guardK_eq, guardV_ff, callOf, callK_eq, callJ_nil, callD_fn, fstep, fpre, fstep0, fbinA, fbin, fbin0, fload, fcell, evs, T, TI.isAgg, St.ev, St.put, AV.owners, ownersAll, List.getD_cons_zero, List.getD_cons_succ, List.set, List.length_cons, List.length_nil, List.drop_zero, List.take_succ_cons, List.take_zero, List.append_nil, List.getElem?_cons_zero, List.getElem?_cons_succ, Option.bind_some, List.getElem?_toArray, true_and, Bool.true_and, ↓reduceIte, Nat.reduceAdd, Nat.le_refl, Nat.zero_add, bne_self_eq_false]
        (refine callG_use hp1 rfl ?_; rintro _ rfl)
        try simp (maxSteps := 1000000) only [go_guard, opK_none, opK_some, contK_some, guardK_eq, guardV_ff, callOf, callK_eq, callJ_nil, callD_fn, fstep, fpre, fstep0, evs, St.ev, St.put, AV.owners, ownersAll, List.getD_cons_zero, List.getD_cons_succ, List.set, List.append_nil, List.getElem?_cons_zero, List.getElem?_cons_succ, Option.bind_some, List.getElem?_toArray, true_and, Bool.true_and]
        (refine callG_use hp2 rfl ?_; rintro _ rfl)
        try simp (maxSteps := 1000000) only [go_op, go_guard, opK_none, opK_some, contK_some, guardK_eq, guardV_ff, callOf, callK_eq, callJ_nil, callD_fn, fstep, fpre, fstep0, fbinA, fbin, fbinS, eqVs, eqV, kOks, kOk, fload, fcell, evs, fpick, T, TI.isAgg, St.ev, St.put, AV.owners, ownersAll, List.getD_cons_zero, List.getD_cons_succ, List.set, List.length_cons, List.length_nil, List.drop_zero, List.take_succ_cons, List.take_zero, List.append_nil, List.getElem?_cons_zero, List.getElem?_cons_succ, Option.bind_some, List.getElem?_toArray, true_and, Bool.true_and, Bool.and_self, Bool.not_true, ↓reduceIte, decide_true, Nat.reduceAdd, Nat.le_refl, Nat.zero_add, cond_false, beq_self_eq_true, eqc28]
        (refine callG_use hsb rfl ?_; rintro _ rfl)
        try simp (maxSteps := 1000000) only [go_guard, opK_none, opK_some, contK_some, guardK_eq, guardV_ff, callOf, callK_eq, callJ_nil, callD_fn, fstep, fpre, fstep0, evs, St.ev, St.put, AV.owners, ownersAll, List.getD_cons_zero, List.getD_cons_succ, List.set, List.append_nil, List.getElem?_cons_zero, List.getElem?_cons_succ, Option.bind_some, List.getElem?_toArray, true_and, Bool.true_and]
        (refine callG_use hsr rfl ?_; rintro _ rfl)
        try simp (maxSteps := 1000000) only [go_nil, go_skip, go_region, go_cond, go_blk, go_ops_nil, go_op, go_guard, opK_none, contK_some, condK_f, guardK_eq, guardV_ff, callOf, fstep, fpre, fstep0, fbinA, fbin, fbin0, fload, fcell, fstore, fpick, isBoolTy, T, TI.isAgg, St.ev, St.put, splice, AV.cells, AV.known, AV.flat, List.getD_cons_zero, List.getD_cons_succ, List.set, List.length_cons, List.length_nil, List.all_cons, List.all_nil, List.drop_succ_cons, List.drop_zero, List.take_succ_cons, List.take_zero, List.nil_append, List.append_nil, List.getElem?_cons_zero, List.getElem?_cons_succ, Option.bind_some, List.getElem?_toArray, true_and, and_true, Bool.and_true, Bool.true_and, Bool.and_self, ↓reduceIte, Nat.reduceAdd, Nat.le_refl, Nat.zero_add, cond_false, bne_self_eq_false]
        try simp (maxSteps := 1000000) only [ew]
        simp only [loopT_normal, St.trunc, St.keep, truncVs, truncV, AB.trunc, keepV, pureAll, AV.pure, Bool.and_self, List.drop_zero, List.elem_cons, List.elem_nil, List.take_succ_cons, List.take_zero, List.map_cons, List.map_nil, List.getElem?_cons_zero, List.getElem?_cons_succ, Nat.reduceAdd, Nat.reduceBEq, Nat.reduceLeDiff, Nat.le_refl, Nat.zero_add, Bool.false_eq_true, ↓reduceIte]
        refine ⟨i + 1, hlt, by omega, ?_⟩
        rw [hnx]
        exact Turns.refl _
  · obtain rfl := at_end hi h
    try simp (maxSteps := 1000000) only [go_region, go_seq, go_exit, go_ret, exitK_code, exitK_blk, exitK_nil, go_ops_nil, go_op, opK_none, contK_some, condK_f, callOf, fstep, fpre, fstep0, St.ev, St.put, List.set, true_and, Bool.true_and, ↓reduceIte, loopT_exit]
    apply hK
    simp only [Try.results13, retK, ares, Bool.and_true, Bool.true_and, AV.ofResults, St.trunc, truncVs, truncV, List.getD_cons_zero, List.getD_cons_succ, List.take_zero, List.map_nil, true_and, and_true, List.cons.injEq, exists_eq_left']
def shapesBookPlays : List (Bool × List Lf) := [(false, [.sl 9 true [.bool, .int .i64, .str, .int .i64, .int .i64, .int .i64, .int .u64, .sl 1 false [.str], .int .u64]]), (false, [.int .i64]), (false, [.str])]
theorem shapesBookPlays_ok : argShapes T 6 [65, 3, 9] = some shapesBookPlays := by kernel_rfl
theorem law_BookPlays (xs : List AV) (h : argsFit shapesBookPlays xs) : PCall P 13 xs (fun x => x = .v (.bool true)) := by
  obtain ⟨_, _, rfl, ⟨_, _, rfl, ⟨ys, rfl, hlen, hys⟩, rfl⟩, _, _, rfl, ⟨_, _, rfl, ⟨most, rfl, _⟩, rfl⟩, _, _, rfl, ⟨_, _, rfl, ⟨u, rfl, _⟩, rfl⟩, rfl⟩ := h
  obtain ⟨l, rfl, hby⟩ := fits_bacts2 hys
  rw [bacts_len] at hlen
  exact law_plays l most u hlen
end Go.Proofs.Ytljgfapbbhbbpaa
namespace Go.Proofs.Ytljgfapbbhbbpaa.bookPlays
open Go.ChangeShapes Go.WideShapes Go.ChangeAt Go.RowKit Go.Proofs.Ytljgfapbbhbbpaa.Sym
open Go.ChangeMaps (open_string shut_string)
set_option linter.unusedVariables false
theorem own : ownKnob Try.prog.godebug = none := by kernel_rfl
theorem laidOut : laidOutB Try.prog = true := by kernel_rfl
set_option maxRecDepth 100000 in
theorem lifted (os : Os) (started : os.Started) (H : Type) (enc : TypeId × Value → H) :
    ReturnsInHanded {} Try.checked os 13 .any (Rows.bookPlaysSpec.pre6 enc Try.prog Try.f13 Rows.bookPlaysRow.domain false) (Rows.bookPlaysSpec.post enc Try.prog Try.f13 false true false false) := by
  refine returnsInHanded_of_change_sized (C := Try.checked) own started (by kernel_rfl) Try.func13
    (ChangeSpec.witness6 (enc := enc) (C := Try.checked) false ⟨#[], #[.slice none 0 0, .int .i64 0, .string .empty], []⟩ 8 (by kernel_rfl) (by kernel_rfl) (by kernel_rfl) (by kernel_rfl)) ?_
  intro W base args ds gs before hval0 hW hcnd hsz0 _
  have hval : ∀ (j : Nat) t v, Try.f13.params[j]? = some t → args[j]? = some v → Value.okWide Try.prog W .any base t v := hval0
  have hW' := hW
  obtain ⟨p, q, hA0, hV, rfl, hfz, hnd⟩ := hW
  have hA : DataW.TrodAll enc Try.prog W 0 (fun _ => true) true Try.f13.params.toList args.toList ds p := hA0
  have hval2 : ∀ (j : Nat) t v, Try.f13.params.toList[j]? = some t → args.toList[j]? = some v → Value.okWide Try.prog W .any base t v := fun j t v h1 h2 => hval j t v (by simpa using h1) (by simpa using h2)
  rw [Try.params13] at hA hval2
  obtain ⟨xs, hfit, hrel⟩ := open_args tyOk _ _ _ _ _ shapesBookPlays_ok hval2 hA
  obtain ⟨v0, vs0, d0, ds0, p0, q0, hargs, rfl, rfl, h0, r0⟩ := trodAll_cons hA
  obtain ⟨v1, vs1, d1, ds1, p1, q1, rfl, rfl, rfl, h1, r1⟩ := trodAll_cons r0
  obtain ⟨v2, vs2, d2, ds2, p2, q2, rfl, rfl, rfl, h2, r2⟩ := trodAll_cons r1
  obtain ⟨rfl, rfl, rfl⟩ := trodAll_nil r2
  obtain rfl : args = #[v0, v1, v2] := by cases args; simp_all
  obtain ⟨rfl, rfl⟩ := trodVars_none hV
  have k0 := h0
  have lt0 : ∀ x ∈ p0, x.block < W.heap.size := by obtain ⟨m, hm⟩ := k0; exact DataW.trod_lt m _ _ _ hm
  have k1 := h1
  have lt1 : ∀ x ∈ p1, x.block < W.heap.size := by obtain ⟨m, hm⟩ := k1; exact DataW.trod_lt m _ _ _ hm
  have k2 := h2
  have lt2 : ∀ x ∈ p2, x.block < W.heap.size := by obtain ⟨m, hm⟩ := k2; exact DataW.trod_lt m _ _ _ hm
  clear hA0 hval0 hsz0 hval hval2
  refine (PCall.calls (law_BookPlays xs hfit) hrel (fun _ _ h => by cases h)).mono ?_
  rintro e W' ⟨y, x, rfl, rfl, hy, bel⟩
  obtain rfl := hy _ rfl
  exact ⟨_, rfl, _, _, _, [], _, [], hW', trodAll_mk1 (shut_bool Try.underlying4 _), (trodAll_cons_mk (Below.trod laidOut (by kernel_rfl) (of_decide_eq_true (by kernel_rfl)) k0 bel lt0) (trodAll_cons_mk (Below.trod laidOut (by kernel_rfl) (of_decide_eq_true (by kernel_rfl)) k1 bel lt1) (trodAll_cons_mk (Below.trod laidOut (by kernel_rfl) (of_decide_eq_true (by kernel_rfl)) k2 bel lt2) trodAll_mk0))), rfl, bel.frame _, fun h => by cases h⟩
theorem over : Rows.bookPlaysRow.holds Try.pinned (OpenSpec.ofChange Rows.bookPlaysSpec) :=
  OpenClaim.holds_of_wide 13 Try.f13 rfl rfl rfl rfl rfl rfl rfl ⟨rfl, rfl, rfl, rfl, rfl⟩ rfl rfl rfl rfl rfl (by kernel_rfl) Try.func13 (by kernel_rfl)
    (of_decide_eq_true (by kernel_rfl)) (by unfold Func.isWrapper; first | (rw [if_pos (by decide +kernel)]; kernel_rfl) | (rw [if_neg (by decide +kernel)]; exact ⟨rfl, rfl⟩))
    (fun os started H enc _ => lifted os started H enc)
theorem proved : Rows.BookPlaysSaid := over
#print axioms proved
end Go.Proofs.Ytljgfapbbhbbpaa.bookPlays
namespace Go.Proofs.Ytljgfapbbhbbpaa
/-- The row, under a short name, for the claim. -/
theorem bookPlays_holds : Rows.BookPlaysSaid := bookPlays.proved
end Go.Proofs.Ytljgfapbbhbbpaa
