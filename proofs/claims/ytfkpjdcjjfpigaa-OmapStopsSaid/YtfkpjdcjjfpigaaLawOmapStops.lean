/- OmapStops. -/
import Derived.Test.YtfkpjdcjjfpigaaOmap
namespace Go.Proofs.Ytfkpjdcjjfpigaa
open Go Go.Proofs.Ytfkpjdcjjfpigaa.Sym
set_option maxRecDepth 100000
set_option linter.unusedSimpArgs false
set_option linter.unusedVariables false

theorem stops_yield (stop : Int) (h0 : 0 ≤ stop ∧ stop ≤ 255) (xs ys : List AV) (k : ByteArray) (v : Int) (n : Nat) (hn : n ≤ 1000) :
    ACallN P 3 17 [.box [.v (.int .u8 stop)], .box [.sl 1 xs, .sl 1 ys], .box [i64 n]] [str k, i64 v, .ptr 2 0, .ptr 0 0]
      (fun r m' => r = bool (decide (((n + 1 : Nat) : Int) < stop)) ∧ m' = [.box [.v (.int .u8 stop)], .box [.sl 1 xs, .sl 1 ys], .box [i64 (n + 1 : Nat)]]) := by
  refine acallN_go tyOk Try.func17 rfl rfl (by simp) ?_
  intro K hK
  simp only [Try.ntmps17, List.length_cons, List.length_nil, Nat.reduceAdd, Nat.reduceSub, List.replicate, List.cons_append, List.nil_append]
  have ew : IntKind.i64.wrap stop = stop := wrap_i64 (by omega) (by omega)
  have ew2 : IntKind.i64.wrap ((n : Int) + 1) = ((n + 1 : Nat) : Int) := by rw [wrap_i64 (by omega) (by omega)]; rfl
  try simp (maxSteps := 1000000) only [go_region, go_seq, go_ret, go_ops_nil, go_op, opK_none, contK_some, callOf, fstep, fpre, fstep0, fbinA, fbin, fbin0, fload, fcell, fstore, fconvA, fconvert, T, TI.isAgg, St.ev, St.put, splice, AV.cells, AV.known, AV.flat, Value.cells, Value.oneCell', List.getD_cons_zero, List.getD_cons_succ, List.set, List.map_cons, List.map_nil, List.length_cons, List.length_nil, List.all_cons, List.all_nil, List.drop_succ_cons, List.drop_zero, List.take_zero, List.headD_cons, List.nil_append, List.append_nil, List.getElem?_cons_zero, List.getElem?_cons_succ, true_and, and_true, Bool.and_true, Bool.true_and, Bool.and_self, Bool.false_eq_true, ↓reduceIte, Nat.reduceLT, Nat.le_refl, Nat.zero_add, ew, ew2]
  apply hK
  simp only [Try.results17, retK, ares, List.take_nil, Bool.and_true, AV.ofResults, St.trunc, truncVs, truncV, AB.trunc, List.getD_cons_zero, List.getD_cons_succ, List.take_succ_cons, List.map_nil, List.map_cons, List.length_cons, List.length_nil, Nat.reduceAdd, and_true, List.cons.injEq, exists_eq_left']

theorem law_stops (l : List ActO) (hl : l.length ≤ maxLen) (hs : ∀ a ∈ l, a.k.size ≤ maxLen) (stop : Int) (hst0 : 0 ≤ stop ∧ stop ≤ 255) :
    PCall P 3 [.sl 3 (acts l), .v (.int .u8 stop)] (fun x => x = .v (.bool true)) := by
  refine pcall_go tyOk Try.func3 rfl rfl ?_
  intro K hK
  simp only [Try.ntmps3, List.length_cons, List.length_nil, Nat.reduceAdd, Nat.reduceSub, List.replicate, List.cons_append, List.nil_append]
  have ews : IntKind.i64.wrap stop = stop := wrap_i64 (by omega) (by omega)
  try simp (maxSteps := 1000000) only [go_region, go_seq, go_ops_nil, go_op, opK_none, opK_some, contK_some, callOf, callK_eq, callJ_nil, callD_fn, fstep, fpre, fstep0, evs, St.ev, St.put, AV.cells, AV.known, ownersAll, Value.cells, List.getD_cons_zero, List.getD_cons_succ, List.set, List.map_cons, List.map_nil, List.length_nil, List.nil_append, List.append_nil, true_and, Bool.true_and]
  (refine callG_use law04_awake rfl ?_; rintro _ rfl)
  try simp (maxSteps := 1000000) only [go_op, go_guard, opK_none, opK_some, contK_some, guardK_eq, guardV_ff, callOf, callK_eq, callJ_nil, callD_fn, fstep, fpre, fstep0, funary, evs, St.ev, St.put, AV.owners, ownersAll, List.getD_cons_zero, List.getD_cons_succ, List.set, List.append_nil, List.getElem?_cons_zero, List.getElem?_cons_succ, Option.bind_some, List.getElem?_toArray, true_and, Bool.true_and, Bool.not_true]
  (refine callG_use (law04_long l hl hs) rfl ?_; rintro _ rfl)
  try simp (maxSteps := 1000000) only [go_cond, go_ops_nil, go_op, opK_none, contK_some, callOf, fstep, fpre, fstep0, fpick, St.ev, St.put, List.getD_cons_zero, List.getD_cons_succ, List.set, true_and, Bool.true_and, cond_false]
  (first | refine guardV_split ?_ ?_ | refine condK_split ?_ ?_ | refine drawV_split ?_ ?_ | refine condY_split ?_ ?_ | refine guardY_split ?_ ?_) <;> intro h0
  · try simp (maxSteps := 1000000) only [go_region, go_seq, go_op, opK_some, condK_t, callOf, callK_eq, callJ_nil, callD_fn, evs, St.ev, ownersAll, List.append_nil]
    (refine callG_use law04_awake rfl ?_; rintro _ rfl)
    try simp (maxSteps := 1000000) only [go_ret, go_ops_nil, go_op, opK_none, contK_some, callOf, fstep, fpre, fstep0, St.ev, St.put, List.getD_cons_zero, List.getD_cons_succ, List.set, true_and, Bool.true_and]
    apply hK
    simp only [Try.results3, retK, ares, Bool.and_true, Bool.true_and, AV.ofResults, St.trunc, truncVs, truncV, List.getD_cons_zero, List.getD_cons_succ, List.take_zero, List.map_nil, true_and, and_true, List.cons.injEq, exists_eq_left']
  · have hlen := long_few h0
    try simp (maxSteps := 1000000) only [go_skip, go_region, go_seq, go_block, go_loop, go_ops_nil, go_op, opK_none, contK_some, condK_f, callOf, fstep, fpre, fstep0, T, St.ev, St.put, List.set, List.map_cons, List.map_nil, List.length_cons, List.length_nil, List.cons_append, List.nil_append, true_and, Bool.true_and, Nat.zero_add]
    refine loopK_ruleT tyOk (α := Nat) 2 [0, 3, 5, 6] (fun i => i ≤ l.length)
      (fun i => ⟨[.sl 3 (acts l), .any, .any, .ptr 0 0, .any, .ptr 1 0, i64 i, .any, .any, .any, .any, .any, .any, .any, .any, .any, .any, .any, .any, .any, .any, .any, .any, .any, .any, .any, .any, .any, .any, .any, .any, .any, .any, .any, .any, .any, .any, .any, .any, .any, .any, .any, .any, .any, .any], [.box [.v (.int .u8 stop)], .box [.sl 1 ((putsF (l.take i)).map fun p => str p.1), .sl 1 ((putsF (l.take i)).map fun p => i64 p.2)]]⟩)
      (fun i => l.length - i) 0 (Nat.zero_le _) (Nat.zero_le _) (Turns.weak (weaks_refl _) ⟨_, _, rfl, weakB_refl _, _, _, rfl, ⟨_, rfl, _, _, rfl, weak_nil 1, _, _, rfl, weak_nil 1, rfl⟩, rfl⟩) ?_
    intro i hi
    have hput := puts_ok (l.take i)
    have hpl : (putsF (l.take i)).length ≤ 200 := by have := hput.2; rw [List.length_take] at this; omega
    try simp (maxSteps := 1000000) only [go_region, go_seq, go_cond, go_ops_nil, go_op, opK_none, contK_some, callOf, fstep, fpre, fstep0, fbinA, fbin, fbin0, flen, T, St.ev, St.put, List.getD_cons_zero, List.getD_cons_succ, List.set, true_and, Bool.true_and, acts_len]
    (first | refine guardV_split ?_ ?_ | refine condK_split ?_ ?_ | refine drawV_split ?_ ?_ | refine condY_split ?_ ?_ | refine guardY_split ?_ ?_) <;> intro h
    · obtain ⟨hlt, eg, ew, c1⟩ := at_idx (by omega) h
      try simp (maxSteps := 1000000) only [go_skip, go_seq, go_block, go_draws, condK_t]
      refine draw_rule tyOk (by rfl) (by simp only [List.length_cons, List.length_nil, Nat.reduceAdd, Nat.zero_le]) (by kernel_rfl) rfl ?_
      try simp (maxSteps := 1000000) only [callOf, fstep0, newF, fload, fcell, ffieldAddr, findexAddr, evs, T, TI.isAgg, St.ev, St.put, AV.cells, AV.known, List.getD_cons_zero, List.getD_cons_succ, List.set, List.length_cons, List.length_nil, List.drop_succ_cons, List.drop_zero, List.take_succ_cons, List.take_zero, List.headD_cons, List.append_nil, List.getElem?_cons_zero, List.getElem?_cons_succ, List.replicate, List.getElem?_toArray, true_and, and_true, Bool.and_true, Bool.true_and, Bool.or_false, Bool.false_eq_true, ↓reduceIte, reduceCtorEq, ne_eq, not_false_eq_true, Nat.reduceAdd, Nat.reduceLT, Nat.le_refl, Nat.add_zero, Nat.zero_add, Nat.reduceBEq, newCount, drawR_op, drawP_none, drawP_some, drawQ_some, drawH_fn, dstep, isFree, St.app, bump, isNew, eg, c1, acts_len]
      refine drawCall_use (with_call_si (putsF (l.take i)) l[i].k l[i].v hput.1 (by omega)) rfl ?_
      rw [← puts_next hlt]
      try simp (maxSteps := 1000000) only [go_nil, go_region, go_blk, go_ops_nil, go_op, opK_none, contK_some, callOf, fstep, fpre, fstep0, fbinA, newF, fbin, fbin0, T, St.ev, St.put, splice, AV.cells, AV.known, AV.flat, List.getD_cons_zero, List.getD_cons_succ, List.set, List.length_cons, List.length_nil, List.all_cons, List.all_nil, List.drop_succ_cons, List.drop_zero, List.take_zero, List.nil_append, List.append_nil, List.getElem?_cons_zero, List.getElem?_cons_succ, true_and, and_true, Bool.and_true, Bool.true_and, Bool.and_self, Bool.or_false, Bool.false_eq_true, ↓reduceIte, Nat.reduceAdd, Nat.le_refl, Nat.zero_add, Nat.reduceBEq, drawR_nil, drawR_op, drawP_none, drawQ_some, dstep, isFree, dstore, St.app, bump, isNew, map_si]
      refine ⟨by kernel_rfl, ?_⟩
      try simp (maxSteps := 1000000) only [ew]
      simp only [loopT_normal, St.trunc, St.keep, truncVs, truncV, AB.trunc, keepV, List.elem_cons, List.elem_nil, List.take_succ_cons, List.take_zero, List.map_cons, List.map_nil, Nat.reduceAdd, Nat.reduceBEq, Nat.reduceLeDiff, Nat.zero_add, Bool.false_eq_true, ↓reduceIte]
      exact ⟨i + 1, hlt, by omega, Turns.refl _⟩
    · try simp (maxSteps := 1000000) only [go_region, go_seq, go_exit, exitK_code, exitK_blk, exitK_nil, go_ops_nil, go_op, opK_none, opK_some, contK_some, condK_f, callOf, callK_eq, callJ_nil, callD_fn, fstep, fpre, fstep0, fload, fcell, fstore, evs, T, TI.isAgg, St.ev, St.put, splice, AV.cells, AV.known, AV.flat, AV.owners, ownersAll, Value.cells, Value.oneCell', List.getD_cons_zero, List.getD_cons_succ, List.set, List.map_cons, List.map_nil, List.length_cons, List.length_nil, List.all_cons, List.all_nil, List.drop_succ_cons, List.drop_zero, List.take_succ_cons, List.take_zero, List.cons_append, List.nil_append, List.append_nil, List.getElem?_cons_zero, List.getElem?_cons_succ, true_and, and_true, Bool.and_true, Bool.true_and, Bool.and_self, ↓reduceIte, Nat.reduceAdd, Nat.le_refl, Nat.zero_add, loopT_exit]
      obtain rfl := at_end hi h
      rw [List.take_length] at hput hpl ⊢
      generalize hM : putsF l = M at *
      have hall := all_call_si M
      unfold map_si at hall
      (refine callG_use hall rfl ?_; rintro _ rfl)
      try simp (maxSteps := 1000000) only [go_op, opK_none, opK_some, contK_some, callOf, callK_eq, callJ_nil, callD_fn, fstep, fpre, fstep0, evs, St.ev, St.put, AV.owners, ownersAll, List.getD_cons_zero, List.getD_cons_succ, List.set, List.length_nil, List.cons_append, List.nil_append, List.append_nil, List.size_toArray, true_and, Bool.true_and]
      refine callG_turnN (N := 3) (Nat.zero_le _) (Turns.refl _) ?_
      refine acall_iter (seq_si M (by omega)) (fun xs (i : Nat) => i = xs.length ∧ (i = 0 ∨ (i : Int) < stop)) (fun i => [.box [.v (.int .u8 stop)], .box [.sl 1 (M.map fun p => str p.1), .sl 1 (M.map fun p => i64 p.2)], .box [i64 i]])
        (fun xs m' => (xs.length : Int) = (if stop < 1 then 1 else stop) ∧ m' = [.box [.v (.int .u8 stop)], .box [.sl 1 (M.map fun p => str p.1), .sl 1 (M.map fun p => i64 p.2)], .box [i64 (xs.length : Nat)]]) 0 rfl ⟨rfl, .inl rfl⟩ rfl rfl ?_ ?_ ?_
      · rintro xs x _ hpre ⟨rfl, hst⟩
        obtain ⟨hi, _, rfl⟩ := prefix_next hpre
        refine (stops_yield stop hst0 _ _ _ _ xs.length (by omega)).mono ?_
        rintro r m' ⟨rfl, rfl⟩
        cases hd : decide (((xs.length + 1 : Nat) : Int) < stop) with
        | true =>
          have hd' : ((xs.length + 1 : Nat) : Int) < stop := by simpa using hd
          exact .inl ⟨rfl, xs.length + 1, ⟨by simp, .inr hd'⟩, rfl⟩
        | false =>
          have hd' : ¬ ((xs.length + 1 : Nat) : Int) < stop := by simpa using hd
          refine .inr ⟨rfl, ?_, by simp⟩
          rw [List.length_append, List.length_singleton]
          split <;> omega
      · rintro _ ⟨rfl, hst⟩
        have hpl2 : (pairs_si M).length = M.length := by rw [pairs_si, List.length_map]
        rw [hpl2] at hst ⊢
        have hmin : (M.length : Int) = (if (if stop < 1 then 1 else stop) < (M.length : Int) then (if stop < 1 then 1 else stop) else (M.length : Int)) := by split <;> split <;> omega
        try simp (maxSteps := 1000000) only [go_seq, go_draws, go_ops_nil, St.put, cutVs, cutV, bks, bksAll, List.set, List.all_cons, List.all_nil, List.cons_append, List.nil_append, List.append_nil, Bool.and_self, ↓reduceIte, decide_true, Nat.reduceLT]
        refine draw_rule tyOk (by rfl) (by simp only [List.length_cons, List.length_nil, Nat.reduceAdd, Nat.zero_le]) (by kernel_rfl) rfl ?_
        try simp (maxSteps := 1000000) only [callOf, newF, fload, fcell, evs, T, TI.isAgg, St.ev, St.put, List.getD_cons_zero, List.getD_cons_succ, List.set, List.length_cons, List.length_nil, List.drop_zero, List.take_succ_cons, List.take_zero, List.headD_cons, List.append_nil, List.getElem?_cons_zero, List.getElem?_cons_succ, List.replicate, true_and, Bool.true_and, Bool.or_false, Bool.false_eq_true, ↓reduceIte, Nat.reduceAdd, Nat.reduceLT, Nat.le_refl, Nat.add_zero, Nat.zero_add, Nat.reduceBEq, newCount, drawR_op, drawP_none, drawP_some, drawQ_some, drawH_fn, dstep, isFree, St.app, bump, isNew]
        refine drawCall_use (len_call_si M) rfl ?_
        try simp (maxSteps := 1000000) only [go_ret, callOf, fstep0, fbinA, newF, fbin, fbin0, fload, fcell, fconvA, fconvert, evs, fminmax, T, TI.isAgg, St.ev, St.put, List.getD_cons_zero, List.getD_cons_succ, List.set, List.length_cons, List.length_nil, List.drop_zero, List.headD_cons, List.getElem?_cons_zero, true_and, Bool.true_and, Bool.or_false, Bool.false_eq_true, ↓reduceIte, Nat.reduceAdd, Nat.reduceLT, Nat.zero_add, Nat.reduceBEq, cond_true, cond_false, drawR_nil, drawR_op, drawP_none, drawQ_some, dstep, isFree, St.app, bump, isNew, ews]
        refine ⟨by kernel_rfl, ?_⟩
        skip
        apply hK
        simp only [Try.results3, retK, ares, Bool.and_true, Bool.true_and, AV.ofResults, St.trunc, truncVs, truncV, List.getD_cons_zero, List.getD_cons_succ, List.take_zero, List.map_nil, true_and, and_true, List.cons.injEq, exists_eq_left']
        exact congrArg bool (beq_iff_eq.2 hmin)
      · rintro xs _ hpre ⟨hst, rfl⟩
        have hpl2 : xs.length ≤ M.length := by have := hpre.length_le; rwa [pairs_si, List.length_map] at this
        have hmin : (xs.length : Int) = (if (if stop < 1 then 1 else stop) < (M.length : Int) then (if stop < 1 then 1 else stop) else (M.length : Int)) := by rw [← hst]; split <;> omega
        try simp (maxSteps := 1000000) only [go_seq, go_draws, go_ops_nil, St.put, cutVs, cutV, bks, bksAll, List.set, List.all_cons, List.all_nil, List.cons_append, List.nil_append, List.append_nil, Bool.and_self, ↓reduceIte, decide_true, Nat.reduceLT]
        refine draw_rule tyOk (by rfl) (by simp only [List.length_cons, List.length_nil, Nat.reduceAdd, Nat.zero_le]) (by kernel_rfl) rfl ?_
        try simp (maxSteps := 1000000) only [callOf, newF, fload, fcell, evs, T, TI.isAgg, St.ev, St.put, List.getD_cons_zero, List.getD_cons_succ, List.set, List.length_cons, List.length_nil, List.drop_zero, List.take_succ_cons, List.take_zero, List.headD_cons, List.append_nil, List.getElem?_cons_zero, List.getElem?_cons_succ, List.replicate, true_and, Bool.true_and, Bool.or_false, Bool.false_eq_true, ↓reduceIte, Nat.reduceAdd, Nat.reduceLT, Nat.le_refl, Nat.add_zero, Nat.zero_add, Nat.reduceBEq, newCount, drawR_op, drawP_none, drawP_some, drawQ_some, drawH_fn, dstep, isFree, St.app, bump, isNew]
        refine drawCall_use (len_call_si M) rfl ?_
        try simp (maxSteps := 1000000) only [go_ret, callOf, fstep0, fbinA, newF, fbin, fbin0, fload, fcell, fconvA, fconvert, evs, fminmax, T, TI.isAgg, St.ev, St.put, List.getD_cons_zero, List.getD_cons_succ, List.set, List.length_cons, List.length_nil, List.drop_zero, List.headD_cons, List.getElem?_cons_zero, true_and, Bool.true_and, Bool.or_false, Bool.false_eq_true, ↓reduceIte, Nat.reduceAdd, Nat.reduceLT, Nat.zero_add, Nat.reduceBEq, cond_true, cond_false, drawR_nil, drawR_op, drawP_none, drawQ_some, dstep, isFree, St.app, bump, isNew, ews]
        refine ⟨by kernel_rfl, ?_⟩
        skip
        apply hK
        simp only [Try.results3, retK, ares, Bool.and_true, Bool.true_and, AV.ofResults, St.trunc, truncVs, truncV, List.getD_cons_zero, List.getD_cons_succ, List.take_zero, List.map_nil, true_and, and_true, List.cons.injEq, exists_eq_left']
        exact congrArg bool (beq_iff_eq.2 hmin)
def shapesOmapStops : List (Bool × List Lf) := [(false, [.sl 3 true [.bool, .str, .int .i64]]), (false, [.int .u8])]
theorem shapesOmapStops_ok : argShapes T 6 [22, 5] = some shapesOmapStops := by kernel_rfl
theorem law_OmapStops (xs : List AV) (h : argsFit shapesOmapStops xs) : PCall P 3 xs (fun x => x = .v (.bool true)) := by
  obtain ⟨_, _, rfl, ⟨_, _, rfl, ⟨ys, rfl, hlen, hys⟩, rfl⟩, _, _, rfl, ⟨_, _, rfl, ⟨stop, rfl, hst⟩, rfl⟩, rfl⟩ := h
  obtain ⟨l, rfl, hl⟩ := fits_acts hys
  rw [acts_len] at hlen
  exact law_stops l hlen (fun a ha => (hl a ha).2) stop (by simpa [Lit.wf, IntKind.min, IntKind.max, IntKind.signed, IntKind.bits] using hst)
end Go.Proofs.Ytfkpjdcjjfpigaa
