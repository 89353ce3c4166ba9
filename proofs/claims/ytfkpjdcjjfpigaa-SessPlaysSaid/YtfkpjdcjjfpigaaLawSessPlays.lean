/- SessPlays. -/
import Derived.Test.YtfkpjdcjjfpigaaSessAwake
namespace Go.Proofs.Ytfkpjdcjjfpigaa
open Go Go.Proofs.Ytfkpjdcjjfpigaa.Sym
set_option maxRecDepth 100000
set_option linter.unusedSimpArgs false
set_option linter.unusedVariables false

theorem same_refl (l : List Ses) (h : l.length ≤ 10000) : PCall P 41 [.sl 4 (avs l), .sl 4 (avs l)] (fun x => x = bool true) := by
  have := ref06_Same l l h h
  rwa [decide_eq_true rfl] at this
theorem put_len (l : List Ses) (s : Ses) : (put l s).length ≤ 2 * l.length + 1 := by
  have h1 := List.length_filter_le (fun x : Ses => decide (x.id < s.id)) l
  have h2 := List.length_filter_le (fun x : Ses => decide (s.id < x.id)) l
  rw [put, List.length_append, List.length_append, List.length_singleton]
  omega
theorem setF_len {l : List Ses} (hr : Up l) (s : Ses) (most : Int) : (setF l s most).1.length ≤ 2 * l.length + 1 := by
  unfold setF
  split
  · simp only; omega
  · rw [ins_eq hr]; exact put_len l s
theorem beatF_len (l : List Ses) (id u : Int) : (beatF l id u).1.length = l.length := by
  unfold beatF
  split
  · simp
  · rfl
theorem clear_len (l : List Ses) (id : Int) : (clear l id).length ≤ l.length := List.length_filter_le _ _
theorem lives_len (l : List Ses) (now : Int) : (lives now l).length ≤ l.length := List.length_filter_le _ _

theorem law_plays (raw : List Ses) (s : Ses) (most now : Int) : PCall P 10 [.sl 4 (avs raw), s.av, i64 most, u64 now] (fun x => x = .v (.bool true)) := by
  refine pcall_go tyOk Try.func10 rfl rfl ?_
  intro K hK
  simp only [Try.ntmps10, List.length_cons, List.length_nil, Nat.reduceAdd, Nat.reduceSub, List.replicate, List.cons_append, List.nil_append]
  try simp (maxSteps := 1000000) only [go_region, go_seq, go_ops_nil, go_op, opK_none, opK_some, contK_some, callOf, callK_eq, callJ_nil, callD_fn, fstep, fpre, fstep0, evs, St.ev, St.put, AV.cells, AV.known, ownersAll, List.getD_cons_zero, List.getD_cons_succ, List.set, List.length_nil, List.nil_append, List.append_nil, true_and, Bool.true_and, Ses.av]
  (refine callG_use law06_awake rfl ?_; rintro _ rfl)
  try simp (maxSteps := 1000000) only [go_cond, go_ops_nil, go_op, go_guard, opK_none, contK_some, guardK_eq, guardV_ff, callOf, fstep, fpre, fstep0, fbinA, fbin, fbin0, funary, flen, fpick, T, St.ev, St.put, List.getD_cons_zero, List.getD_cons_succ, List.set, List.getElem?_cons_zero, List.getElem?_cons_succ, Option.bind_some, List.getElem?_toArray, true_and, Bool.true_and, Bool.not_true, cond_false, avs_len]
  (first | refine guardV_split ?_ ?_ | refine condK_split ?_ ?_ | refine drawV_split ?_ ?_ | refine condY_split ?_ ?_ | refine guardY_split ?_ ?_) <;> intro h0
  · try simp (maxSteps := 1000000) only [go_region, go_seq, go_op, opK_some, condK_t, callOf, callK_eq, callJ_nil, callD_fn, evs, St.ev, ownersAll, List.append_nil]
    (refine callG_use law06_awake rfl ?_; rintro _ rfl)
    try simp (maxSteps := 1000000) only [go_ret, go_ops_nil, go_op, opK_none, contK_some, callOf, fstep, fpre, fstep0, St.ev, St.put, List.getD_cons_zero, List.getD_cons_succ, List.set, true_and, Bool.true_and]
    apply hK
    simp only [Try.results10, retK, ares, Bool.and_true, Bool.true_and, AV.ofResults, St.trunc, truncVs, truncV, List.getD_cons_zero, List.getD_cons_succ, List.take_zero, List.map_nil, true_and, and_true, List.cons.injEq, exists_eq_left']
  have hlen : raw.length ≤ 200 := by have : ¬ ((200 : Int) < raw.length) := by simpa using h0
                                     omega
  try simp (maxSteps := 1000000) only [go_skip, go_region, go_seq, go_op, opK_none, opK_some, contK_some, condK_f, callOf, callK_eq, callJ_nil, callD_fn, fstep, fpre, fstep0, evs, St.ev, St.put, AV.owners, ownersAll, List.getD_cons_zero, List.getD_cons_succ, List.set, List.append_nil, true_and, Bool.true_and]
  (refine callG_use (ref06_Sorted raw hlen) rfl ?_; rintro _ rfl)
  have hr := sort_up raw
  have hl := (sortF_spec raw).1
  generalize sortF raw = l at hr hl ⊢
  have l1 := setF_len hr s most
  have l2 := beatF_len l s.id now
  have l3 := clear_len l s.id
  have l4 := lives_len l now
  try simp (maxSteps := 1000000) only [go_region, go_seq, go_ops_nil, go_op, opK_none, opK_some, contK_some, callOf, callK_eq, callJ_nil, callD_fn, fstep, fpre, fstep0, evParts, evOwners, fbuildSlice, felems, fappend, evs, T, TI.isAgg, TI.zeroOk, setParts, partsOk, St.ev, St.put, St.shutAll, St.rehome, killV, killVs, AB.kill, AV.owners, ownersAll, Value.oneCell', List.getD_cons_zero, List.getD_cons_succ, List.set, List.map_cons, List.map_nil, List.length_cons, List.length_nil, List.all_cons, List.all_nil, List.cons_append, List.nil_append, List.append_nil, List.getElem?_cons_zero, List.getElem?_cons_succ, List.replicate, true_and, and_true, Bool.and_true, Bool.true_and, Bool.and_self, Bool.or_false, ↓reduceIte, decide_true, decide_false, reduceCtorEq, Nat.reduceAdd, Nat.reduceMul, Nat.reduceEqDiff, Nat.reduceLT, Nat.zero_le, Nat.zero_add, avs_len]
  refine ⟨by first | omega | (simp only [maxLen]; omega), ?_⟩
  skip
  (refine callG_use (sess_Purge l now (by omega)) rfl ?_; rintro _ rfl)
  try simp (maxSteps := 1000000) only [go_region, go_seq, go_ops_nil, go_op, opK_none, opK_some, contK_some, callOf, callK_eq, callJ_nil, callD_fn, fstep, fpre, fstep0, fload, fcell, evs, T, TI.isAgg, St.ev, St.put, AV.owners, ownersAll, List.getD_cons_zero, List.getD_cons_succ, List.set, List.length_cons, List.length_nil, List.drop_zero, List.take_succ_cons, List.take_zero, List.append_nil, List.getElem?_cons_zero, true_and, Bool.true_and, ↓reduceIte, Nat.reduceAdd, Nat.le_refl, Nat.zero_add]
  (refine callG_use (sess_Set l s most hr (by omega)) rfl ?_; rintro _ rfl)
  try simp (maxSteps := 1000000) only [go_region, go_seq, go_ops_nil, go_op, opK_none, opK_some, contK_some, callOf, callK_eq, callJ_nil, callD_fn, fstep, fpre, fstep0, fload, fcell, ffieldAddr, evs, T, TI.isAgg, St.ev, St.put, AV.owners, ownersAll, List.getD_cons_zero, List.getD_cons_succ, List.set, List.length_cons, List.length_nil, List.drop_zero, List.headD_cons, List.append_nil, List.getElem?_cons_zero, List.getElem?_toArray, true_and, Bool.true_and, Bool.false_eq_true, ↓reduceIte, reduceCtorEq, ne_eq, not_false_eq_true, Nat.reduceAdd, Nat.reduceLT, Nat.add_zero, Nat.zero_add]
  (refine callG_use (sess_Beat l s.id now hr (by omega)) rfl ?_; rintro _ rfl)
  try simp (maxSteps := 1000000) only [go_region, go_seq, go_ops_nil, go_op, opK_none, opK_some, contK_some, callOf, callK_eq, callJ_nil, callD_fn, fstep, fpre, fstep0, fload, fcell, ffieldAddr, evs, T, TI.isAgg, St.ev, St.put, AV.owners, ownersAll, List.getD_cons_zero, List.getD_cons_succ, List.set, List.length_cons, List.length_nil, List.drop_zero, List.headD_cons, List.append_nil, List.getElem?_cons_zero, List.getElem?_toArray, true_and, Bool.true_and, Bool.false_eq_true, ↓reduceIte, reduceCtorEq, ne_eq, not_false_eq_true, Nat.reduceAdd, Nat.reduceLT, Nat.add_zero, Nat.zero_add]
  (refine callG_use (sess_Clear l s.id hr (by omega)) rfl ?_; rintro _ rfl)
  try simp (maxSteps := 1000000) only [go_region, go_seq, go_ops_nil, go_op, opK_none, opK_some, contK_some, callOf, callK_eq, callJ_nil, callD_fn, fstep, fpre, fstep0, fload, fcell, evs, T, TI.isAgg, St.ev, St.put, AV.owners, ownersAll, List.getD_cons_zero, List.getD_cons_succ, List.set, List.length_cons, List.length_nil, List.drop_zero, List.take_succ_cons, List.take_zero, List.append_nil, List.getElem?_cons_zero, true_and, Bool.true_and, ↓reduceIte, Nat.reduceAdd, Nat.reduceLT, Nat.le_refl, Nat.zero_add]
  (refine callG_use (ref06_Set l s most (by omega)) rfl ?_; rintro _ rfl)
  try simp (maxSteps := 1000000) only [go_region, go_seq, go_ops_nil, go_op, opK_none, opK_some, contK_some, callOf, callK_eq, callJ_nil, callD_fn, fstep, fpre, fstep0, fload, fcell, ffieldAddr, evs, T, TI.isAgg, St.ev, St.put, AV.owners, ownersAll, List.getD_cons_zero, List.getD_cons_succ, List.set, List.length_cons, List.length_nil, List.drop_zero, List.headD_cons, List.append_nil, List.getElem?_cons_zero, List.getElem?_toArray, true_and, Bool.true_and, Bool.false_eq_true, ↓reduceIte, reduceCtorEq, ne_eq, not_false_eq_true, Nat.reduceAdd, Nat.reduceLT, Nat.add_zero, Nat.zero_add]
  (refine callG_use (ref06_Beat l s.id now (by omega)) rfl ?_; rintro _ rfl)
  try simp (maxSteps := 1000000) only [go_region, go_seq, go_ops_nil, go_op, opK_none, opK_some, contK_some, callOf, callK_eq, callJ_nil, callD_fn, fstep, fpre, fstep0, fload, fcell, ffieldAddr, evs, T, TI.isAgg, St.ev, St.put, AV.owners, ownersAll, List.getD_cons_zero, List.getD_cons_succ, List.set, List.length_cons, List.length_nil, List.drop_zero, List.headD_cons, List.append_nil, List.getElem?_cons_zero, List.getElem?_toArray, true_and, Bool.true_and, Bool.false_eq_true, ↓reduceIte, reduceCtorEq, ne_eq, not_false_eq_true, Nat.reduceAdd, Nat.reduceLT, Nat.add_zero, Nat.zero_add]
  (refine callG_use (ref06_Has l s.id (by omega)) rfl ?_; rintro _ rfl)
  try simp (maxSteps := 1000000) only [go_cond, go_ops_nil, go_op, opK_none, contK_some, callOf, fstep, fpre, fstep0, funary, St.ev, St.put, List.getD_cons_zero, List.getD_cons_succ, List.set, true_and, Bool.true_and]
  cases hh : has l s.id
  · try simp (maxSteps := 1000000) only [go_region, go_seq, go_ops_nil, go_op, opK_none, opK_some, contK_some, condK_t, callOf, callK_eq, callJ_cons, fstep, fpre, fstep0, evs, St.ev, St.put, AV.owners, ownersAll, List.getD_cons_zero, List.getD_cons_succ, List.set, List.nil_append, List.append_nil, true_and, Bool.true_and, Bool.not_false, Bool.false_eq_true, ↓reduceIte]
    skip
    refine callO_own ?_
    try simp (maxSteps := 1000000) only [callD_fn, evs, St.ev, List.getD_cons_zero, List.getD_cons_succ, List.append_nil]
    refine callG_lend (same_refl l (by omega)) ?_ rfl ?_
    · simp only [truncVs]
      rw [truncV_own (xs := avs l) rfl (avs_len l)]
      rfl
    try simp (maxSteps := 1000000) only [go_skip, go_region, go_seq, go_cond, go_ops_nil, go_op, opK_none, opK_some, contK_some, condK_f, callOf, callK_eq, callJ_nil, callD_fn, fstep, fpre, fstep0, funary, evs, St.ev, St.put, AV.owners, ownersAll, List.getD_cons_zero, List.getD_cons_succ, List.set, List.append_nil, true_and, Bool.true_and, Bool.not_true]
    (refine callG_use (ref06_Purge l now (by omega)) rfl ?_; rintro _ rfl)
    try simp (maxSteps := 1000000) only [go_op, opK_some, callOf, callK_eq, callJ_nil, callD_fn, evs, St.ev, St.put, AV.owners, ownersAll, List.getD_cons_zero, List.getD_cons_succ, List.set, List.append_nil]
    (refine callG_use (same_refl (lives now l) (by omega)) rfl ?_; rintro _ rfl)
    try simp (maxSteps := 1000000) only [go_op, go_guard, opK_none, opK_some, contK_some, guardK_eq, guardV_tt, callOf, callK_eq, callJ_nil, callD_fn, fstep, fpre, fstep0, evs, St.ev, St.put, AV.owners, ownersAll, List.getD_cons_zero, List.getD_cons_succ, List.set, List.append_nil, List.getElem?_cons_zero, List.getElem?_cons_succ, Option.bind_some, List.getElem?_toArray, true_and, Bool.true_and]
    (refine callG_use (same_refl (setF l s most).1 (by omega)) rfl ?_; rintro _ rfl)
    try simp (maxSteps := 1000000) only [go_op, go_guard, opK_none, opK_some, contK_some, guardK_eq, guardV_tt, callOf, callK_eq, callJ_nil, callD_fn, fstep, fpre, fstep0, fbinA, fbin, fbin0, evs, fpick, St.ev, St.put, AV.owners, ownersAll, List.getD_cons_zero, List.getD_cons_succ, List.set, List.append_nil, List.getElem?_cons_zero, List.getElem?_cons_succ, Option.bind_some, List.getElem?_toArray, true_and, Bool.true_and, cond_true, beq_self_eq_true]
    (refine callG_use (same_refl (beatF l s.id now).1 (by omega)) rfl ?_; rintro _ rfl)
    try simp (maxSteps := 1000000) only [go_op, go_guard, opK_none, opK_some, contK_some, guardK_eq, guardV_tt, callOf, callK_eq, callJ_nil, callD_fn, fstep, fpre, fstep0, fbinA, fbin, fbin0, fload, fcell, ffieldAddr, evs, fpick, T, TI.isAgg, St.ev, St.put, AV.owners, ownersAll, List.getD_cons_zero, List.getD_cons_succ, List.set, List.length_cons, List.length_nil, List.drop_zero, List.headD_cons, List.append_nil, List.getElem?_cons_zero, List.getElem?_cons_succ, Option.bind_some, List.getElem?_toArray, true_and, Bool.true_and, Bool.false_eq_true, ↓reduceIte, reduceCtorEq, ne_eq, not_false_eq_true, Nat.reduceAdd, Nat.reduceLT, Nat.add_zero, Nat.zero_add, cond_true, beq_self_eq_true]
    (refine callG_use (ref06_Clear l s.id (by omega)) rfl ?_; rintro _ rfl)
    try simp (maxSteps := 1000000) only [go_guard, opK_some, guardK_eq, guardV_tt, callOf, callK_eq, callJ_nil, callD_fn, evs, St.ev, St.put, AV.owners, ownersAll, List.getD_cons_zero, List.getD_cons_succ, List.set, List.append_nil, List.getElem?_cons_zero, List.getElem?_cons_succ, Option.bind_some, List.getElem?_toArray]
    (refine callG_use (same_refl (clear l s.id) (by omega)) rfl ?_; rintro _ rfl)
    try simp (maxSteps := 1000000) only [go_ret, go_ops_nil, go_op, go_guard, opK_none, contK_some, guardK_eq, guardV_tt, callOf, fstep, fpre, fstep0, fbinA, fbin, fbin0, fpick, St.ev, St.put, List.getD_cons_zero, List.getD_cons_succ, List.set, List.getElem?_cons_zero, List.getElem?_cons_succ, Option.bind_some, List.getElem?_toArray, true_and, Bool.true_and, cond_true, beq_self_eq_true]
    apply hK
    simp only [Try.results10, retK, ares, Bool.and_true, Bool.true_and, AV.ofResults, St.trunc, truncVs, truncV, List.getD_cons_zero, List.getD_cons_succ, List.take_zero, List.map_nil, true_and, and_true, List.cons.injEq, exists_eq_left']
  · try simp (maxSteps := 1000000) only [go_skip, go_region, go_seq, go_op, opK_none, opK_some, contK_some, condK_f, callOf, callK_eq, callJ_cons, fstep, fpre, fstep0, evs, St.ev, St.put, AV.owners, ownersAll, List.getD_cons_zero, List.getD_cons_succ, List.set, List.nil_append, List.append_nil, true_and, Bool.true_and, Bool.not_true, ↓reduceIte]
    skip
    refine callO_own ?_
    try simp (maxSteps := 1000000) only [callD_fn, evs, St.ev, List.getD_cons_zero, List.getD_cons_succ, List.append_nil]
    refine callG_lend (same_refl l (by omega)) ?_ rfl ?_
    · simp only [truncVs]
      rw [truncV_own (xs := avs l) rfl (avs_len l)]
      rfl
    try simp (maxSteps := 1000000) only [go_skip, go_region, go_seq, go_cond, go_ops_nil, go_op, opK_none, opK_some, contK_some, condK_f, callOf, callK_eq, callJ_nil, callD_fn, fstep, fpre, fstep0, funary, evs, St.ev, St.put, AV.owners, ownersAll, List.getD_cons_zero, List.getD_cons_succ, List.set, List.append_nil, true_and, Bool.true_and, Bool.not_true]
    (refine callG_use (ref06_Purge l now (by omega)) rfl ?_; rintro _ rfl)
    try simp (maxSteps := 1000000) only [go_op, opK_some, callOf, callK_eq, callJ_nil, callD_fn, evs, St.ev, St.put, AV.owners, ownersAll, List.getD_cons_zero, List.getD_cons_succ, List.set, List.append_nil]
    (refine callG_use (same_refl (lives now l) (by omega)) rfl ?_; rintro _ rfl)
    try simp (maxSteps := 1000000) only [go_op, go_guard, opK_none, opK_some, contK_some, guardK_eq, guardV_tt, callOf, callK_eq, callJ_nil, callD_fn, fstep, fpre, fstep0, evs, St.ev, St.put, AV.owners, ownersAll, List.getD_cons_zero, List.getD_cons_succ, List.set, List.append_nil, List.getElem?_cons_zero, List.getElem?_cons_succ, Option.bind_some, List.getElem?_toArray, true_and, Bool.true_and]
    (refine callG_use (same_refl (setF l s most).1 (by omega)) rfl ?_; rintro _ rfl)
    try simp (maxSteps := 1000000) only [go_op, go_guard, opK_none, opK_some, contK_some, guardK_eq, guardV_tt, callOf, callK_eq, callJ_nil, callD_fn, fstep, fpre, fstep0, fbinA, fbin, fbin0, evs, fpick, St.ev, St.put, AV.owners, ownersAll, List.getD_cons_zero, List.getD_cons_succ, List.set, List.append_nil, List.getElem?_cons_zero, List.getElem?_cons_succ, Option.bind_some, List.getElem?_toArray, true_and, Bool.true_and, cond_true, beq_self_eq_true]
    (refine callG_use (same_refl (beatF l s.id now).1 (by omega)) rfl ?_; rintro _ rfl)
    try simp (maxSteps := 1000000) only [go_op, go_guard, opK_none, opK_some, contK_some, guardK_eq, guardV_tt, callOf, callK_eq, callJ_nil, callD_fn, fstep, fpre, fstep0, fbinA, fbin, fbin0, fload, fcell, ffieldAddr, evs, fpick, T, TI.isAgg, St.ev, St.put, AV.owners, ownersAll, List.getD_cons_zero, List.getD_cons_succ, List.set, List.length_cons, List.length_nil, List.drop_zero, List.headD_cons, List.append_nil, List.getElem?_cons_zero, List.getElem?_cons_succ, Option.bind_some, List.getElem?_toArray, true_and, Bool.true_and, Bool.false_eq_true, ↓reduceIte, reduceCtorEq, ne_eq, not_false_eq_true, Nat.reduceAdd, Nat.reduceLT, Nat.add_zero, Nat.zero_add, cond_true, beq_self_eq_true]
    (refine callG_use (ref06_Clear l s.id (by omega)) rfl ?_; rintro _ rfl)
    try simp (maxSteps := 1000000) only [go_guard, opK_some, guardK_eq, guardV_tt, callOf, callK_eq, callJ_nil, callD_fn, evs, St.ev, St.put, AV.owners, ownersAll, List.getD_cons_zero, List.getD_cons_succ, List.set, List.append_nil, List.getElem?_cons_zero, List.getElem?_cons_succ, Option.bind_some, List.getElem?_toArray]
    (refine callG_use (same_refl (clear l s.id) (by omega)) rfl ?_; rintro _ rfl)
    try simp (maxSteps := 1000000) only [go_ret, go_ops_nil, go_op, go_guard, opK_none, contK_some, guardK_eq, guardV_tt, callOf, fstep, fpre, fstep0, fbinA, fbin, fbin0, fpick, St.ev, St.put, List.getD_cons_zero, List.getD_cons_succ, List.set, List.getElem?_cons_zero, List.getElem?_cons_succ, Option.bind_some, List.getElem?_toArray, true_and, Bool.true_and, cond_true, beq_self_eq_true]
    apply hK
    simp only [Try.results10, retK, ares, Bool.and_true, Bool.true_and, AV.ofResults, St.trunc, truncVs, truncV, List.getD_cons_zero, List.getD_cons_succ, List.take_zero, List.map_nil, true_and, and_true, List.cons.injEq, exists_eq_left']
def shapesSessPlays : List (Bool × List Lf) := [(false, [.sl 4 true [.int .i64, .int .i64, .int .i64, .int .u64]]), (true, [.int .i64, .int .i64, .int .i64, .int .u64]), (false, [.int .i64]), (false, [.int .u64])]
theorem shapesSessPlays_ok : argShapes T 6 [38, 41, 3, 39] = some shapesSessPlays := by kernel_rfl
theorem law_SessPlays (xs : List AV) (h : argsFit shapesSessPlays xs) : PCall P 10 xs (fun x => x = .v (.bool true)) := by
  obtain ⟨_, _, rfl, ⟨_, _, rfl, ⟨ys, rfl, hlen, hys⟩, rfl⟩, x, _, rfl, hx, _, _, rfl, ⟨_, _, rfl, ⟨most, rfl, _⟩, rfl⟩, _, _, rfl, ⟨_, _, rfl, ⟨now, rfl, _⟩, rfl⟩, rfl⟩ := h
  obtain ⟨l, rfl, hl⟩ := fits_list hys
  obtain ⟨s, hs, _⟩ := fits_ses (x := .agg x) hx rfl
  have := law_plays l s most now
  rw [← hs] at this
  exact this
end Go.Proofs.Ytfkpjdcjjfpigaa
