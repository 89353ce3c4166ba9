/- The document's example. -/
import Derived.Test.YtfkpjdcjjfpigaaMf
import Derived.Test.YtfkpjdcjjfpigaaSymZh
namespace Go.Proofs.Ytfkpjdcjjfpigaa
open Go Go.Proofs.Ytfkpjdcjjfpigaa.Sym
set_option maxRecDepth 100000
set_option linter.unusedSimpArgs false
set_option linter.unusedVariables false

theorem law06_awake : PCall P 19 [] (fun x => x = bool true) := by
  refine pcall_go tyOk Try.func19 rfl rfl ?_
  intro K hK
  simp only [Try.ntmps19, List.length_nil, Nat.reduceSub, List.replicate, List.nil_append]
  have s0 : PCall P 21 [.v (.slice none 0 0), .agg [i64 5, i64 0, i64 0, u64 0], i64 0] (fun x => x = .tup [.sl 4 [], i64 2]) :=
    PCall.weakArgs (sess_Set [] ⟨5, 0, 0, 0⟩ 0 List.Pairwise.nil (by decide)) ⟨_, _, rfl, weak_nil 4, weaks_refl _⟩
  have s1 : PCall P 21 [.v (.slice none 0 0), .agg [i64 5, i64 0, i64 0, u64 0], i64 1] (fun x => x = .tup [.sl 4 [.agg [i64 5, i64 0, i64 0, u64 0]], i64 0]) :=
    PCall.weakArgs (sess_Set [] ⟨5, 0, 0, 0⟩ 1 List.Pairwise.nil (by decide)) ⟨_, _, rfl, weak_nil 4, weaks_refl _⟩
  have c0 : (((0 : Nat) : Int) == 0) = true := by decide
  have c1 : (((1 : Nat) : Int) == 1) = true := by decide
  try simp (maxSteps := 1000000) only [go_region, go_seq, go_ops_nil, go_op, opK_none, opK_some, contK_some, callOf, callK_eq, callJ_nil, callD_fn, fstep, gpre, fpre, fstep0, ffill, fieldPlaces, fieldsOk, fbuild, evParts, evs, T, St.ev, St.put, splice, AV.cells, AV.known, AV.owners, ownersAll, Value.cells, List.getD_cons_zero, List.getD_cons_succ, List.set, List.map_cons, List.map_nil, List.length_cons, List.length_nil, List.drop_succ_cons, List.drop_zero, List.take_zero, List.cons_append, List.nil_append, List.append_nil, List.getElem?_cons_zero, Option.isSome_some, List.getElem?_toArray, true_and, and_true, Bool.and_true, Bool.true_and, Bool.and_self, Nat.reduceAdd, Nat.reduceLeDiff, Nat.zero_add]
  (refine callG_use s0 rfl ?_; rintro _ rfl)
  try simp (maxSteps := 1000000) only [go_region, go_seq, go_ops_nil, go_op, opK_none, opK_some, contK_some, callOf, callK_eq, callJ_nil, callD_fn, fstep, gpre, fpre, fstep0, ffill, fieldPlaces, fieldsOk, fbuild, evParts, evs, T, St.ev, St.put, splice, AV.cells, AV.known, AV.owners, ownersAll, Value.cells, List.getD_cons_zero, List.getD_cons_succ, List.set, List.map_cons, List.map_nil, List.length_cons, List.length_nil, List.drop_succ_cons, List.drop_zero, List.take_zero, List.cons_append, List.nil_append, List.append_nil, List.getElem?_cons_zero, Option.isSome_some, List.getElem?_toArray, true_and, and_true, Bool.and_true, Bool.true_and, Bool.and_self, Nat.reduceAdd, Nat.reduceLeDiff, Nat.reduceLT, Nat.zero_add]
  (refine callG_use s1 rfl ?_; rintro _ rfl)
  try simp (maxSteps := 1000000) only [go_region, go_seq, go_ret, go_ops_nil, go_op, go_guard, opK_none, contK_some, guardK_eq, guardV_tt, callOf, fstep, gpre, fpre, fstep0, fbinA, fbin, fbin0, flen, fpick, T, St.ev, St.put, List.getD_cons_zero, List.getD_cons_succ, List.set, List.length_cons, List.length_nil, List.getElem?_cons_zero, List.getElem?_cons_succ, Option.bind_some, List.getElem?_toArray, true_and, Bool.true_and, Nat.reduceAdd, Nat.reduceLT, Nat.zero_add, cond_true, beq_self_eq_true, c0, c1]
  apply hK
  simp only [Try.results19, retK, ares, List.take_nil, Bool.and_true, Bool.true_and, AV.ofResults, St.trunc, truncVs, truncV, List.getD_cons_zero, List.map_nil, true_and, and_true, List.cons.injEq, exists_eq_left']

theorem beat_next {l : List Ses} {id u : Int} {i : Nat} (h : i < l.length) : (l.take (i + 1)).map (bump id u) = (l.take i).map (bump id u) ++ [bump id u l[i]] := by
  rw [take_one h, List.map_append]; rfl
theorem bump_un {s : Ses} {id u : Int} (h : s.id = id) (h2 : s.un < u) : bump id u s = { s with un := u } := by
  unfold bump; rw [if_pos (by simp [h]; exact h2)]
theorem bump_no {s : Ses} {id u : Int} (h : (s.id == id && decide (s.un < u)) = false) : bump id u s = s := by
  unfold bump; rw [if_neg (by rw [h]; decide)]
theorem ref06_Beat (l : List Ses) (id u : Int) (hlen : l.length ≤ 10000) : PCall P 40 [.sl 4 (avs l), i64 id, u64 u] (fun x => x = .tup [.sl 4 (avs (beatF l id u).1), i64 (beatF l id u).2]) := by
  refine pcall_go tyOk Try.func40 rfl rfl ?_
  intro K hK
  simp only [Try.ntmps40, List.length_cons, List.length_nil, Nat.reduceAdd, Nat.reduceSub, List.replicate, List.cons_append, List.nil_append]
  try simp (maxSteps := 1000000) only [go_region, go_seq, go_ops_nil, go_op, opK_none, opK_some, contK_some, callOf, callK_eq, callJ_nil, callD_fn, fstep, gpre, fpre, fstep0, evs, St.ev, St.put, AV.owners, ownersAll, List.getD_cons_zero, List.getD_cons_succ, List.set, List.append_nil, true_and, Bool.true_and]
  (refine callG_use (ref06_Has l id hlen) rfl ?_; rintro _ rfl)
  unfold beatF at hK
  try simp (maxSteps := 1000000) only [go_cond, go_ops_nil, go_op, opK_none, contK_some, callOf, fstep, gpre, fpre, fstep0, funary, St.ev, St.put, List.getD_cons_zero, List.getD_cons_succ, List.set, true_and, Bool.true_and]
  cases h : has l id
  · rw [h, if_neg (by decide)] at hK
    try simp (maxSteps := 1000000) only [go_region, go_seq, go_ret, go_ops_nil, go_op, opK_none, contK_some, condK_t, callOf, fstep, gpre, fpre, fstep0, St.ev, St.put, List.getD_cons_zero, List.getD_cons_succ, List.set, true_and, Bool.true_and, Bool.not_false]
    apply hK
    simp only [Try.results40, retK, ares, List.take_nil, Bool.and_true, Bool.true_and, AV.ofResults, St.trunc, truncVs, truncV, List.getD_cons_zero, List.getD_cons_succ, List.map_nil, true_and, and_true, List.cons.injEq, exists_eq_left']
  · rw [h, if_pos rfl] at hK
    try simp (maxSteps := 1000000) only [go_skip, go_region, go_seq, go_block, go_loop, go_ops_nil, go_op, opK_none, contK_some, condK_f, callOf, fstep, gpre, fpre, fstep0, St.ev, St.put, List.set, true_and, Bool.true_and, Bool.not_true]
    refine loopK_turn (Turns.adopt (i := 8) 41 4 rfl) ?_
    refine loopK_rule tyOk (α := Nat) 1 [0, 1, 2, 8, 9] (fun i => i ≤ l.length)
      (fun i => ⟨[.sl 4 (avs l), i64 id, u64 u, .any, .any, .any, .any, .any, .own 0 4 0 ((l.take i).map (bump id u)).length, i64 i, .any, .any, .any, .any, .any, .any, .any, .any, .any, .any, .any, .any, .any, .any, .any, .any, .any, .any, .any, .any, .any, .any, .any, .any, .any, .any, .any, .any, .any, .any, .any, .any, .any], [.row 41 4 (avs ((l.take i).map (bump id u)))]⟩)
      (fun i => l.length - i) 0 (Nat.zero_le _) (Nat.zero_le _) rfl ?_
    intro i hi
    have hf : ((l.take i).map (bump id u)).length ≤ 10000 := by simp; omega
    try simp (maxSteps := 1000000) only [go_region, go_seq, go_cond, go_ops_nil, go_op, opK_none, contK_some, callOf, fstep, gpre, fpre, fstep0, fbinA, fbin, fbin0, flen, T, St.ev, St.put, List.getD_cons_zero, List.getD_cons_succ, List.set, true_and, Bool.true_and, avs_len]
    (first | refine guardV_split ?_ ?_ | refine condK_split ?_ ?_ | refine drawV_split ?_ ?_ | refine condY_split ?_ ?_ | refine guardY_split ?_ ?_) <;> intro h <;> try simp (maxSteps := 1000000) only [go_skip, go_region, go_seq, go_block, go_exit, go_ret, exitK_code, exitK_blk, exitK_nil, go_ops_nil, go_op, opK_none, contK_some, condK_t, condK_f, callOf, fstep, gpre, gloadB, fpre, fpost, fstep0, fbinA, gbin, gbits, gnil, isSliceTy, isPtrTy, fbin, fbin0, fbinS, fload, fcell, fstore, ffieldAddr, findexAddr, isBoolTy, T, TI.isAgg, St.ev, St.put, splice, AV.cells, AV.known, Value.cells, List.getD_cons_zero, List.getD_cons_succ, List.set, List.map_cons, List.map_nil, List.length_cons, List.length_nil, List.drop_zero, List.take_zero, List.cons_append, List.nil_append, List.getElem?_cons_zero, List.getElem?_cons_succ, List.getElem?_toArray, true_and, and_true, Bool.and_true, Bool.true_and, Bool.false_eq_true, ↓reduceIte, reduceCtorEq, ne_eq, not_false_eq_true, Nat.reduceAdd, Nat.le_refl, Nat.add_zero, Nat.zero_add, loopX_exit, List.length_append]
    · obtain ⟨hlt, eg, ew, c1⟩ := at_idx (by omega) h
      have hb := beat_next (id := id) (u := u) hlt
      generalize (l.take i).map (bump id u) = O at hf hb
      try simp (maxSteps := 1000000) only [go_op, go_guard, opK_none, contK_some, guardK_eq, callOf, fstep, gpre, fpre, fstep0, St.ev, St.put, AV.flat, Value.oneCell', List.getD_cons_zero, List.getD_cons_succ, List.set, List.length_cons, List.length_nil, List.all_cons, List.all_nil, List.drop_succ_cons, List.drop_zero, List.take_succ_cons, List.take_zero, List.headD_cons, List.append_nil, List.getElem?_cons_zero, List.getElem?_cons_succ, Option.bind_some, List.getElem?_toArray, true_and, and_true, Bool.and_true, Bool.true_and, Bool.and_self, Nat.reduceAdd, Nat.reduceLT, Nat.le_refl, Nat.add_zero, Nat.zero_add, eg, c1, avs_len]
      (first | refine guardV_split ?_ ?_ | refine condK_split ?_ ?_ | refine drawV_split ?_ ?_ | refine condY_split ?_ ?_ | refine guardY_split ?_ ?_) <;> intro h2
      · have h2' : l[i].id = id := by simpa using h2
        try simp (maxSteps := 1000000) only [go_cond, go_ops_nil, go_op, go_guard, opK_none, contK_some, guardK_eq, guardV_tt, callOf, fstep, gpre, gloadB, fpre, fstep0, fbinA, fbin, fbin0, fload, fcell, ffieldAddr, fpick, T, TI.isAgg, St.ev, St.put, List.getD_cons_zero, List.getD_cons_succ, List.set, List.length_cons, List.length_nil, List.drop_succ_cons, List.drop_zero, List.headD_cons, List.getElem?_cons_zero, List.getElem?_cons_succ, Option.bind_some, List.getElem?_toArray, true_and, Bool.true_and, Bool.false_eq_true, ↓reduceIte, reduceCtorEq, ne_eq, not_false_eq_true, Nat.reduceLT, Nat.zero_add, cond_true]
        (first | refine guardV_split ?_ ?_ | refine condK_split ?_ ?_ | refine drawV_split ?_ ?_ | refine condY_split ?_ ?_ | refine guardY_split ?_ ?_) <;> intro h3
        · have e1 := bump_un h2' (by simpa using h3)
          try simp (maxSteps := 1000000) only [go_nil, go_region, go_blk, go_ops_nil, go_op, opK_none, contK_some, condK_t, callOf, fstep, gpre, gbuildB, gparts, hasBks, bkTop, gloadB, fpre, fstep0, fbinA, fbin, fbin0, fload, fcell, fstore, ffieldAddr, evParts, evOwners, fbuildSlice, felems, fappend, T, TI.isAgg, TI.zeroOk, TI.zav, setParts, partsOk, St.ev, St.put, St.shutAll, St.rehome, killV, killVs, AB.kill, splice, AV.cells, AV.known, AV.flat, AV.pure, pureAll, AV.owners, ownersAll, Value.cells, Value.oneCell', List.getD_cons_zero, List.getD_cons_succ, List.set, List.map_cons, List.map_nil, List.length_cons, List.length_nil, List.all_cons, List.all_nil, List.drop_succ_cons, List.drop_zero, List.take_succ_cons, List.take_zero, List.cons_append, List.nil_append, List.append_nil, List.getElem?_cons_zero, List.getElem?_cons_succ, List.replicate, List.getElem?_toArray, true_and, and_true, Bool.and_true, Bool.true_and, Bool.and_self, Bool.or_false, Bool.false_eq_true, ↓reduceIte, decide_true, decide_false, reduceCtorEq, ne_eq, not_false_eq_true, Nat.reduceAdd, Nat.reduceMul, Nat.reduceLeDiff, Nat.reduceEqDiff, Nat.reduceLT, Nat.zero_le, Nat.le_refl, Nat.zero_add, avs_len]
          refine ⟨⟨by first | omega | (simp only [maxLen]; omega), by first | omega | (simp only [maxLen]; omega)⟩, ?_⟩
          try simp (maxSteps := 1000000) only [ew]
          simp only [loopX_normal, St.trunc, St.keep, truncVs, truncV, AB.trunc, keepV, pureAll, AV.pure, Bool.and_self, List.drop_zero, List.drop_succ_cons, List.elem_cons, List.elem_nil, List.take_succ_cons, List.take_zero, List.map_cons, List.map_nil, List.getElem?_cons_zero, List.getElem?_cons_succ, List.length_cons, List.length_nil, Nat.reduceAdd, Nat.reduceBEq, Nat.reduceLeDiff, Nat.le_refl, Nat.zero_add, Bool.false_eq_true, ↓reduceIte]
          exact ⟨i + 1, hlt, by omega, by rw [hb, e1, ← avs_snoc, List.length_append]; rfl⟩
        · have e1 : bump id u l[i] = l[i] := bump_no (by have h3' : decide (l[i].un < u) = false := h3
                                                         rw [h3', Bool.and_false])
          try simp (maxSteps := 1000000) only [go_nil, go_skip, go_region, go_blk, go_ops_nil, go_op, opK_none, contK_some, condK_f, callOf, fstep, gpre, gbuildB, gparts, hasBks, bkTop, gloadB, fpre, fstep0, fbinA, fbin, fbin0, fload, fcell, evParts, evOwners, fbuildSlice, felems, fappend, T, TI.isAgg, TI.zeroOk, TI.zav, setParts, partsOk, St.ev, St.put, St.shutAll, St.rehome, killV, killVs, AB.kill, AV.cells, AV.known, AV.flat, AV.pure, pureAll, AV.owners, ownersAll, Value.oneCell', List.getD_cons_zero, List.getD_cons_succ, List.set, List.map_cons, List.map_nil, List.length_cons, List.length_nil, List.all_cons, List.all_nil, List.drop_zero, List.take_succ_cons, List.take_zero, List.cons_append, List.nil_append, List.append_nil, List.getElem?_cons_zero, List.getElem?_cons_succ, List.replicate, true_and, and_true, Bool.and_true, Bool.true_and, Bool.and_self, Bool.or_false, Bool.false_eq_true, ↓reduceIte, decide_true, decide_false, reduceCtorEq, Nat.reduceAdd, Nat.reduceMul, Nat.reduceLeDiff, Nat.reduceEqDiff, Nat.reduceLT, Nat.zero_le, Nat.le_refl, Nat.zero_add, avs_len]
          refine ⟨⟨by first | omega | (simp only [maxLen]; omega), by first | omega | (simp only [maxLen]; omega)⟩, ?_⟩
          try simp (maxSteps := 1000000) only [ew]
          simp only [loopX_normal, St.trunc, St.keep, truncVs, truncV, AB.trunc, keepV, pureAll, AV.pure, Bool.and_self, List.drop_zero, List.drop_succ_cons, List.elem_cons, List.elem_nil, List.take_succ_cons, List.take_zero, List.map_cons, List.map_nil, List.getElem?_cons_zero, List.getElem?_cons_succ, List.length_cons, List.length_nil, Nat.reduceAdd, Nat.reduceBEq, Nat.reduceLeDiff, Nat.le_refl, Nat.zero_add, Bool.false_eq_true, ↓reduceIte]
          exact ⟨i + 1, hlt, by omega, by rw [hb, e1, ← avs_snoc, List.length_append]; rfl⟩
      · have e1 : bump id u l[i] = l[i] := bump_no (by have h2' : (l[i].id == id) = false := h2
                                                       rw [h2', Bool.false_and])
        try simp (maxSteps := 1000000) only [go_nil, go_skip, go_region, go_cond, go_blk, go_ops_nil, go_op, go_guard, opK_none, contK_some, condK_f, guardK_eq, guardV_ft, undef, callOf, fstep, gpre, gbuildB, gparts, hasBks, bkTop, gloadB, fpre, fstep0, fbinA, fbin, fbin0, fload, fcell, evParts, evOwners, fbuildSlice, felems, fappend, fpick, T, TI.isAgg, TI.zeroOk, TI.zav, setParts, partsOk, St.ev, St.put, St.shutAll, St.rehome, killV, killVs, AB.kill, AV.cells, AV.known, AV.flat, AV.pure, pureAll, AV.owners, ownersAll, Value.oneCell', List.getD_cons_zero, List.getD_cons_succ, List.set, List.map_cons, List.map_nil, List.length_cons, List.length_nil, List.all_cons, List.all_nil, List.drop_zero, List.take_succ_cons, List.take_zero, List.cons_append, List.nil_append, List.append_nil, List.getElem?_cons_zero, List.getElem?_cons_succ, List.replicate, Option.bind_some, List.getElem?_toArray, true_and, and_true, Bool.and_true, Bool.true_and, Bool.and_self, Bool.or_false, Bool.false_eq_true, ↓reduceIte, decide_true, decide_false, reduceCtorEq, Nat.reduceAdd, Nat.reduceMul, Nat.reduceLeDiff, Nat.reduceEqDiff, Nat.reduceLT, Nat.zero_le, Nat.le_refl, Nat.zero_add, avs_len]
        refine ⟨⟨by first | omega | (simp only [maxLen]; omega), by first | omega | (simp only [maxLen]; omega)⟩, ?_⟩
        try simp (maxSteps := 1000000) only [ew]
        simp only [loopX_normal, St.trunc, St.keep, truncVs, truncV, AB.trunc, keepV, pureAll, AV.pure, Bool.and_self, List.drop_zero, List.elem_cons, List.elem_nil, List.take_succ_cons, List.take_zero, List.map_cons, List.map_nil, List.getElem?_cons_zero, List.getElem?_cons_succ, List.length_cons, List.length_nil, Nat.reduceAdd, Nat.reduceBEq, Nat.reduceLeDiff, Nat.le_refl, Nat.zero_add, Bool.false_eq_true, ↓reduceIte]
        exact ⟨i + 1, hlt, by omega, by rw [hb, e1, ← avs_snoc, List.length_append]; rfl⟩
    · obtain rfl := at_end hi h
      apply hK
      simp only [Try.results40, retK, ares, Bool.and_true, Bool.true_and, AV.ofResults, St.trunc, truncVs, truncV, List.getD_cons_zero, List.getD_cons_succ, List.take_zero, List.drop_zero, List.map_nil, List.getElem?_cons_zero, Nat.le_refl, true_and, and_true, ↓reduceIte, List.cons.injEq, exists_eq_left']
      rw [List.take_length, sl_full (by rw [avs_len])]
end Go.Proofs.Ytfkpjdcjjfpigaa
namespace Go.Proofs.Ytfkpjdcjjfpigaa
open Go Go.Proofs.Ytfkpjdcjjfpigaa.Sym
set_option maxRecDepth 100000
set_option linter.unusedSimpArgs false
set_option linter.unusedVariables false

theorem new_Beat (l : List Ses) (id u : Int) (hr : Up l) (hlen : l.length ≤ 900000) :
    ACall P 37 [] [.sl 4 (avs l), i64 id, u64 u] (fun x m' => x = .tup [.own 0 4 0 (beatF l id u).1.length, i64 (beatF l id u).2] ∧ m' = [.row 41 4 (avs (beatF l id u).1)]) := by
  refine ACallN.toA (acallM_go tyOk Try.func37 rfl rfl (N := 0) (M := 1) (Nat.zero_le _) (by simp) ?_)
  intro K hK
  simp only [Try.ntmps37, List.length_cons, List.length_nil, Nat.reduceAdd, Nat.reduceSub, List.replicate, List.cons_append, List.nil_append]
  try simp (maxSteps := 1000000) only [go_region, go_seq, go_ops_nil, go_op, opK_none, opK_some, contK_some, callOf, callK_eq, callJ_nil, callD_fn, fstep, gpre, fpre, fstep0, evs, St.ev, St.put, AV.owners, ownersAll, List.getD_cons_zero, List.getD_cons_succ, List.set, List.append_nil, true_and, Bool.true_and]
  refine callG_new rfl (by first | exact Nat.zero_le _ | decide | simp) (ACallR.new (clone_ses _ (by rw [avs_len]; omega)) rfl (by first | decide | simp)) ?_
  try simp (maxSteps := 1000000) only [go_region, go_seq, go_ops_nil, go_op, opK_none, opK_some, contK_some, callOf, callK_eq, callJ_cons, fstep, gpre, fpre, fstep0, evs, St.ev, St.put, St.rehome, killV, killVs, AB.kill, AV.owners, ownersAll, ren, AB.ren, List.getD_cons_zero, List.getD_cons_succ, List.set, List.map_cons, List.map_nil, List.length_nil, List.nil_append, List.append_nil, true_and, Bool.true_and, avs_len]
  refine callO_own ?_
  try simp (maxSteps := 1000000) only [callD_fn, evs, St.ev, List.getD_cons_zero, List.getD_cons_succ, List.append_nil]
  refine callG_lend (find_ses l hr id (by omega)) ?_ rfl ?_
  · simp only [truncVs]
    rw [truncV_own (xs := avs l) rfl (avs_len l)]
    rfl
  rw [has_at hr]
  unfold beatF at hK
  try simp (maxSteps := 1000000) only [go_region, go_seq, go_cond, go_ops_nil, go_op, opK_none, contK_some, callOf, fstep, gpre, fpre, fstep0, funary, St.ev, St.put, List.getD_cons_zero, List.getD_cons_succ, List.set, List.length_cons, List.length_nil, true_and, Bool.true_and, Nat.reduceAdd, Nat.reduceLT, Nat.zero_add]
  cases h : has l id
  · rw [h, if_neg (by decide)] at hK
    try simp (maxSteps := 1000000) only [go_region, go_seq, go_ret, go_ops_nil, go_op, opK_none, contK_some, condK_t, callOf, fstep, gpre, fpre, fstep0, St.ev, St.put, List.getD_cons_zero, List.getD_cons_succ, List.set, true_and, Bool.true_and, Bool.not_false]
    apply hK
    simp only [Try.results37, retK, ares, List.take_nil, Bool.and_true, AV.ofResults, St.trunc, truncVs, truncV, AB.trunc, List.getD_cons_zero, List.getD_cons_succ, List.take_succ_cons, List.map_nil, List.map_cons, Nat.reduceLeDiff, and_true, ↓reduceIte, List.cons.injEq, exists_eq_left']
  · have hlt := at_lt hr h
    have hid := at_id hr h
    have hb := bump_at hr u h
    have eg := avs_get hlt
    have c1 : (0 : Int) ≤ ((lb ltI (ids l) id : Nat) : Int) ∧ Int.toNat ((lb ltI (ids l) id : Nat) : Int) < l.length := by omega
    rw [h, if_pos rfl] at hK
    generalize l[lb ltI (ids l) id] = s at hid hb eg
    try simp (maxSteps := 1000000) only [go_skip, go_region, go_seq, go_ret, go_ops_nil, go_op, opK_none, contK_some, condK_f, callOf, fstep, gpre, gloadB, fpre, fstep0, fload, fcell, fstore, ffieldAddr, findexAddr, evs, fminmax, T, TI.isAgg, St.ev, St.put, splice, esplice, AV.cells, AV.known, AV.flat, AV.pure, Value.cells, Value.oneCell', List.getD_cons_zero, List.getD_cons_succ, List.set, List.map_cons, List.map_nil, List.length_cons, List.length_nil, List.all_cons, List.all_nil, List.drop_succ_cons, List.drop_zero, List.take_succ_cons, List.take_zero, List.headD_cons, List.cons_append, List.nil_append, List.append_nil, List.getElem?_cons_zero, List.getElem?_cons_succ, List.getElem?_toArray, true_and, and_true, Bool.and_true, Bool.true_and, Bool.and_self, Bool.not_true, Bool.false_eq_true, ↓reduceIte, reduceCtorEq, ne_eq, not_false_eq_true, Nat.reduceAdd, Nat.reduceLT, Nat.le_refl, Nat.zero_add, cond_true, eg, c1, avs_len, Ses.av]
    apply hK
    simp only [Try.results37, retK, ares, List.take_nil, Bool.and_true, AV.ofResults, St.trunc, truncVs, truncV, AB.trunc, List.getD_cons_zero, List.getD_cons_succ, List.take_succ_cons, List.map_nil, List.map_cons, Nat.reduceLeDiff, and_true, ↓reduceIte, List.cons.injEq, exists_eq_left']
    rw [bump_av hid, Int.toNat_natCast, avs_set, hb, List.length_map]
    exact ⟨rfl, rfl⟩

theorem new_Clear (l : List Ses) (id : Int) (hr : Up l) (hlen : l.length ≤ 900000) (h : has l id = true) :
    ACall P 38 [] [.sl 4 (avs l), i64 id] (fun x m' => x = .tup [.own 0 4 0 (clear l id).length, i64 0] ∧ m' = [.row 41 4 (avs (clear l id) ++ [zses])]) := by
  refine ACallN.toA (acallM_go tyOk Try.func38 rfl rfl (N := 0) (M := 1) (Nat.zero_le _) (by simp) ?_)
  intro K hK
  simp only [Try.ntmps38, List.length_cons, List.length_nil, Nat.reduceAdd, Nat.reduceSub, List.replicate, List.cons_append, List.nil_append]
  try simp (maxSteps := 1000000) only [go_region, go_seq, go_ops_nil, go_op, opK_none, opK_some, contK_some, callOf, callK_eq, callJ_nil, callD_fn, fstep, gpre, fpre, fstep0, evs, St.ev, St.put, AV.owners, ownersAll, List.getD_cons_zero, List.getD_cons_succ, List.set, List.append_nil, true_and, Bool.true_and]
  refine callG_new rfl (by first | exact Nat.zero_le _ | decide | simp) (ACallR.new (clone_ses _ (by rw [avs_len]; omega)) rfl (by first | decide | simp)) ?_
  try simp (maxSteps := 1000000) only [go_region, go_seq, go_ops_nil, go_op, opK_none, opK_some, contK_some, callOf, callK_eq, callJ_cons, fstep, gpre, fpre, fstep0, evs, St.ev, St.put, St.rehome, killV, killVs, AB.kill, AV.owners, ownersAll, ren, AB.ren, List.getD_cons_zero, List.getD_cons_succ, List.set, List.map_cons, List.map_nil, List.length_nil, List.nil_append, List.append_nil, true_and, Bool.true_and, avs_len]
  refine callO_own ?_
  try simp (maxSteps := 1000000) only [callD_fn, evs, St.ev, List.getD_cons_zero, List.getD_cons_succ, List.append_nil]
  refine callG_lend (find_ses l hr id (by omega)) ?_ rfl ?_
  · simp only [truncVs]
    rw [truncV_own (xs := avs l) rfl (avs_len l)]
    rfl
  rw [has_at hr]
  have hc := clear_at hr id
  have hlt := at_lt hr h
  have ew : IntKind.i64.wrap (((lb ltI (ids l) id : Nat) : Int) + 1) = ((lb ltI (ids l) id + 1 : Nat) : Int) := by rw [wrap_i64 (by omega) (by omega)]; rfl
  rw [h, if_pos (by rfl)] at hc
  rw [← hc] at hK
  rw [h]
  try simp (maxSteps := 1000000) only [go_skip, go_region, go_seq, go_cond, go_ops_nil, go_op, opK_none, opK_some, contK_some, condK_f, callOf, callK_eq, callJ_cons, fstep, gpre, fpre, fstep0, fbinA, fbin, fbin0, funary, evs, St.ev, St.put, AV.owners, ownersAll, List.getD_cons_zero, List.getD_cons_succ, List.set, List.length_cons, List.length_nil, List.append_nil, true_and, Bool.true_and, Bool.not_true, Nat.reduceAdd, Nat.reduceLT, Nat.zero_add, ew]
  refine callO_own ?_
  try simp (maxSteps := 1000000) only [callD_fn, evs, St.ev, List.getD_cons_zero, List.getD_cons_succ, List.append_nil]
  have hdel := delete_ses (avs l) (lb ltI (ids l) id) (by rw [avs_len]; exact hlt) (by rw [avs_len]; omega)
  rw [avs_len] at hdel
  (refine callG_frame hdel [0] (by decide) rfl rfl rfl rfl ?_; rintro _ _ ⟨rfl, rfl⟩; refine ⟨rfl, ?_⟩)
  try simp (maxSteps := 1000000) only [go_ret, go_ops_nil, go_op, opK_none, contK_some, callOf, fstep, gpre, fpre, fstep0, St.ev, St.put, ren, AB.ren, renM, putL, List.getD_cons_zero, List.getD_cons_succ, List.set, true_and, Bool.true_and]
  apply hK
  simp only [Try.results38, retK, ares, List.take_nil, Bool.and_true, AV.ofResults, St.trunc, truncVs, truncV, AB.trunc, List.getD_cons_zero, List.getD_cons_succ, List.take_succ_cons, List.map_nil, List.map_cons, Nat.reduceLeDiff, and_true, ↓reduceIte, List.cons.injEq, exists_eq_left']
  simp only [avs, List.map_append, List.map_take, List.map_drop]
  have hl2 : l.length - 1 = (l.take (lb ltI (ids l) id) ++ l.drop (lb ltI (ids l) id + 1)).length := by simp; omega
  rw [hl2]
  first | exact ⟨trivial, rfl⟩ | exact ⟨rfl, rfl⟩ | simp

theorem new_Purge (l : List Ses) (now : Int) (hlen : l.length ≤ 1000000) :
    ACall P 36 [] [.sl 4 (avs l), u64 now] (fun x m' => x = .own 1 4 0 (lives now l).length ∧ m' = [.box [u64 now], .row 41 4 (avs (lives now l))]) := by
  refine ACall.weaken (K := fun x m' => x = .own 1 4 0 (lives now l).length ∧ ∃ g, m' = [.box [u64 now], .row 41 4 (avs (lives now l) ++ g)]) (ACallN.toA (acallM_go tyOk Try.func36 rfl rfl (N := 0) (M := 2) (Nat.zero_le _) (by simp) ?_)) ?_
  · intro K hK
    simp only [Try.ntmps36, List.length_cons, List.length_nil, Nat.reduceAdd, Nat.reduceSub, List.replicate, List.cons_append, List.nil_append]
    try simp (maxSteps := 1000000) only [go_region, go_seq, go_ops_nil, go_op, opK_none, opK_some, contK_some, callOf, callK_eq, callJ_nil, callD_fn, fstep, gpre, fpre, fstep0, evs, St.ev, St.put, AV.cells, AV.known, AV.owners, ownersAll, Value.cells, List.getD_cons_zero, List.getD_cons_succ, List.set, List.map_cons, List.map_nil, List.length_nil, List.nil_append, List.append_nil, true_and, Bool.true_and]
    refine callG_new rfl (by first | exact Nat.zero_le _ | decide | simp) (ACallR.new (clone_ses _ (by rw [avs_len]; exact hlen)) rfl (by first | decide | simp)) ?_
    try simp (maxSteps := 1000000) only [go_op, opK_none, opK_some, contK_some, callOf, callK_eq, callJ_cons, fstep, gpre, fpre, fstep0, evs, St.ev, St.put, St.rehome, killV, killVs, AB.kill, AV.owners, ownersAll, ren, AB.ren, List.getD_cons_zero, List.getD_cons_succ, List.set, List.map_cons, List.map_nil, List.length_cons, List.length_nil, List.cons_append, List.nil_append, List.append_nil, List.size_toArray, true_and, Bool.true_and, ↓reduceIte, reduceCtorEq, Nat.zero_add, avs_len]
    refine callO_own ?_
    try simp (maxSteps := 1000000) only [callD_fn, evs, St.ev, List.getD_cons_zero, List.getD_cons_succ, List.append_nil]
    refine callG_frame (delete_dead now l hlen) [0, 1] (by decide) rfl rfl rfl rfl ?_
    rintro _ _ ⟨rfl, g, rfl⟩
    refine ⟨rfl, ?_⟩
    try simp (maxSteps := 1000000) only [go_ret, go_ops_nil, go_op, opK_none, contK_some, callOf, fstep, gpre, fpre, fstep0, St.ev, St.put, ren, renAll, AB.ren, renM, putL, List.getD_cons_zero, List.getD_cons_succ, List.set, true_and, Bool.true_and]
    apply hK
    simp only [Try.results36, retK, ares, List.take_nil, Bool.and_true, Bool.true_and, AV.ofResults, St.trunc, truncVs, truncV, AB.trunc, List.getD_cons_zero, List.getD_cons_succ, List.take_succ_cons, List.map_nil, List.map_cons, Nat.reduceLeDiff, true_and, and_true, ↓reduceIte, List.cons.injEq, exists_eq_left']
    first | exact ⟨g, rfl⟩ | exact ⟨rfl, g, rfl⟩
  · rintro x m' ⟨rfl, g, rfl⟩
    exact ⟨_, _, Turns.short (b := 1) rfl, rfl, rfl⟩
end Go.Proofs.Ytfkpjdcjjfpigaa
