/- OmapPlays. -/
import Derived.Test.YtfkpjdcjjfpigaaRef04
namespace Go.Proofs.Ytfkpjdcjjfpigaa
open Go Go.Proofs.Ytfkpjdcjjfpigaa.Sym
set_option maxRecDepth 100000
set_option linter.unusedSimpArgs false
set_option linter.unusedVariables false

def stepS (k : ByteArray) (s : Int × Bool) (p : ByteArray × Int) : Int × Bool := if eqS p.1 k = true then (p.2, true) else s
def scanS (k : ByteArray) (l : Prs) : Int × Bool := l.foldl (stepS k) (0, false)
theorem scan_next {k : ByteArray} {l : Prs} {i : Nat} (h : i < l.length) : scanS k (l.take (i + 1)) = stepS k (scanS k (l.take i)) l[i] := by
  rw [take_one h, scanS, List.foldl_append]; rfl
theorem scan_skip {k : ByteArray} {l : Prs} (h : ∀ p ∈ l, eqS p.1 k = false) : ∀ s, l.foldl (stepS k) s = s := by
  induction l with
  | nil => intro s; rfl
  | cons x xs ih =>
    intro s
    have e : stepS k s x = s := by simp [stepS, h x List.mem_cons_self]
    rw [List.foldl_cons, e, ih (fun p hp => h p (List.mem_cons_of_mem _ hp))]
theorem scan_get {m : Prs} (hr : rises_si m) (k : ByteArray) : scanS k m = getG ltS eqS 0 m k := by
  by_cases hk : k ∈ m.map Prod.fst
  · obtain ⟨⟨k', x⟩, hp, rfl⟩ := List.mem_map.1 hk
    rw [get_mem ordS eqS_iff hr hp]
    obtain ⟨l1, l2, rfl⟩ := List.mem_iff_append.1 hp
    have h2 := (List.pairwise_append.1 (risesM_iff.1 hr)).2.1
    have h3 := (List.pairwise_cons.1 h2).1
    rw [scanS, List.foldl_append, List.foldl_cons, scan_skip]
    · simp only [stepS, (eqS_iff _ _).2 rfl, if_true]
    · intro p hp2
      cases hc : eqS p.1 k' with
      | false => rfl
      | true =>
        have h4 := h3 p hp2
        rw [(eqS_iff _ _).1 hc, ordS.irrefl] at h4; cases h4
  · rw [get_none ordS eqS_iff hr hk, scanS, scan_skip]
    intro p hp
    cases hc : eqS p.1 k with
    | false => rfl
    | true => exact absurd (List.mem_map.2 ⟨p, hp, (eqS_iff _ _).1 hc⟩) hk

theorem law_plays (l : List ActO) (hl : l.length ≤ maxLen) (hs : ∀ a ∈ l, a.k.size ≤ maxLen) (k : ByteArray) :
    PCall P 7 [.sl 3 (acts l), str k] (fun x => x = .v (.bool true)) := by
  refine pcall_go tyOk Try.func7 rfl rfl ?_
  intro K hK
  simp only [Try.ntmps7, List.length_cons, List.length_nil, Nat.reduceAdd, Nat.reduceSub, List.replicate, List.cons_append, List.nil_append]
  try simp (maxSteps := 1000000) only [go_region, go_seq, go_ops_nil, go_op, opK_none, opK_some, contK_some, callOf, callK_eq, callJ_nil, callD_fn, fstep, fpre, fstep0, evs, St.ev, St.put, ownersAll, List.set, List.append_nil, true_and, Bool.true_and]
  (refine callG_use law04_awake rfl ?_; rintro _ rfl)
  try simp (maxSteps := 1000000) only [go_op, go_guard, opK_none, opK_some, contK_some, guardK_eq, guardV_ff, callOf, callK_eq, callJ_nil, callD_fn, fstep, fpre, fstep0, funary, evs, St.ev, St.put, AV.owners, ownersAll, List.getD_cons_zero, List.getD_cons_succ, List.set, List.append_nil, List.getElem?_cons_zero, List.getElem?_cons_succ, Option.bind_some, List.getElem?_toArray, true_and, Bool.true_and, Bool.not_true]
  (refine callG_use (law04_long l hl hs) rfl ?_; rintro _ rfl)
  try simp (maxSteps := 1000000) only [go_op, go_guard, opK_none, contK_some, guardK_eq, callOf, fstep, fpre, fstep0, fpick, St.ev, St.put, List.getD_cons_zero, List.getD_cons_succ, List.set, List.getElem?_cons_zero, List.getElem?_cons_succ, Option.bind_some, List.getElem?_toArray, true_and, Bool.true_and, cond_false]
  (first | refine guardV_split ?_ ?_ | refine condK_split ?_ ?_ | refine drawV_split ?_ ?_ | refine condY_split ?_ ?_ | refine guardY_split ?_ ?_) <;> intro h0
  · try simp (maxSteps := 1000000) only [go_region, go_seq, go_cond, go_ops_nil, go_op, go_guard, opK_none, opK_some, contK_some, condK_t, guardK_eq, guardV_tf, undef, callOf, callK_eq, callJ_nil, callD_fn, fstep, fpre, fstep0, evs, fpick, St.ev, St.put, ownersAll, List.getD_cons_zero, List.getD_cons_succ, List.set, List.append_nil, List.getElem?_cons_zero, List.getElem?_cons_succ, Option.bind_some, List.getElem?_toArray, true_and, Bool.true_and, ↓reduceIte]
    (refine callG_use law04_awake rfl ?_; rintro _ rfl)
    try simp (maxSteps := 1000000) only [go_ret, go_ops_nil, go_op, opK_none, contK_some, callOf, fstep, fpre, fstep0, St.ev, St.put, List.getD_cons_zero, List.getD_cons_succ, List.set, true_and, Bool.true_and]
    apply hK
    simp only [Try.results7, retK, ares, List.take_nil, Bool.and_true, Bool.true_and, AV.ofResults, St.trunc, truncVs, truncV, List.getD_cons_zero, List.getD_cons_succ, List.map_nil, true_and, and_true, List.cons.injEq, exists_eq_left']
  try simp (maxSteps := 1000000) only [go_cond, go_ops_nil, go_op, go_guard, opK_none, contK_some, guardK_eq, guardV_ff, callOf, fstep, fpre, fstep0, fbinA, fbin, fbin0, flen, fpick, T, St.ev, St.put, List.getD_cons_zero, List.getD_cons_succ, List.set, List.getElem?_cons_zero, List.getElem?_cons_succ, Option.bind_some, List.getElem?_toArray, true_and, Bool.true_and, cond_false]
  (first | refine guardV_split ?_ ?_ | refine condK_split ?_ ?_ | refine drawV_split ?_ ?_ | refine condY_split ?_ ?_ | refine guardY_split ?_ ?_) <;> intro h1
  · try simp (maxSteps := 1000000) only [go_region, go_seq, go_op, opK_some, condK_t, callOf, callK_eq, callJ_nil, callD_fn, evs, St.ev, ownersAll, List.append_nil]
    (refine callG_use law04_awake rfl ?_; rintro _ rfl)
    try simp (maxSteps := 1000000) only [go_ret, go_ops_nil, go_op, opK_none, contK_some, callOf, fstep, fpre, fstep0, St.ev, St.put, List.getD_cons_zero, List.getD_cons_succ, List.set, true_and, Bool.true_and]
    apply hK
    simp only [Try.results7, retK, ares, List.take_nil, Bool.and_true, Bool.true_and, AV.ofResults, St.trunc, truncVs, truncV, List.getD_cons_zero, List.getD_cons_succ, List.map_nil, true_and, and_true, List.cons.injEq, exists_eq_left']
  have hlen := long_few h0
  try simp (maxSteps := 1000000) only [go_skip, go_region, go_seq, go_block, go_loop, go_ops_nil, go_op, opK_none, contK_some, condK_f, callOf, fstep, fpre, fstep0, T, St.ev, St.put, List.set, List.map_cons, List.map_nil, List.length_nil, List.nil_append, true_and, Bool.true_and]
  refine loopK_turn (Turns.asSl (i := 6) 2 rfl) ?_
  refine loopK_ruleT tyOk (α := Nat) 1 [0, 1, 5, 6, 7] (fun i => i ≤ l.length)
    (fun i => ⟨[.sl 3 (acts l), str k, .any, .any, .any, .ptr 0 0, .sl 2 (prs (actsF (l.take i))), i64 i, .any, .any, .any, .any, .any, .any, .any, .any, .any, .any, .any, .any, .any, .any, .any, .any, .any, .any, .any, .any, .any, .any, .any, .any, .any, .any, .any, .any, .any, .any, .any, .any, .any, .any, .any, .any, .any, .any, .any, .any, .any, .any, .any, .any, .any, .any, .any, .any, .any, .any, .any, .any, .any, .any, .any, .any, .any, .any, .any, .any, .any, .any, .any, .any, .any, .any, .any, .any, .any, .any, .any, .any, .any, .any, .any, .any, .any, .any, .any, .any, .any, .any, .any, .any, .any, .any, .any, .any, .any, .any, .any, .any, .any, .any, .any, .any, .any, .any, .any, .any, .any, .any, .any, .any, .any, .any, .any, .any, .any, .any, .any, .any], [.box [.sl 1 ((actsF (l.take i)).map fun p => str p.1), .sl 1 ((actsF (l.take i)).map fun p => i64 p.2)]]⟩)
    (fun i => l.length - i) 0 (Nat.zero_le _) (Nat.zero_le _) (Turns.weak (weaks_refl _) ⟨_, _, rfl, ⟨_, rfl, _, _, rfl, weak_nil 1, _, _, rfl, weak_nil 1, rfl⟩, rfl⟩) ?_
  intro i hi
  have hput := acts_ok (l.take i)
  have hpl : (actsF (l.take i)).length ≤ 200 := by have := hput.2; rw [List.length_take] at this; omega
  try simp (maxSteps := 1000000) only [go_region, go_seq, go_cond, go_ops_nil, go_op, opK_none, contK_some, callOf, fstep, fpre, fstep0, fbinA, fbin, fbin0, flen, T, St.ev, St.put, List.getD_cons_zero, List.getD_cons_succ, List.set, true_and, Bool.true_and, acts_len]
  (first | refine guardV_split ?_ ?_ | refine condK_split ?_ ?_ | refine drawV_split ?_ ?_ | refine condY_split ?_ ?_ | refine guardY_split ?_ ?_) <;> intro h
  · obtain ⟨hlt, eg, ew, c1⟩ := at_idx (by omega) h
    obtain ⟨M, hM⟩ : ∃ M, actsF (l.take i) = M := ⟨_, rfl⟩
    obtain ⟨X, hX⟩ : ∃ X, actF M l[i] = X := ⟨_, rfl⟩
    rw [hM] at hput hpl ⊢
    try simp (maxSteps := 1000000) only [go_skip, go_region, go_seq, go_cond, go_block, go_ops_nil, go_op, opK_none, contK_some, condK_t, callOf, fstep, fpre, fstep0, fload, fcell, ffieldAddr, findexAddr, T, TI.isAgg, St.ev, St.put, AV.cells, AV.known, List.getD_cons_zero, List.getD_cons_succ, List.set, List.map_cons, List.map_nil, List.length_cons, List.length_nil, List.drop_zero, List.headD_cons, List.cons_append, List.nil_append, List.getElem?_cons_zero, List.getElem?_toArray, true_and, and_true, Bool.and_true, Bool.true_and, Bool.false_eq_true, ↓reduceIte, reduceCtorEq, ne_eq, not_false_eq_true, Nat.reduceAdd, Nat.reduceLT, Nat.zero_add, eg, c1, acts_len]
    (first | refine guardV_split ?_ ?_ | refine condK_split ?_ ?_ | refine drawV_split ?_ ?_ | refine condY_split ?_ ?_ | refine guardY_split ?_ ?_) <;> intro h2
    · have hX2 : withoutG ltS eqS M l[i].k = X := by rw [← hX, actF, if_pos h2]
      try simp (maxSteps := 1000000) only [go_draws, condK_t]
      refine draw_rule tyOk (by rfl) (by simp only [List.length_cons, List.length_nil, Nat.reduceAdd, Nat.zero_le]) (by kernel_rfl) rfl ?_
      try simp (maxSteps := 1000000) only [callOf, fstep0, newF, fload, fcell, ffieldAddr, findexAddr, evs, T, TI.isAgg, St.ev, St.put, AV.cells, AV.known, List.getD_cons_zero, List.getD_cons_succ, List.set, List.length_cons, List.length_nil, List.drop_succ_cons, List.drop_zero, List.take_succ_cons, List.take_zero, List.headD_cons, List.append_nil, List.getElem?_cons_zero, List.getElem?_cons_succ, List.replicate, List.getElem?_toArray, true_and, and_true, Bool.and_true, Bool.true_and, Bool.or_false, Bool.false_eq_true, ↓reduceIte, reduceCtorEq, ne_eq, not_false_eq_true, Nat.reduceAdd, Nat.reduceLT, Nat.le_refl, Nat.add_zero, Nat.zero_add, Nat.reduceBEq, newCount, drawR_op, drawP_none, drawP_some, drawQ_some, drawH_fn, dstep, isFree, St.app, bump, isNew, eg, c1, acts_len]
      refine drawCall_use (without_call_si M l[i].k hput.1 (by omega)) rfl ?_
      try simp (maxSteps := 1000000) only [callOf, fstep0, newF, fload, fcell, ffieldAddr, findexAddr, evs, T, TI.isAgg, St.ev, St.put, AV.cells, AV.known, List.getD_cons_zero, List.getD_cons_succ, List.set, List.length_cons, List.length_nil, List.drop_succ_cons, List.drop_zero, List.headD_cons, List.append_nil, List.getElem?_cons_zero, List.getElem?_cons_succ, List.getElem?_toArray, true_and, and_true, Bool.and_true, Bool.true_and, Bool.or_false, Bool.false_eq_true, ↓reduceIte, reduceCtorEq, ne_eq, not_false_eq_true, Nat.reduceAdd, Nat.reduceLT, Nat.zero_add, Nat.reduceBEq, drawR_op, drawP_none, drawP_some, drawQ_some, drawH_fn, dstep, isFree, St.app, bump, isNew, eg, c1, acts_len]
      refine drawCall_use (ref04_Without M l[i].k (by omega)) rfl ?_
      rw [outF_eq hput.1, hX2]
      try simp (maxSteps := 1000000) only [go_region, go_seq, go_op, opK_none, opK_some, contK_some, callOf, callK_eq, callJ_nil, callD_fn, fstep, fpre, fstep0, newF, fload, fcell, evs, T, TI.isAgg, St.ev, St.put, splice, AV.cells, AV.known, AV.flat, AV.owners, ownersAll, List.getD_cons_zero, List.getD_cons_succ, List.set, List.length_cons, List.length_nil, List.all_cons, List.all_nil, List.drop_succ_cons, List.drop_zero, List.take_succ_cons, List.take_zero, List.nil_append, List.append_nil, List.getElem?_cons_zero, List.getElem?_cons_succ, true_and, and_true, Bool.and_true, Bool.true_and, Bool.and_self, Bool.or_false, Bool.false_eq_true, ↓reduceIte, Nat.reduceAdd, Nat.le_refl, Nat.zero_add, Nat.reduceBEq, drawR_nil, drawR_op, drawP_none, drawQ_some, dstep, isFree, dstore, St.app, bump, isNew, map_si]
      refine ⟨by kernel_rfl, ?_⟩
      have hXr : rises_si X := by rw [← hX]; exact actF_rises hput.1
      have hXl : X.length ≤ 201 := by rw [← hX]; exact Nat.le_trans actF_len (by omega)
      skip
      (refine callG_use (is_call M (by omega)) rfl ?_; rintro _ rfl)
      try simp (maxSteps := 1000000) only [go_op, go_guard, opK_none, opK_some, contK_some, guardK_eq, guardV_ff, callOf, callK_eq, callJ_nil, callD_fn, fstep, fpre, fstep0, fload, fcell, funary, evs, T, TI.isAgg, St.ev, St.put, AV.owners, ownersAll, List.getD_cons_zero, List.getD_cons_succ, List.set, List.length_cons, List.length_nil, List.drop_zero, List.take_succ_cons, List.take_zero, List.append_nil, List.getElem?_cons_zero, List.getElem?_cons_succ, Option.bind_some, List.getElem?_toArray, true_and, Bool.true_and, Bool.not_true, ↓reduceIte, Nat.reduceAdd, Nat.le_refl, Nat.zero_add]
      (refine callG_use (is_call X (by omega)) rfl ?_; rintro _ rfl)
      try simp (maxSteps := 1000000) only [go_skip, go_region, go_seq, go_cond, go_ops_nil, go_op, go_guard, opK_none, opK_some, contK_some, condK_f, guardK_eq, guardV_ff, callOf, callK_eq, callJ_nil, callD_fn, fstep, fpre, fstep0, fload, fcell, fstore, funary, evs, fpick, T, TI.isAgg, St.ev, St.put, splice, AV.cells, AV.known, AV.flat, AV.owners, ownersAll, List.getD_cons_zero, List.getD_cons_succ, List.set, List.length_cons, List.length_nil, List.all_cons, List.all_nil, List.drop_succ_cons, List.drop_zero, List.take_succ_cons, List.take_zero, List.nil_append, List.append_nil, List.getElem?_cons_zero, List.getElem?_cons_succ, Option.bind_some, List.getElem?_toArray, true_and, and_true, Bool.and_true, Bool.true_and, Bool.and_self, Bool.not_true, ↓reduceIte, Nat.reduceAdd, Nat.le_refl, Nat.zero_add, cond_false]
      (refine callG_use (get_call_si X k hXr (by omega)) rfl ?_; rintro _ rfl)
      try simp (maxSteps := 1000000) only [go_region, go_seq, go_block, go_loop, go_ops_nil, go_op, opK_none, contK_some, callOf, fstep, fpre, fstep0, St.ev, St.put, List.getD_cons_zero, List.getD_cons_succ, List.set, List.length_cons, List.length_nil, true_and, Bool.true_and, Nat.reduceAdd, Nat.reduceLT, Nat.zero_add]
      refine loopK_rule tyOk (α := Nat) 1 [0, 1, 5, 6, 7, 10, 11, 12, 13, 14] (fun j => j ≤ X.length)
        (fun j => ⟨[.sl 3 (acts l), str k, .any, .any, .any, .ptr 0 0, .sl 2 (prs X), i64 i, .any, .any, i64 (getG ltS eqS 0 X k).1, bool (getG ltS eqS 0 X k).2, i64 (scanS k (X.take j)).1, bool (scanS k (X.take j)).2, i64 j, .any, .any, .any, .any, .any, .any, .any, .any, .any, .any, .any, .any, .any, .any, .any, .any, .any, .any, .any, .any, .any, .any, .any, .any, .any, .any, .any, .any, .any, .any, .any, .any, .any, .any, .any, .any, .any, .any, .any, .any, .any, .any, .any, .any, .any, .any, .any, .any, .any, .any, .any, .any, .any, .any, .any, .any, .any, .any, .any, .any, .any, .any, .any, .any, .any, .any, .any, .any, .any, .any, .any, .any, .any, .any, .any, .any, .any, .any, .any, .any, .any, .any, .any, .any, .any, .any, .any, .any, .any, .any, .any, .any, .any, .any, .any, .any, .any, .any, .any, .any, .any, .any, .any, .any, .any], [.box [.sl 1 (X.map fun p => str p.1), .sl 1 (X.map fun p => i64 p.2)]]⟩)
        (fun j => X.length - j) 0 (Nat.zero_le _) (Nat.zero_le _) rfl ?_
      intro j hj
      try simp (maxSteps := 1000000) only [go_region, go_seq, go_cond, go_ops_nil, go_op, opK_none, contK_some, callOf, fstep, fpre, fstep0, fbinA, fbin, fbin0, flen, T, St.ev, St.put, List.getD_cons_zero, List.getD_cons_succ, List.set, true_and, Bool.true_and, prs_len]
      (first | refine guardV_split ?_ ?_ | refine condK_split ?_ ?_ | refine drawV_split ?_ ?_ | refine condY_split ?_ ?_ | refine guardY_split ?_ ?_) <;> intro hh <;> try simp (maxSteps := 1000000) only [go_skip, go_region, go_seq, go_block, go_exit, exitK_code, exitK_blk, exitK_nil, go_op, go_guard, opK_none, contK_some, condK_t, condK_f, guardK_eq, callOf, fstep, fpre, fpost, fstep0, fbinA, gbin, gbits, gnil, isSliceTy, fbin, fbin0, fbinS, fload, fcell, ffieldAddr, findexAddr, isBoolTy, T, TI.isAgg, St.ev, St.put, AV.cells, AV.known, Value.cells, List.getD_cons_zero, List.getD_cons_succ, List.set, List.drop_zero, List.getElem?_cons_zero, List.getElem?_cons_succ, Option.bind_some, List.getElem?_toArray, true_and, Bool.true_and, Bool.false_eq_true, ↓reduceIte, reduceCtorEq, ne_eq, not_false_eq_true, loopX_exit]
      · obtain ⟨hlt2, eg2, ew2, c2⟩ := pr_idx (by omega) hh
        have hnext := scan_next (k := k) hlt2
        try simp (maxSteps := 1000000) only [go_cond, go_ops_nil, contK_some, St.ev, St.put, List.getD_cons_zero, List.getD_cons_succ, List.set, List.length_cons, List.length_nil, List.headD_cons, true_and, and_true, Bool.and_true, Bool.true_and, Nat.reduceAdd, Nat.reduceLT, Nat.zero_add, eg2, c2, prs_len]
        (first | refine guardV_split ?_ ?_ | refine condK_split ?_ ?_ | refine drawV_split ?_ ?_ | refine condY_split ?_ ?_ | refine guardY_split ?_ ?_) <;> intro h4
        · have en : stepS k (scanS k (X.take j)) X[j] = (X[j].2, true) := by
            have h5 : eqS X[j].1 k = true := h4
            simp [stepS, h5]
          try simp (maxSteps := 1000000) only [go_nil, go_region, go_blk, go_ops_nil, go_op, opK_none, contK_some, condK_t, callOf, fstep, fpre, fstep0, fbinA, fbin, fbin0, fload, fcell, ffieldAddr, findexAddr, T, TI.isAgg, St.ev, St.put, AV.cells, AV.known, List.getD_cons_zero, List.getD_cons_succ, List.set, List.length_cons, List.length_nil, List.drop_succ_cons, List.drop_zero, List.headD_cons, List.getElem?_cons_zero, List.getElem?_cons_succ, List.getElem?_toArray, true_and, and_true, Bool.and_true, Bool.true_and, Bool.false_eq_true, ↓reduceIte, reduceCtorEq, ne_eq, not_false_eq_true, Nat.reduceLT, Nat.zero_add, eg2, c2, prs_len, ew2]
          simp only [loopX_normal, St.trunc, St.keep, truncVs, truncV, AB.trunc, keepV, List.elem_cons, List.elem_nil, List.take_succ_cons, List.take_zero, List.map_cons, List.map_nil, Nat.reduceAdd, Nat.reduceBEq, Nat.reduceLeDiff, Nat.zero_add, Bool.false_eq_true, ↓reduceIte]
          exact ⟨j + 1, hlt2, by omega, by rw [hnext, en]⟩
        · have en : stepS k (scanS k (X.take j)) X[j] = scanS k (X.take j) := by
            have h5 : eqS X[j].1 k = false := h4
            simp [stepS, h5]
          try simp (maxSteps := 1000000) only [go_nil, go_skip, go_region, go_blk, go_ops_nil, go_op, opK_none, contK_some, condK_f, callOf, fstep, fpre, fstep0, fbinA, fbin, fbin0, St.ev, St.put, List.getD_cons_zero, List.getD_cons_succ, List.set, true_and, Bool.true_and, ew2]
          simp only [loopX_normal, St.trunc, St.keep, truncVs, truncV, AB.trunc, keepV, List.elem_cons, List.elem_nil, List.take_succ_cons, List.take_zero, List.map_cons, List.map_nil, Nat.reduceAdd, Nat.reduceBEq, Nat.reduceLeDiff, Nat.zero_add, Bool.false_eq_true, ↓reduceIte]
          exact ⟨j + 1, hlt2, by omega, by rw [hnext, en]⟩
      · obtain rfl := at_end hj hh
        have es := scan_get hXr k
        rw [List.take_length, es]
        try simp (maxSteps := 1000000) only [go_nil, go_skip, go_region, go_cond, go_blk, go_ops_nil, go_op, go_guard, opK_none, contK_some, condK_f, guardK_eq, guardV_ff, callOf, fstep, fpre, fstep0, fbinA, fbin, fbin0, fpick, isBoolTy, T, St.ev, St.put, List.getD_cons_zero, List.getD_cons_succ, List.set, List.getElem?_cons_zero, List.getElem?_cons_succ, Option.bind_some, List.getElem?_toArray, true_and, Bool.true_and, cond_false, bne_self_eq_false]
        try simp (maxSteps := 1000000) only [ew]
        simp only [loopT_normal, St.trunc, St.keep, truncVs, truncV, AB.trunc, keepV, List.elem_cons, List.elem_nil, List.take_succ_cons, List.take_zero, List.map_cons, List.map_nil, Nat.reduceAdd, Nat.reduceBEq, Nat.reduceLeDiff, Nat.zero_add, Bool.false_eq_true, ↓reduceIte]
        refine ⟨i + 1, hlt, by omega, ?_⟩
        rw [acts_next hlt, hM, hX]
        exact Turns.refl _
    · have hX2 : withG ltS eqS M l[i].k l[i].v = X := by rw [← hX, actF, if_neg (by rw [h2]; decide)]
      try simp (maxSteps := 1000000) only [go_draws, condK_f]
      refine draw_rule tyOk (by rfl) (by simp only [List.length_cons, List.length_nil, Nat.reduceAdd, Nat.zero_le]) (by kernel_rfl) rfl ?_
      try simp (maxSteps := 1000000) only [callOf, fstep0, newF, fload, fcell, ffieldAddr, findexAddr, evs, T, TI.isAgg, St.ev, St.put, AV.cells, AV.known, List.getD_cons_zero, List.getD_cons_succ, List.set, List.length_cons, List.length_nil, List.drop_succ_cons, List.drop_zero, List.take_succ_cons, List.take_zero, List.headD_cons, List.append_nil, List.getElem?_cons_zero, List.getElem?_cons_succ, List.replicate, List.getElem?_toArray, true_and, and_true, Bool.and_true, Bool.true_and, Bool.or_false, Bool.false_eq_true, ↓reduceIte, reduceCtorEq, ne_eq, not_false_eq_true, Nat.reduceAdd, Nat.reduceLT, Nat.le_refl, Nat.add_zero, Nat.zero_add, Nat.reduceBEq, newCount, drawR_op, drawP_none, drawP_some, drawQ_some, drawH_fn, dstep, isFree, St.app, bump, isNew, eg, c1, acts_len]
      refine drawCall_use (with_call_si M l[i].k l[i].v hput.1 (by omega)) rfl ?_
      try simp (maxSteps := 1000000) only [callOf, fstep0, newF, fload, fcell, ffieldAddr, findexAddr, evs, T, TI.isAgg, St.ev, St.put, AV.cells, AV.known, List.getD_cons_zero, List.getD_cons_succ, List.set, List.length_cons, List.length_nil, List.drop_succ_cons, List.drop_zero, List.headD_cons, List.append_nil, List.getElem?_cons_zero, List.getElem?_cons_succ, List.getElem?_toArray, true_and, and_true, Bool.and_true, Bool.true_and, Bool.or_false, Bool.false_eq_true, ↓reduceIte, reduceCtorEq, ne_eq, not_false_eq_true, Nat.reduceAdd, Nat.reduceLT, Nat.zero_add, Nat.reduceBEq, drawR_op, drawP_none, drawP_some, drawQ_some, drawH_fn, dstep, isFree, St.app, bump, isNew, eg, c1, acts_len]
      refine drawCall_use (ref04_With M l[i].k l[i].v (by omega)) rfl ?_
      rw [refW_eq hput.1, hX2]
      try simp (maxSteps := 1000000) only [go_region, go_seq, go_op, opK_none, opK_some, contK_some, callOf, callK_eq, callJ_nil, callD_fn, fstep, fpre, fstep0, newF, fload, fcell, evs, T, TI.isAgg, St.ev, St.put, splice, AV.cells, AV.known, AV.flat, AV.owners, ownersAll, List.getD_cons_zero, List.getD_cons_succ, List.set, List.length_cons, List.length_nil, List.all_cons, List.all_nil, List.drop_succ_cons, List.drop_zero, List.take_succ_cons, List.take_zero, List.nil_append, List.append_nil, List.getElem?_cons_zero, List.getElem?_cons_succ, true_and, and_true, Bool.and_true, Bool.true_and, Bool.and_self, Bool.or_false, Bool.false_eq_true, ↓reduceIte, Nat.reduceAdd, Nat.le_refl, Nat.zero_add, Nat.reduceBEq, drawR_nil, drawR_op, drawP_none, drawQ_some, dstep, isFree, dstore, St.app, bump, isNew, map_si]
      refine ⟨by kernel_rfl, ?_⟩
      have hXr : rises_si X := by rw [← hX]; exact actF_rises hput.1
      have hXl : X.length ≤ 201 := by rw [← hX]; exact Nat.le_trans actF_len (by omega)
      skip
      (refine callG_use (is_call M (by omega)) rfl ?_; rintro _ rfl)
      try simp (maxSteps := 1000000) only [go_op, go_guard, opK_none, opK_some, contK_some, guardK_eq, guardV_ff, callOf, callK_eq, callJ_nil, callD_fn, fstep, fpre, fstep0, fload, fcell, funary, evs, T, TI.isAgg, St.ev, St.put, AV.owners, ownersAll, List.getD_cons_zero, List.getD_cons_succ, List.set, List.length_cons, List.length_nil, List.drop_zero, List.take_succ_cons, List.take_zero, List.append_nil, List.getElem?_cons_zero, List.getElem?_cons_succ, Option.bind_some, List.getElem?_toArray, true_and, Bool.true_and, Bool.not_true, ↓reduceIte, Nat.reduceAdd, Nat.le_refl, Nat.zero_add]
      (refine callG_use (is_call X (by omega)) rfl ?_; rintro _ rfl)
      try simp (maxSteps := 1000000) only [go_skip, go_region, go_seq, go_cond, go_ops_nil, go_op, go_guard, opK_none, opK_some, contK_some, condK_f, guardK_eq, guardV_ff, callOf, callK_eq, callJ_nil, callD_fn, fstep, fpre, fstep0, fload, fcell, fstore, funary, evs, fpick, T, TI.isAgg, St.ev, St.put, splice, AV.cells, AV.known, AV.flat, AV.owners, ownersAll, List.getD_cons_zero, List.getD_cons_succ, List.set, List.length_cons, List.length_nil, List.all_cons, List.all_nil, List.drop_succ_cons, List.drop_zero, List.take_succ_cons, List.take_zero, List.nil_append, List.append_nil, List.getElem?_cons_zero, List.getElem?_cons_succ, Option.bind_some, List.getElem?_toArray, true_and, and_true, Bool.and_true, Bool.true_and, Bool.and_self, Bool.not_true, ↓reduceIte, Nat.reduceAdd, Nat.le_refl, Nat.zero_add, cond_false]
      (refine callG_use (get_call_si X k hXr (by omega)) rfl ?_; rintro _ rfl)
      try simp (maxSteps := 1000000) only [go_region, go_seq, go_block, go_loop, go_ops_nil, go_op, opK_none, contK_some, callOf, fstep, fpre, fstep0, St.ev, St.put, List.getD_cons_zero, List.getD_cons_succ, List.set, List.length_cons, List.length_nil, true_and, Bool.true_and, Nat.reduceAdd, Nat.reduceLT, Nat.zero_add]
      refine loopK_rule tyOk (α := Nat) 1 [0, 1, 5, 6, 7, 10, 11, 12, 13, 14] (fun j => j ≤ X.length)
        (fun j => ⟨[.sl 3 (acts l), str k, .any, .any, .any, .ptr 0 0, .sl 2 (prs X), i64 i, .any, .any, i64 (getG ltS eqS 0 X k).1, bool (getG ltS eqS 0 X k).2, i64 (scanS k (X.take j)).1, bool (scanS k (X.take j)).2, i64 j, .any, .any, .any, .any, .any, .any, .any, .any, .any, .any, .any, .any, .any, .any, .any, .any, .any, .any, .any, .any, .any, .any, .any, .any, .any, .any, .any, .any, .any, .any, .any, .any, .any, .any, .any, .any, .any, .any, .any, .any, .any, .any, .any, .any, .any, .any, .any, .any, .any, .any, .any, .any, .any, .any, .any, .any, .any, .any, .any, .any, .any, .any, .any, .any, .any, .any, .any, .any, .any, .any, .any, .any, .any, .any, .any, .any, .any, .any, .any, .any, .any, .any, .any, .any, .any, .any, .any, .any, .any, .any, .any, .any, .any, .any, .any, .any, .any, .any, .any, .any, .any, .any, .any, .any, .any], [.box [.sl 1 (X.map fun p => str p.1), .sl 1 (X.map fun p => i64 p.2)]]⟩)
        (fun j => X.length - j) 0 (Nat.zero_le _) (Nat.zero_le _) rfl ?_
      intro j hj
      try simp (maxSteps := 1000000) only [go_region, go_seq, go_cond, go_ops_nil, go_op, opK_none, contK_some, callOf, fstep, fpre, fstep0, fbinA, fbin, fbin0, flen, T, St.ev, St.put, List.getD_cons_zero, List.getD_cons_succ, List.set, true_and, Bool.true_and, prs_len]
      (first | refine guardV_split ?_ ?_ | refine condK_split ?_ ?_ | refine drawV_split ?_ ?_ | refine condY_split ?_ ?_ | refine guardY_split ?_ ?_) <;> intro hh <;> try simp (maxSteps := 1000000) only [go_skip, go_region, go_seq, go_block, go_exit, exitK_code, exitK_blk, exitK_nil, go_op, go_guard, opK_none, contK_some, condK_t, condK_f, guardK_eq, callOf, fstep, fpre, fpost, fstep0, fbinA, gbin, gbits, gnil, isSliceTy, fbin, fbin0, fbinS, fload, fcell, ffieldAddr, findexAddr, isBoolTy, T, TI.isAgg, St.ev, St.put, AV.cells, AV.known, Value.cells, List.getD_cons_zero, List.getD_cons_succ, List.set, List.drop_zero, List.getElem?_cons_zero, List.getElem?_cons_succ, Option.bind_some, List.getElem?_toArray, true_and, Bool.true_and, Bool.false_eq_true, ↓reduceIte, reduceCtorEq, ne_eq, not_false_eq_true, loopX_exit]
      · obtain ⟨hlt2, eg2, ew2, c2⟩ := pr_idx (by omega) hh
        have hnext := scan_next (k := k) hlt2
        try simp (maxSteps := 1000000) only [go_cond, go_ops_nil, contK_some, St.ev, St.put, List.getD_cons_zero, List.getD_cons_succ, List.set, List.length_cons, List.length_nil, List.headD_cons, true_and, and_true, Bool.and_true, Bool.true_and, Nat.reduceAdd, Nat.reduceLT, Nat.zero_add, eg2, c2, prs_len]
        (first | refine guardV_split ?_ ?_ | refine condK_split ?_ ?_ | refine drawV_split ?_ ?_ | refine condY_split ?_ ?_ | refine guardY_split ?_ ?_) <;> intro h4
        · have en : stepS k (scanS k (X.take j)) X[j] = (X[j].2, true) := by
            have h5 : eqS X[j].1 k = true := h4
            simp [stepS, h5]
          try simp (maxSteps := 1000000) only [go_nil, go_region, go_blk, go_ops_nil, go_op, opK_none, contK_some, condK_t, callOf, fstep, fpre, fstep0, fbinA, fbin, fbin0, fload, fcell, ffieldAddr, findexAddr, T, TI.isAgg, St.ev, St.put, AV.cells, AV.known, List.getD_cons_zero, List.getD_cons_succ, List.set, List.length_cons, List.length_nil, List.drop_succ_cons, List.drop_zero, List.headD_cons, List.getElem?_cons_zero, List.getElem?_cons_succ, List.getElem?_toArray, true_and, and_true, Bool.and_true, Bool.true_and, Bool.false_eq_true, ↓reduceIte, reduceCtorEq, ne_eq, not_false_eq_true, Nat.reduceLT, Nat.zero_add, eg2, c2, prs_len, ew2]
          simp only [loopX_normal, St.trunc, St.keep, truncVs, truncV, AB.trunc, keepV, List.elem_cons, List.elem_nil, List.take_succ_cons, List.take_zero, List.map_cons, List.map_nil, Nat.reduceAdd, Nat.reduceBEq, Nat.reduceLeDiff, Nat.zero_add, Bool.false_eq_true, ↓reduceIte]
          exact ⟨j + 1, hlt2, by omega, by rw [hnext, en]⟩
        · have en : stepS k (scanS k (X.take j)) X[j] = scanS k (X.take j) := by
            have h5 : eqS X[j].1 k = false := h4
            simp [stepS, h5]
          try simp (maxSteps := 1000000) only [go_nil, go_skip, go_region, go_blk, go_ops_nil, go_op, opK_none, contK_some, condK_f, callOf, fstep, fpre, fstep0, fbinA, fbin, fbin0, St.ev, St.put, List.getD_cons_zero, List.getD_cons_succ, List.set, true_and, Bool.true_and, ew2]
          simp only [loopX_normal, St.trunc, St.keep, truncVs, truncV, AB.trunc, keepV, List.elem_cons, List.elem_nil, List.take_succ_cons, List.take_zero, List.map_cons, List.map_nil, Nat.reduceAdd, Nat.reduceBEq, Nat.reduceLeDiff, Nat.zero_add, Bool.false_eq_true, ↓reduceIte]
          exact ⟨j + 1, hlt2, by omega, by rw [hnext, en]⟩
      · obtain rfl := at_end hj hh
        have es := scan_get hXr k
        rw [List.take_length, es]
        try simp (maxSteps := 1000000) only [go_nil, go_skip, go_region, go_cond, go_blk, go_ops_nil, go_op, go_guard, opK_none, contK_some, condK_f, guardK_eq, guardV_ff, callOf, fstep, fpre, fstep0, fbinA, fbin, fbin0, fpick, isBoolTy, T, St.ev, St.put, List.getD_cons_zero, List.getD_cons_succ, List.set, List.getElem?_cons_zero, List.getElem?_cons_succ, Option.bind_some, List.getElem?_toArray, true_and, Bool.true_and, cond_false, bne_self_eq_false]
        try simp (maxSteps := 1000000) only [ew]
        simp only [loopT_normal, St.trunc, St.keep, truncVs, truncV, AB.trunc, keepV, List.elem_cons, List.elem_nil, List.take_succ_cons, List.take_zero, List.map_cons, List.map_nil, Nat.reduceAdd, Nat.reduceBEq, Nat.reduceLeDiff, Nat.zero_add, Bool.false_eq_true, ↓reduceIte]
        refine ⟨i + 1, hlt, by omega, ?_⟩
        rw [acts_next hlt, hM, hX]
        exact Turns.refl _
  · try simp (maxSteps := 1000000) only [go_region, go_seq, go_exit, go_ret, exitK_code, exitK_blk, exitK_nil, go_ops_nil, go_op, opK_none, contK_some, condK_f, callOf, fstep, fpre, fstep0, St.ev, St.put, List.set, true_and, Bool.true_and, ↓reduceIte, loopT_exit]
    apply hK
    simp only [Try.results7, retK, ares, Bool.and_true, Bool.true_and, AV.ofResults, St.trunc, truncVs, truncV, List.getD_cons_zero, List.getD_cons_succ, List.take_zero, List.map_nil, true_and, and_true, List.cons.injEq, exists_eq_left']
def shapesOmapPlays : List (Bool × List Lf) := [(false, [.sl 3 true [.bool, .str, .int .i64]]), (false, [.str])]
theorem shapesOmapPlays_ok : argShapes T 6 [22, 9] = some shapesOmapPlays := by kernel_rfl
theorem law_OmapPlays (xs : List AV) (h : argsFit shapesOmapPlays xs) : PCall P 7 xs (fun x => x = .v (.bool true)) := by
  obtain ⟨_, _, rfl, ⟨_, _, rfl, ⟨ys, rfl, hlen, hys⟩, rfl⟩, _, _, rfl, ⟨_, _, rfl, ⟨k, rfl, _⟩, rfl⟩, rfl⟩ := h
  obtain ⟨l, rfl, hl⟩ := fits_acts hys
  rw [acts_len] at hlen
  exact law_plays l hlen (fun a ha => (hl a ha).2) k
end Go.Proofs.Ytfkpjdcjjfpigaa
