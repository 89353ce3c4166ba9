/- OmapWhole. -/
import Derived.Test.YtfkpjdcjjfpigaaOmap
namespace Go.Proofs.Ytfkpjdcjjfpigaa
open Go Go.Proofs.Ytfkpjdcjjfpigaa.Sym
set_option maxRecDepth 100000
set_option linter.unusedSimpArgs false
set_option linter.unusedVariables false

theorem gtS' (a b : ByteArray) : (!(Op.bytesLess a.toList b.toList || a.toList == b.toList)) = ltS b a := by
  have h1 := ordS.total a b
  have h2 := ordS.irrefl a
  have h3 := ordS.trans a b a
  show (!(ltS a b || eqS a b)) = ltS b a
  cases hab : ltS a b with
  | true =>
    cases hba : ltS b a with
    | false => rfl
    | true => rw [h3 hab hba] at h2; cases h2
  | false =>
    cases hba : ltS b a with
    | true =>
      cases he : eqS a b with
      | false => rfl
      | true => rw [(eqS_iff _ _).1 he, ordS.irrefl] at hba; cases hba
    | false => rw [(eqS_iff _ _).2 (h1 hab hba)]; rfl
abbrev Mp := List (ByteArray × Int)
def lastF (m : Mp) : ByteArray := match m.getLast? with | none => ⟨#[]⟩ | some p => p.1
theorem with_last {m : Mp} (hr : rises_si m) {k : ByteArray} {v : Int} (h : ∀ p ∈ m, ltS p.1 k = true) : withG ltS eqS m k v = m ++ [(k, v)] := by
  rw [with_eq ordS eqS_iff hr, filter_all' h, filter_none' (p := fun p => ltS k p.1), List.append_nil]
  intro p hp
  cases hc : ltS k p.1 with
  | false => rfl
  | true => have := ordS.trans _ _ _ hc (h p hp); rw [ordS.irrefl] at this; cases this
theorem rises_take {m : Mp} (hr : rises_si m) (i : Nat) : rises_si (m.take i) := risesM_iff.2 ((risesM_iff.1 hr).sublist (List.take_sublist i m))
theorem with_take {m : Mp} (hr : rises_si m) {i : Nat} (h : i < m.length) : withG ltS eqS (m.take i) m[i].1 m[i].2 = m.take (i + 1) := by
  rw [with_last (rises_take hr i), take_one h]
  intro p hp
  obtain ⟨j, hj, rfl⟩ := List.mem_iff_getElem.1 hp
  rw [List.length_take] at hj
  rw [List.getElem_take]
  exact List.pairwise_iff_getElem.1 (risesM_iff.1 hr) j i (by omega) h (by omega)
theorem last_take {m : Mp} {i : Nat} (h : i < m.length) : lastF (m.take (i + 1)) = m[i].1 := by
  rw [take_one h, lastF, List.getLast?_append]; rfl
theorem rises_next {m : Mp} (hr : rises_si m) {i : Nat} (h : i < m.length) (h0 : i ≠ 0) : ltS (lastF (m.take i)) m[i].1 = true := by
  obtain ⟨j, rfl⟩ : ∃ j, i = j + 1 := ⟨i - 1, by omega⟩
  rw [last_take (by omega)]
  exact List.pairwise_iff_getElem.1 (risesM_iff.1 hr) j (j + 1) (by omega) h (by omega)

abbrev mbox (m : Mp) : AB := .box [.sl 1 (m.map fun p => str p.1), .sl 1 (m.map fun p => i64 p.2)]
def whMem (M : Mp) (i : Nat) : List AB := [mbox M, mbox (M.take i), .box [str (lastF (M.take i))], .box [bool (i == 0)], .box [bool true]]
theorem whole_yield1 (M : Mp) (hr : rises_si M) (i : Nat) (hi : i < M.length) (hm : M.length ≤ 10000) :
    ACallN P 5 34 (whMem M i) [str M[i].1, i64 M[i].2, .ptr 1 0, .ptr 4 0, .ptr 3 0, .ptr 2 0]
      (fun r m' => r = bool true ∧ m' = whMem M (i + 1)) := by
  unfold whMem
  refine acallN_go tyOk Try.func34 rfl rfl (by simp) ?_
  intro K hK
  simp only [Try.ntmps34, List.length_cons, List.length_nil, Nat.reduceAdd, Nat.reduceSub, List.replicate, List.cons_append, List.nil_append]
  have hw := with_call_si (M.take i) M[i].1 M[i].2 (rises_take hr i) (by rw [List.length_take]; omega)
  rw [with_take hr hi] at hw
  have en : (i + 1 == 0) = false := rfl
  try simp (maxSteps := 1000000) only [go_region, go_seq, go_ops_nil, go_op, opK_none, opK_some, contK_some, callOf, callK_eq, callJ_nil, callD_fn, fstep, fpre, fstep0, fload, fcell, evs, T, TI.isAgg, St.ev, St.put, AV.owners, ownersAll, List.getD_cons_zero, List.getD_cons_succ, List.set, List.length_cons, List.length_nil, List.drop_zero, List.take_succ_cons, List.take_zero, List.append_nil, List.getElem?_cons_zero, List.getElem?_cons_succ, true_and, Bool.true_and, ↓reduceIte, Nat.reduceAdd, Nat.le_refl, Nat.zero_add]
  (refine callG_use hw rfl ?_; rintro _ rfl)
  try simp (maxSteps := 1000000) only [go_region, go_seq, go_ops_nil, go_op, go_guard, opK_none, contK_some, guardK_eq, guardV_tt, callOf, fstep, fpre, fstep0, fload, fcell, fstore, T, TI.isAgg, St.ev, St.put, splice, AV.cells, AV.known, AV.flat, List.getD_cons_zero, List.getD_cons_succ, List.set, List.length_cons, List.length_nil, List.all_cons, List.all_nil, List.drop_succ_cons, List.drop_zero, List.take_zero, List.headD_cons, List.nil_append, List.append_nil, List.getElem?_cons_zero, List.getElem?_cons_succ, Option.bind_some, List.getElem?_toArray, true_and, and_true, Bool.and_true, Bool.true_and, Bool.and_self, Bool.false_eq_true, ↓reduceIte, Nat.reduceAdd, Nat.reduceLT, Nat.le_refl, Nat.zero_add, map_si]
  cases h0 : (i == 0) with
  | true =>
    try simp (maxSteps := 1000000) only [go_region, go_seq, go_ret, go_ops_nil, go_op, go_guard, opK_none, contK_some, guardK_eq, guardV_tt, guardV_tf, undef, callOf, fstep, fpre, fstep0, fstore, fpick, T, St.ev, St.put, splice, AV.cells, AV.known, AV.flat, Value.cells, Value.oneCell', List.getD_cons_zero, List.getD_cons_succ, List.set, List.map_cons, List.map_nil, List.length_cons, List.length_nil, List.all_cons, List.all_nil, List.drop_succ_cons, List.drop_zero, List.take_zero, List.nil_append, List.append_nil, List.getElem?_cons_zero, List.getElem?_cons_succ, Option.bind_some, List.getElem?_toArray, true_and, and_true, Bool.and_true, Bool.true_and, Bool.and_self, ↓reduceIte, Nat.le_refl, Nat.zero_add, cond_true]
    apply hK
    simp only [Try.results34, retK, ares, List.take_nil, Bool.and_true, Bool.true_and, AV.ofResults, St.trunc, truncVs, truncV, AB.trunc, List.getD_cons_zero, List.getD_cons_succ, List.take_succ_cons, List.map_nil, List.map_cons, List.length_cons, List.length_nil, Nat.reduceAdd, true_and, and_true, List.cons.injEq, exists_eq_left']
    rw [last_take hi]
    exact ⟨rfl, rfl⟩
  | false =>
    have hn := rises_next hr hi (by simpa using h0)
    try simp (maxSteps := 1000000) only [go_region, go_seq, go_ret, go_ops_nil, go_op, go_guard, opK_none, contK_some, guardK_eq, guardV_tt, guardV_ff, callOf, fstep, fpre, fstep0, fbinA, gbin, gbits, gnil, fbin, fbin0, fload, fcell, fstore, fpick, T, TI.isAgg, St.ev, St.put, splice, AV.cells, AV.known, AV.flat, Value.cells, Value.oneCell', List.getD_cons_zero, List.getD_cons_succ, List.set, List.map_cons, List.map_nil, List.length_cons, List.length_nil, List.all_cons, List.all_nil, List.drop_succ_cons, List.drop_zero, List.take_zero, List.headD_cons, List.nil_append, List.append_nil, List.getElem?_cons_zero, List.getElem?_cons_succ, Option.bind_some, List.getElem?_toArray, true_and, and_true, Bool.and_true, Bool.true_and, Bool.and_self, Bool.false_eq_true, ↓reduceIte, Nat.reduceLT, Nat.le_refl, Nat.zero_add, cond_true, cond_false, gtS', hn]
    apply hK
    simp only [Try.results34, retK, ares, List.take_nil, Bool.and_true, Bool.true_and, AV.ofResults, St.trunc, truncVs, truncV, AB.trunc, List.getD_cons_zero, List.getD_cons_succ, List.take_succ_cons, List.map_nil, List.map_cons, List.length_cons, List.length_nil, Nat.reduceAdd, true_and, and_true, List.cons.injEq, exists_eq_left']
    rw [last_take hi]
    exact ⟨rfl, rfl⟩
def whMem2 (M : Mp) (i : Nat) : List AB := [mbox M, mbox M, .box [str (lastF M)], .box [bool (M.length == 0)], .box [bool true], .box [bool true]]
theorem whole_yield2 (M : Mp) (hr : rises_si M) (i : Nat) (hi : i < M.length) (hm : M.length ≤ 10000) :
    ACallN P 6 35 (whMem2 M i) [str M[i].1, i64 M[i].2, .ptr 0 0, .ptr 5 0]
      (fun r m' => r = bool true ∧ m' = whMem2 M (i + 1)) := by
  unfold whMem2
  refine acallN_go tyOk Try.func35 rfl rfl (by simp) ?_
  intro K hK
  simp only [Try.ntmps35, List.length_cons, List.length_nil, Nat.reduceAdd, Nat.reduceSub, List.replicate, List.cons_append, List.nil_append]
  have hg := get_call_si M M[i].1 hr (by omega)
  rw [get_mem (none := (0 : Int)) ordS eqS_iff hr (k := M[i].1) (v := M[i].2) (List.getElem_mem hi)] at hg
  try simp (maxSteps := 1000000) only [go_region, go_seq, go_ops_nil, go_op, opK_none, opK_some, contK_some, callOf, callK_eq, callJ_nil, callD_fn, fstep, fpre, fstep0, fload, fcell, evs, T, TI.isAgg, St.ev, St.put, AV.owners, ownersAll, List.getD_cons_zero, List.getD_cons_succ, List.set, List.length_cons, List.length_nil, List.drop_zero, List.take_succ_cons, List.take_zero, List.append_nil, List.getElem?_cons_zero, true_and, Bool.true_and, ↓reduceIte, Nat.reduceAdd, Nat.le_refl, Nat.zero_add]
  (refine callG_use hg rfl ?_; rintro _ rfl)
  try simp (maxSteps := 1000000) only [go_region, go_seq, go_ret, go_ops_nil, go_op, go_guard, opK_none, contK_some, guardK_eq, guardV_tt, callOf, fstep, fpre, fstep0, fbinA, fbin, fbin0, fload, fcell, fstore, fpick, T, TI.isAgg, St.ev, St.put, splice, AV.cells, AV.known, AV.flat, Value.cells, Value.oneCell', List.getD_cons_zero, List.getD_cons_succ, List.set, List.map_cons, List.map_nil, List.length_cons, List.length_nil, List.all_cons, List.all_nil, List.drop_succ_cons, List.drop_zero, List.take_zero, List.headD_cons, List.nil_append, List.append_nil, List.getElem?_cons_zero, List.getElem?_cons_succ, Option.bind_some, List.getElem?_toArray, true_and, and_true, Bool.and_true, Bool.true_and, Bool.and_self, Bool.false_eq_true, ↓reduceIte, Nat.reduceAdd, Nat.reduceLT, Nat.le_refl, Nat.zero_add, cond_true, beq_self_eq_true]
  apply hK
  simp only [Try.results35, retK, ares, List.take_nil, Bool.and_true, AV.ofResults, St.trunc, truncVs, truncV, AB.trunc, List.getD_cons_zero, List.getD_cons_succ, List.take_succ_cons, List.map_nil, List.map_cons, List.length_cons, List.length_nil, Nat.reduceAdd, and_true, List.cons.injEq, exists_eq_left']

theorem law_whole (l : List ActO) (hl : l.length ≤ maxLen) (hs : ∀ a ∈ l, a.k.size ≤ maxLen) :
    PCall P 9 [.sl 3 (acts l)] (fun x => x = .v (.bool true)) := by
  refine pcall_go tyOk Try.func9 rfl rfl ?_
  intro K hK
  simp only [Try.ntmps9, List.length_cons, List.length_nil, Nat.reduceAdd, Nat.reduceSub, List.replicate, List.cons_append, List.nil_append]
  try simp (maxSteps := 1000000) only [go_region, go_seq, go_ops_nil, go_op, opK_none, opK_some, contK_some, callOf, callK_eq, callJ_nil, callD_fn, fstep, fpre, fstep0, evs, St.ev, St.put, ownersAll, List.set, List.append_nil, true_and, Bool.true_and]
  (refine callG_use law04_awake rfl ?_; rintro _ rfl)
  try simp (maxSteps := 1000000) only [go_op, go_guard, opK_none, opK_some, contK_some, guardK_eq, guardV_ff, callOf, callK_eq, callJ_nil, callD_fn, fstep, fpre, fstep0, funary, evs, St.ev, St.put, AV.owners, ownersAll, List.getD_cons_zero, List.getD_cons_succ, List.set, List.append_nil, List.getElem?_cons_zero, List.getElem?_cons_succ, Option.bind_some, List.getElem?_toArray, true_and, Bool.true_and, Bool.not_true]
  (refine callG_use (law04_long l hl hs) rfl ?_; rintro _ rfl)
  try simp (maxSteps := 1000000) only [go_cond, go_ops_nil, go_op, opK_none, contK_some, callOf, fstep, fpre, fstep0, fpick, St.ev, St.put, List.getD_cons_zero, List.getD_cons_succ, List.set, true_and, Bool.true_and, cond_false]
  (first | refine guardV_split ?_ ?_ | refine condK_split ?_ ?_ | refine drawV_split ?_ ?_ | refine condY_split ?_ ?_ | refine guardY_split ?_ ?_) <;> intro h0
  · try simp (maxSteps := 1000000) only [go_region, go_seq, go_op, opK_some, condK_t, callOf, callK_eq, callJ_nil, callD_fn, evs, St.ev, ownersAll, List.append_nil]
    (refine callG_use law04_awake rfl ?_; rintro _ rfl)
    try simp (maxSteps := 1000000) only [go_ret, go_ops_nil, go_op, opK_none, contK_some, callOf, fstep, fpre, fstep0, St.ev, St.put, List.getD_cons_zero, List.getD_cons_succ, List.set, true_and, Bool.true_and]
    apply hK
    simp only [Try.results9, retK, ares, List.take_nil, Bool.and_true, Bool.true_and, AV.ofResults, St.trunc, truncVs, truncV, List.getD_cons_zero, List.getD_cons_succ, List.map_nil, true_and, and_true, List.cons.injEq, exists_eq_left']
  have hlen := long_few h0
  try simp (maxSteps := 1000000) only [go_skip, go_region, go_seq, go_block, go_loop, go_ops_nil, go_op, opK_none, contK_some, condK_f, callOf, fstep, fpre, fstep0, T, St.ev, St.put, List.set, List.map_cons, List.map_nil, List.length_cons, List.length_nil, List.cons_append, List.nil_append, true_and, Bool.true_and, Nat.zero_add]
  refine loopK_ruleT tyOk (α := Nat) 2 [0, 3, 4, 5] (fun i => i ≤ l.length)
    (fun i => ⟨[.sl 3 (acts l), .any, .any, .ptr 0 0, .ptr 1 0, i64 i, .any, .any, .any, .any, .any, .any, .any, .any, .any, .any, .any, .any, .any, .any, .any, .any, .any, .any, .any, .any, .any, .any, .any, .any, .any, .any, .any, .any, .any, .any, .any, .any, .any, .any, .any, .any, .any, .any, .any, .any, .any, .any, .any, .any, .any, .any, .any, .any, .any, .any, .any, .any, .any, .any, .any, .any, .any, .any], [mbox (actsF (l.take i)), mbox []]⟩)
    (fun i => l.length - i) 0 (Nat.zero_le _) (Nat.zero_le _) (Turns.weak (weaks_refl _) ⟨_, _, rfl, ⟨_, rfl, _, _, rfl, weak_nil 1, _, _, rfl, weak_nil 1, rfl⟩, _, _, rfl, ⟨_, rfl, _, _, rfl, weak_nil 1, _, _, rfl, weak_nil 1, rfl⟩, rfl⟩) ?_
  intro i hi
  have hput := acts_ok (l.take i)
  have hpl : (actsF (l.take i)).length ≤ 200 := by have := hput.2; rw [List.length_take] at this; omega
  try simp (maxSteps := 1000000) only [go_region, go_seq, go_cond, go_ops_nil, go_op, opK_none, contK_some, callOf, fstep, fpre, fstep0, fbinA, fbin, fbin0, flen, T, St.ev, St.put, List.getD_cons_zero, List.getD_cons_succ, List.set, true_and, Bool.true_and, acts_len]
  (first | refine guardV_split ?_ ?_ | refine condK_split ?_ ?_ | refine drawV_split ?_ ?_ | refine condY_split ?_ ?_ | refine guardY_split ?_ ?_) <;> intro h
  · obtain ⟨hlt, eg, ew, c1⟩ := at_idx (by omega) h
    obtain ⟨M, hM⟩ : ∃ M, actsF (l.take i) = M := ⟨_, rfl⟩
    rw [hM] at hput hpl ⊢
    have hX : ∀ X, X = actF M l[i] → X = actsF (l.take (i + 1)) := by
      intro X hX
      rw [hX, acts_next hlt, hM]
    try simp (maxSteps := 1000000) only [go_skip, go_region, go_seq, go_cond, go_block, go_ops_nil, go_op, opK_none, contK_some, condK_t, callOf, fstep, fpre, fstep0, fload, fcell, ffieldAddr, findexAddr, T, TI.isAgg, St.ev, St.put, AV.cells, AV.known, List.getD_cons_zero, List.getD_cons_succ, List.set, List.length_cons, List.length_nil, List.drop_zero, List.headD_cons, List.getElem?_cons_zero, List.getElem?_toArray, true_and, and_true, Bool.and_true, Bool.true_and, Bool.false_eq_true, ↓reduceIte, reduceCtorEq, ne_eq, not_false_eq_true, Nat.reduceAdd, Nat.reduceLT, Nat.zero_add, eg, c1, acts_len]
    (first | refine guardV_split ?_ ?_ | refine condK_split ?_ ?_ | refine drawV_split ?_ ?_ | refine condY_split ?_ ?_ | refine guardY_split ?_ ?_) <;> intro h2
    · have hX2 : withoutG ltS eqS M l[i].k = actsF (l.take (i + 1)) := hX _ (by rw [actF, if_pos h2])
      try simp (maxSteps := 1000000) only [go_draws, condK_t]
      refine draw_rule tyOk (by rfl) (by simp only [List.length_cons, List.length_nil, Nat.reduceAdd, Nat.zero_le]) (by kernel_rfl) rfl ?_
      try simp (maxSteps := 1000000) only [callOf, fstep0, newF, fload, fcell, ffieldAddr, findexAddr, evs, T, TI.isAgg, St.ev, St.put, AV.cells, AV.known, List.getD_cons_zero, List.getD_cons_succ, List.set, List.length_cons, List.length_nil, List.drop_succ_cons, List.drop_zero, List.take_succ_cons, List.take_zero, List.headD_cons, List.append_nil, List.getElem?_cons_zero, List.getElem?_cons_succ, List.replicate, List.getElem?_toArray, true_and, and_true, Bool.and_true, Bool.true_and, Bool.or_false, Bool.false_eq_true, ↓reduceIte, reduceCtorEq, ne_eq, not_false_eq_true, Nat.reduceAdd, Nat.reduceLT, Nat.le_refl, Nat.add_zero, Nat.zero_add, Nat.reduceBEq, newCount, drawR_op, drawP_none, drawP_some, drawQ_some, drawH_fn, dstep, isFree, St.app, bump, isNew, eg, c1, acts_len]
      refine drawCall_use (without_call_si M l[i].k hput.1 (by omega)) rfl ?_
      rw [hX2]
      try simp (maxSteps := 1000000) only [go_nil, go_region, go_blk, go_ops_nil, go_op, opK_none, contK_some, callOf, fstep, fpre, fstep0, fbinA, newF, fbin, fbin0, T, St.ev, St.put, splice, AV.cells, AV.known, AV.flat, List.getD_cons_zero, List.getD_cons_succ, List.set, List.length_cons, List.length_nil, List.all_cons, List.all_nil, List.drop_succ_cons, List.drop_zero, List.take_zero, List.nil_append, List.append_nil, List.getElem?_cons_zero, true_and, and_true, Bool.and_true, Bool.true_and, Bool.and_self, Bool.or_false, Bool.false_eq_true, ↓reduceIte, Nat.reduceAdd, Nat.le_refl, Nat.zero_add, Nat.reduceBEq, drawR_nil, drawR_op, drawP_none, drawQ_some, dstep, isFree, dstore, St.app, bump, isNew, map_si]
      refine ⟨by kernel_rfl, ?_⟩
      try simp (maxSteps := 1000000) only [ew]
      simp only [loopT_normal, St.trunc, St.keep, truncVs, truncV, AB.trunc, keepV, List.elem_cons, List.elem_nil, List.take_succ_cons, List.take_zero, List.map_cons, List.map_nil, Nat.reduceAdd, Nat.reduceBEq, Nat.reduceLeDiff, Nat.zero_add, Bool.false_eq_true, ↓reduceIte]
      exact ⟨i + 1, hlt, by omega, Turns.refl _⟩
    · have hX2 : withG ltS eqS M l[i].k l[i].v = actsF (l.take (i + 1)) := hX _ (by rw [actF, if_neg (by rw [h2]; decide)])
      try simp (maxSteps := 1000000) only [go_draws, condK_f]
      refine draw_rule tyOk (by rfl) (by simp only [List.length_cons, List.length_nil, Nat.reduceAdd, Nat.zero_le]) (by kernel_rfl) rfl ?_
      try simp (maxSteps := 1000000) only [callOf, fstep0, newF, fload, fcell, ffieldAddr, findexAddr, evs, T, TI.isAgg, St.ev, St.put, AV.cells, AV.known, List.getD_cons_zero, List.getD_cons_succ, List.set, List.length_cons, List.length_nil, List.drop_succ_cons, List.drop_zero, List.take_succ_cons, List.take_zero, List.headD_cons, List.append_nil, List.getElem?_cons_zero, List.getElem?_cons_succ, List.replicate, List.getElem?_toArray, true_and, and_true, Bool.and_true, Bool.true_and, Bool.or_false, Bool.false_eq_true, ↓reduceIte, reduceCtorEq, ne_eq, not_false_eq_true, Nat.reduceAdd, Nat.reduceLT, Nat.le_refl, Nat.add_zero, Nat.zero_add, Nat.reduceBEq, newCount, drawR_op, drawP_none, drawP_some, drawQ_some, drawH_fn, dstep, isFree, St.app, bump, isNew, eg, c1, acts_len]
      refine drawCall_use (with_call_si M l[i].k l[i].v hput.1 (by omega)) rfl ?_
      rw [hX2]
      try simp (maxSteps := 1000000) only [go_nil, go_region, go_blk, go_ops_nil, go_op, opK_none, contK_some, callOf, fstep, fpre, fstep0, fbinA, newF, fbin, fbin0, T, St.ev, St.put, splice, AV.cells, AV.known, AV.flat, List.getD_cons_zero, List.getD_cons_succ, List.set, List.length_cons, List.length_nil, List.all_cons, List.all_nil, List.drop_succ_cons, List.drop_zero, List.take_zero, List.nil_append, List.append_nil, List.getElem?_cons_zero, true_and, and_true, Bool.and_true, Bool.true_and, Bool.and_self, Bool.or_false, Bool.false_eq_true, ↓reduceIte, Nat.reduceAdd, Nat.le_refl, Nat.zero_add, Nat.reduceBEq, drawR_nil, drawR_op, drawP_none, drawQ_some, dstep, isFree, dstore, St.app, bump, isNew, map_si]
      refine ⟨by kernel_rfl, ?_⟩
      try simp (maxSteps := 1000000) only [ew]
      simp only [loopT_normal, St.trunc, St.keep, truncVs, truncV, AB.trunc, keepV, List.elem_cons, List.elem_nil, List.take_succ_cons, List.take_zero, List.map_cons, List.map_nil, Nat.reduceAdd, Nat.reduceBEq, Nat.reduceLeDiff, Nat.zero_add, Bool.false_eq_true, ↓reduceIte]
      exact ⟨i + 1, hlt, by omega, Turns.refl _⟩
  · obtain rfl := at_end hi h
    rw [List.take_length] at hput hpl ⊢
    generalize hM : actsF l = M at *
    have hr := hput.1
    have hall := all_call_si M
    unfold map_si at hall
    have hpl2 : (pairs_si M).length = M.length := by rw [pairs_si, List.length_map]
    try simp (maxSteps := 1000000) only [go_region, go_seq, go_exit, exitK_code, exitK_blk, exitK_nil, go_ops_nil, go_op, opK_none, opK_some, contK_some, condK_f, callOf, callK_eq, callJ_nil, callD_fn, fstep, fpre, fstep0, fload, fcell, fstore, evs, T, TI.isAgg, St.ev, St.put, splice, AV.cells, AV.known, AV.flat, AV.owners, ownersAll, Value.cells, Value.oneCell', List.getD_cons_zero, List.getD_cons_succ, List.set, List.map_cons, List.map_nil, List.length_cons, List.length_nil, List.all_cons, List.all_nil, List.drop_succ_cons, List.drop_zero, List.take_succ_cons, List.take_zero, List.cons_append, List.nil_append, List.append_nil, List.getElem?_cons_zero, List.getElem?_cons_succ, true_and, and_true, Bool.and_true, Bool.true_and, Bool.and_self, ↓reduceIte, Nat.reduceAdd, Nat.le_refl, Nat.zero_add, loopT_exit]
    (refine callG_use hall rfl ?_; rintro _ rfl)
    try simp (maxSteps := 1000000) only [go_op, opK_none, opK_some, contK_some, callOf, callK_eq, callJ_nil, callD_fn, fstep, fpre, fstep0, evs, St.ev, St.put, AV.owners, ownersAll, List.getD_cons_zero, List.getD_cons_succ, List.set, List.length_nil, List.cons_append, List.nil_append, List.append_nil, List.size_toArray, true_and, Bool.true_and]
    refine callG_turnN (N := 5) (Nat.zero_le _) (Turns.refl _) ?_
    refine acall_iter (seq_si M (by omega)) (fun xs (i : Nat) => i = xs.length) (whMem M) (fun _ _ => False) 0 rfl rfl rfl rfl ?_ ?_ ?_
    · rintro xs x _ hpre rfl
      obtain ⟨hi, _, rfl⟩ := prefix_next hpre
      refine (whole_yield1 M hr xs.length hi (by omega)).mono ?_
      rintro r m' ⟨rfl, rfl⟩
      exact .inl ⟨rfl, xs.length + 1, by simp, rfl⟩
    · rintro _ rfl
      rw [hpl2]
      try simp (maxSteps := 1000000) only [go_seq, go_draws, go_ops_nil, St.put, cutVs, cutV, bks, bksAll, List.set, List.all_cons, List.all_nil, List.cons_append, List.nil_append, List.append_nil, Bool.and_self, ↓reduceIte, decide_true, Nat.reduceLT, whMem, List.take_length]
      refine draw_rule tyOk (by rfl) (by simp only [List.length_cons, List.length_nil, Nat.reduceAdd, Nat.zero_le]) (by kernel_rfl) rfl ?_
      try simp (maxSteps := 1000000) only [callOf, fstep0, newF, fload, fcell, evs, T, TI.isAgg, St.ev, St.put, List.getD_cons_zero, List.getD_cons_succ, List.set, List.length_cons, List.length_nil, List.drop_zero, List.take_succ_cons, List.take_zero, List.headD_cons, List.cons_append, List.nil_append, List.append_nil, List.getElem?_cons_zero, List.getElem?_cons_succ, List.replicate, Option.bind_some, List.getElem?_toArray, true_and, Bool.true_and, Bool.or_false, Bool.false_eq_true, ↓reduceIte, Nat.reduceAdd, Nat.reduceLT, Nat.le_refl, Nat.add_zero, Nat.zero_add, Nat.reduceBEq, newCount, drawR_op, drawR_guard, drawW_some, drawV_tt, drawP_none, drawP_some, drawQ_some, drawH_fn, dstep, isFree, St.app, bump, isNew]
      refine drawCall_use (len_call_si M) rfl ?_
      try simp (maxSteps := 1000000) only [callOf, newF, fload, fcell, evs, T, TI.isAgg, St.ev, St.put, List.getD_cons_zero, List.getD_cons_succ, List.set, List.length_cons, List.length_nil, List.drop_zero, List.take_succ_cons, List.take_zero, List.append_nil, List.getElem?_cons_zero, List.getElem?_cons_succ, Option.bind_some, List.getElem?_toArray, true_and, Bool.true_and, Bool.or_false, Bool.false_eq_true, ↓reduceIte, Nat.reduceAdd, Nat.le_refl, Nat.zero_add, Nat.reduceBEq, drawR_guard, drawW_some, drawV_tt, drawP_none, drawP_some, drawQ_some, drawH_fn, dstep, isFree, St.app, bump, isNew]
      refine drawCall_use (len_call_si M) rfl ?_
      try simp (maxSteps := 1000000) only [go_region, go_seq, go_op, opK_none, opK_some, contK_some, callOf, callK_eq, callJ_nil, callD_fn, fstep, fpre, fstep0, fbinA, newF, fbin, fbin0, fload, fcell, evs, fpick, T, TI.isAgg, St.ev, St.put, St.rehome, killV, killVs, AB.kill, splice, AV.cells, AV.known, AV.flat, AV.owners, ownersAll, Value.cells, Value.oneCell', List.getD_cons_zero, List.getD_cons_succ, List.set, List.map_cons, List.map_nil, List.length_cons, List.length_nil, List.all_cons, List.all_nil, List.drop_succ_cons, List.drop_zero, List.take_succ_cons, List.take_zero, List.nil_append, List.append_nil, List.getElem?_cons_zero, List.getElem?_cons_succ, Option.bind_some, List.getElem?_toArray, true_and, and_true, Bool.and_true, Bool.true_and, Bool.and_self, Bool.or_false, Bool.false_eq_true, ↓reduceIte, reduceCtorEq, Nat.reduceAdd, Nat.reduceEqDiff, Nat.le_refl, Nat.zero_add, Nat.reduceBEq, cond_true, beq_self_eq_true, drawR_nil, drawR_op, drawR_guard, drawW_some, drawV_tt, drawP_none, drawQ_some, dstep, isFree, dstore, St.app, bump, isNew]
      refine ⟨by kernel_rfl, ?_⟩
      skip
      (refine callG_use hall rfl ?_; rintro _ rfl)
      try simp (maxSteps := 1000000) only [go_op, opK_none, opK_some, contK_some, callOf, callK_eq, callJ_nil, callD_fn, fstep, fpre, fstep0, evs, St.ev, St.put, AV.owners, ownersAll, List.getD_cons_zero, List.getD_cons_succ, List.set, List.length_nil, List.cons_append, List.nil_append, List.append_nil, List.size_toArray, true_and, Bool.true_and]
      refine callG_turnN (N := 6) (Nat.zero_le _) (Turns.refl _) ?_
      refine acall_iter (seq_si M (by omega)) (fun xs (i : Nat) => i = xs.length) (whMem2 M) (fun _ _ => False) 0 rfl rfl rfl rfl ?_ ?_ ?_
      · rintro xs x _ hpre rfl
        obtain ⟨hi, _, rfl⟩ := prefix_next hpre
        refine (whole_yield2 M hr xs.length hi (by omega)).mono ?_
        rintro r m' ⟨rfl, rfl⟩
        exact .inl ⟨rfl, xs.length + 1, by simp, rfl⟩
      · rintro _ rfl
        try simp (maxSteps := 1000000) only [go_region, go_seq, go_ret, go_ops_nil, go_op, opK_none, contK_some, callOf, fstep, fpre, fstep0, fload, fcell, T, TI.isAgg, St.ev, St.put, cutVs, cutV, bks, bksAll, List.getD_cons_zero, List.getD_cons_succ, List.set, List.length_cons, List.length_nil, List.all_cons, List.all_nil, List.drop_zero, List.headD_cons, List.cons_append, List.nil_append, List.append_nil, List.getElem?_cons_zero, List.getElem?_cons_succ, true_and, Bool.true_and, Bool.and_self, Bool.false_eq_true, ↓reduceIte, decide_true, Nat.reduceLT, Nat.zero_add, whMem2]
        apply hK
        simp only [Try.results9, retK, ares, Bool.and_true, Bool.true_and, AV.ofResults, St.trunc, truncVs, truncV, List.getD_cons_zero, List.getD_cons_succ, List.take_zero, List.map_nil, true_and, and_true, List.cons.injEq, exists_eq_left']
      · intro xs m' _ h; exact h.elim
    · intro xs m' _ h; exact h.elim
def shapesOmapWhole : List (Bool × List Lf) := [(false, [.sl 3 true [.bool, .str, .int .i64]])]
theorem shapesOmapWhole_ok : argShapes T 6 [22] = some shapesOmapWhole := by kernel_rfl
theorem law_OmapWhole (xs : List AV) (h : argsFit shapesOmapWhole xs) : PCall P 9 xs (fun x => x = .v (.bool true)) := by
  obtain ⟨_, _, rfl, ⟨_, _, rfl, ⟨ys, rfl, hlen, hys⟩, rfl⟩, rfl⟩ := h
  obtain ⟨l, rfl, hl⟩ := fits_acts hys
  rw [acts_len] at hlen
  exact law_whole l hlen (fun a ha => (hl a ha).2)
end Go.Proofs.Ytfkpjdcjjfpigaa
