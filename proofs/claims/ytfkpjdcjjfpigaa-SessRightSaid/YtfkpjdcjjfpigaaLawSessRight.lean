/- SessRight, and the document's example. -/
import Derived.Test.YtfkpjdcjjfpigaaSessAwake
namespace Go.Proofs.Ytfkpjdcjjfpigaa
open Go Go.Proofs.Ytfkpjdcjjfpigaa.Sym
set_option maxRecDepth 100000
set_option linter.unusedSimpArgs false
set_option linter.unusedVariables false

theorem law_right (id st pr : Int) : PCall P 5 [i64 id, i64 st, i64 pr] (fun x => x = .v (.bool true)) := by
  refine pcall_go tyOk Try.func5 rfl rfl ?_
  intro K hK
  simp only [Try.ntmps5, List.length_cons, List.length_nil, Nat.reduceAdd, Nat.reduceSub, List.replicate, List.cons_append, List.nil_append]
  have e2 : decide (id ≤ 255) = decide (id < 256) := by rw [Bool.eq_iff_iff]; simp; omega
  have e3 : decide (1 ≤ st) = decide (0 < st) := by rw [Bool.eq_iff_iff]; simp; omega
  have e4 : decide (st ≤ 9) = decide (st < 10) := by rw [Bool.eq_iff_iff]; simp; omega
  have e6 : decide (pr ≤ 9) = decide (pr < 10) := by rw [Bool.eq_iff_iff]; simp; omega
  have hR := sess_Right id st pr
  rw [e2, e3, e4, e6] at hR
  try simp (maxSteps := 1000000) only [go_region, go_seq, go_ops_nil, go_op, opK_none, opK_some, contK_some, callOf, callK_eq, callJ_nil, callD_fn, fstep, fpre, fstep0, evs, St.ev, St.put, ownersAll, List.set, List.append_nil, true_and, Bool.true_and]
  (refine callG_use law06_awake rfl ?_; rintro _ rfl)
  try simp (maxSteps := 1000000) only [go_skip, go_region, go_seq, go_cond, go_ops_nil, go_op, opK_none, opK_some, contK_some, condK_f, callOf, callK_eq, callJ_nil, callD_fn, fstep, fpre, fstep0, funary, evs, St.ev, St.put, AV.owners, ownersAll, List.getD_cons_zero, List.getD_cons_succ, List.set, List.append_nil, true_and, Bool.true_and, Bool.not_true]
  (refine callG_use hR rfl ?_; rintro _ rfl)
  try simp (maxSteps := 1000000) only [go_op, go_guard, opK_none, contK_some, guardK_eq, callOf, fstep, fpre, fstep0, fbinA, fbin, fbin0, St.ev, St.put, List.getD_cons_zero, List.getD_cons_succ, List.set, List.getElem?_cons_zero, List.getElem?_cons_succ, Option.bind_some, List.getElem?_toArray, true_and, Bool.true_and]
  (first | refine guardV_split ?_ ?_ | refine condK_split ?_ ?_ | refine drawV_split ?_ ?_ | refine condY_split ?_ ?_ | refine guardY_split ?_ ?_) <;> intro h1
  rotate_left
  · try simp (maxSteps := 1000000) only [go_ret, go_ops_nil, go_op, go_guard, opK_none, contK_some, guardK_eq, guardV_ft, undef, callOf, fstep, fpre, fstep0, fbinA, fbin, fbin0, fpick, isBoolTy, T, St.ev, St.put, List.getD_cons_zero, List.getD_cons_succ, List.set, List.getElem?_cons_zero, List.getElem?_cons_succ, Option.bind_some, List.getElem?_toArray, true_and, Bool.true_and, Bool.false_eq_true, ↓reduceIte, beq_false]
    apply hK
    simp only [Try.results5, retK, ares, List.take_nil, Bool.and_true, Bool.true_and, AV.ofResults, St.trunc, truncVs, truncV, List.getD_cons_zero, List.getD_cons_succ, List.map_nil, true_and, and_true, List.cons.injEq, exists_eq_left']
    simp only [h1, Bool.false_and]; rfl
  try simp (maxSteps := 1000000) only [go_op, go_guard, opK_none, contK_some, guardK_eq, guardV_tt, callOf, fstep, fpre, fstep0, fbinA, fbin, fbin0, fpick, St.ev, St.put, List.getD_cons_zero, List.getD_cons_succ, List.set, List.getElem?_cons_zero, List.getElem?_cons_succ, Option.bind_some, List.getElem?_toArray, true_and, Bool.true_and, cond_true]
  (first | refine guardV_split ?_ ?_ | refine condK_split ?_ ?_ | refine drawV_split ?_ ?_ | refine condY_split ?_ ?_ | refine guardY_split ?_ ?_) <;> intro h2
  rotate_left
  · try simp (maxSteps := 1000000) only [go_ret, go_ops_nil, go_op, go_guard, opK_none, contK_some, guardK_eq, guardV_ft, undef, callOf, fstep, fpre, fstep0, fbinA, fbin, fbin0, fpick, isBoolTy, T, St.ev, St.put, List.getD_cons_zero, List.getD_cons_succ, List.set, List.getElem?_cons_zero, List.getElem?_cons_succ, Option.bind_some, List.getElem?_toArray, true_and, Bool.true_and, Bool.false_eq_true, ↓reduceIte, beq_false]
    apply hK
    simp only [Try.results5, retK, ares, List.take_nil, Bool.and_true, Bool.true_and, AV.ofResults, St.trunc, truncVs, truncV, List.getD_cons_zero, List.getD_cons_succ, List.map_nil, true_and, and_true, List.cons.injEq, exists_eq_left']
    simp only [h1, h2, Bool.false_and, Bool.and_false]; rfl
  try simp (maxSteps := 1000000) only [go_op, go_guard, opK_none, contK_some, guardK_eq, guardV_tt, callOf, fstep, fpre, fstep0, fbinA, fbin, fbin0, fpick, St.ev, St.put, List.getD_cons_zero, List.getD_cons_succ, List.set, List.getElem?_cons_zero, List.getElem?_cons_succ, Option.bind_some, List.getElem?_toArray, true_and, Bool.true_and, cond_true]
  (first | refine guardV_split ?_ ?_ | refine condK_split ?_ ?_ | refine drawV_split ?_ ?_ | refine condY_split ?_ ?_ | refine guardY_split ?_ ?_) <;> intro h3
  rotate_left
  · try simp (maxSteps := 1000000) only [go_ret, go_ops_nil, go_op, go_guard, opK_none, contK_some, guardK_eq, guardV_ft, undef, callOf, fstep, fpre, fstep0, fbinA, fbin, fbin0, fpick, isBoolTy, T, St.ev, St.put, List.getD_cons_zero, List.getD_cons_succ, List.set, List.getElem?_cons_zero, List.getElem?_cons_succ, Option.bind_some, List.getElem?_toArray, true_and, Bool.true_and, Bool.false_eq_true, ↓reduceIte, beq_false]
    apply hK
    simp only [Try.results5, retK, ares, List.take_nil, Bool.and_true, Bool.true_and, AV.ofResults, St.trunc, truncVs, truncV, List.getD_cons_zero, List.getD_cons_succ, List.map_nil, true_and, and_true, List.cons.injEq, exists_eq_left']
    simp only [h1, h2, h3, Bool.false_and, Bool.and_false]; rfl
  try simp (maxSteps := 1000000) only [go_op, go_guard, opK_none, contK_some, guardK_eq, guardV_tt, callOf, fstep, fpre, fstep0, fbinA, fbin, fbin0, fpick, St.ev, St.put, List.getD_cons_zero, List.getD_cons_succ, List.set, List.getElem?_cons_zero, List.getElem?_cons_succ, Option.bind_some, List.getElem?_toArray, true_and, Bool.true_and, cond_true]
  (first | refine guardV_split ?_ ?_ | refine condK_split ?_ ?_ | refine drawV_split ?_ ?_ | refine condY_split ?_ ?_ | refine guardY_split ?_ ?_) <;> intro h4
  rotate_left
  · try simp (maxSteps := 1000000) only [go_ret, go_ops_nil, go_op, go_guard, opK_none, contK_some, guardK_eq, guardV_ft, undef, callOf, fstep, fpre, fstep0, fbinA, fbin, fbin0, fpick, isBoolTy, T, St.ev, St.put, List.getD_cons_zero, List.getD_cons_succ, List.set, List.getElem?_cons_zero, List.getElem?_cons_succ, Option.bind_some, List.getElem?_toArray, true_and, Bool.true_and, Bool.false_eq_true, ↓reduceIte, beq_false]
    apply hK
    simp only [Try.results5, retK, ares, List.take_nil, Bool.and_true, Bool.true_and, AV.ofResults, St.trunc, truncVs, truncV, List.getD_cons_zero, List.getD_cons_succ, List.map_nil, true_and, and_true, List.cons.injEq, exists_eq_left']
    simp only [h1, h2, h3, h4, Bool.false_and, Bool.and_false]; rfl
  try simp (maxSteps := 1000000) only [go_op, go_guard, opK_none, contK_some, guardK_eq, guardV_tt, callOf, fstep, fpre, fstep0, fbinA, fbin, fbin0, fpick, St.ev, St.put, List.getD_cons_zero, List.getD_cons_succ, List.set, List.getElem?_cons_zero, List.getElem?_cons_succ, Option.bind_some, List.getElem?_toArray, true_and, Bool.true_and, cond_true]
  (first | refine guardV_split ?_ ?_ | refine condK_split ?_ ?_ | refine drawV_split ?_ ?_ | refine condY_split ?_ ?_ | refine guardY_split ?_ ?_) <;> intro h5
  rotate_left
  · try simp (maxSteps := 1000000) only [go_ret, go_ops_nil, go_op, go_guard, opK_none, contK_some, guardK_eq, guardV_ft, undef, callOf, fstep, fpre, fstep0, fbinA, fbin, fbin0, fpick, isBoolTy, T, St.ev, St.put, List.getD_cons_zero, List.getD_cons_succ, List.set, List.getElem?_cons_zero, List.getElem?_cons_succ, Option.bind_some, List.getElem?_toArray, true_and, Bool.true_and, Bool.false_eq_true, ↓reduceIte, beq_false]
    apply hK
    simp only [Try.results5, retK, ares, List.take_nil, Bool.and_true, Bool.true_and, AV.ofResults, St.trunc, truncVs, truncV, List.getD_cons_zero, List.getD_cons_succ, List.map_nil, true_and, and_true, List.cons.injEq, exists_eq_left']
    simp only [h1, h2, h3, h4, h5, Bool.false_and, Bool.and_false]; rfl
  try simp (maxSteps := 1000000) only [go_ret, go_ops_nil, go_op, go_guard, opK_none, contK_some, guardK_eq, guardV_tt, callOf, fstep, fpre, fstep0, fbinA, fbin, fbin0, fpick, isBoolTy, T, St.ev, St.put, List.getD_cons_zero, List.getD_cons_succ, List.set, List.getElem?_cons_zero, List.getElem?_cons_succ, Option.bind_some, List.getElem?_toArray, true_and, Bool.true_and, cond_true]
  apply hK
  simp only [Try.results5, retK, ares, List.take_nil, Bool.and_true, Bool.true_and, AV.ofResults, St.trunc, truncVs, truncV, List.getD_cons_zero, List.getD_cons_succ, List.map_nil, true_and, and_true, List.cons.injEq, exists_eq_left']
  simp only [h1, h2, h3, h4, h5, Bool.true_and, beq_self_eq_true]
def shapesSessRight : List (Bool × List Lf) := [(false, [.int .i64]), (false, [.int .i64]), (false, [.int .i64])]
theorem shapesSessRight_ok : argShapes T 6 [3, 3, 3] = some shapesSessRight := by kernel_rfl
theorem law_SessRight (xs : List AV) (h : argsFit shapesSessRight xs) : PCall P 5 xs (fun x => x = .v (.bool true)) := by
  obtain ⟨_, _, rfl, ⟨_, _, rfl, ⟨a, rfl, _⟩, rfl⟩, _, _, rfl, ⟨_, _, rfl, ⟨b, rfl, _⟩, rfl⟩, _, _, rfl, ⟨_, _, rfl, ⟨c, rfl, _⟩, rfl⟩, rfl⟩ := h
  exact law_right a b c
end Go.Proofs.Ytfkpjdcjjfpigaa
