/- The functions of the layer sess. -/
import Derived.Test.YtfkpjdcjjfpigaaMe
namespace Go.Proofs.Ytfkpjdcjjfpigaa
open Go Go.Proofs.Ytfkpjdcjjfpigaa.Sym
set_option maxRecDepth 100000
set_option linter.unusedSimpArgs false
set_option linter.unusedVariables false

theorem sess_Right (id st pr : Int) : PCall P 23 [i64 id, i64 st, i64 pr] (fun x => x = bool (decide (0 ≤ id) && decide (id ≤ 255) && decide (1 ≤ st) && decide (st ≤ 9) && decide (0 ≤ pr) && decide (pr ≤ 9))) := by
  refine pcall_go tyOk Try.func23 rfl rfl ?_
  intro K hK
  simp only [Try.ntmps23, List.length_cons, List.length_nil, Nat.reduceAdd, Nat.reduceSub, List.replicate, List.cons_append, List.nil_append]
  try simp (maxSteps := 1000000) only [go_region, go_seq, go_ops_nil, go_op, go_guard, opK_none, contK_some, guardK_eq, callOf, fstep, gpre, fpre, fstep0, fbinA, fbin, fbin0, St.ev, St.put, List.getD_cons_zero, List.getD_cons_succ, List.set, List.getElem?_cons_zero, List.getElem?_cons_succ, Option.bind_some, List.getElem?_toArray, true_and, Bool.true_and]
  (first | refine guardV_split ?_ ?_ | refine condK_split ?_ ?_ | refine drawV_split ?_ ?_ | refine condY_split ?_ ?_ | refine guardY_split ?_ ?_) <;> intro h1
  rotate_left
  · try simp (maxSteps := 1000000) only [go_ret, go_ops_nil, go_op, go_guard, opK_none, contK_some, guardK_eq, guardV_ft, undef, callOf, fstep, gpre, fpre, fstep0, fpick, St.ev, St.put, List.getD_cons_zero, List.getD_cons_succ, List.set, List.getElem?_cons_zero, List.getElem?_cons_succ, Option.bind_some, List.getElem?_toArray, true_and, Bool.true_and, Bool.false_eq_true, ↓reduceIte]
    apply hK
    simp only [Try.results23, retK, ares, List.take_nil, Bool.and_true, Bool.true_and, AV.ofResults, St.trunc, truncVs, truncV, List.getD_cons_zero, List.getD_cons_succ, List.map_nil, true_and, and_true, List.cons.injEq, exists_eq_left']
    simp only [h1, Bool.false_and]
  try simp (maxSteps := 1000000) only [go_op, go_guard, opK_none, contK_some, guardK_eq, guardV_tt, callOf, fstep, gpre, fpre, fstep0, fbinA, fbin, fbin0, fpick, St.ev, St.put, List.getD_cons_zero, List.getD_cons_succ, List.set, List.getElem?_cons_zero, List.getElem?_cons_succ, Option.bind_some, List.getElem?_toArray, true_and, Bool.true_and, cond_true]
  (first | refine guardV_split ?_ ?_ | refine condK_split ?_ ?_ | refine drawV_split ?_ ?_ | refine condY_split ?_ ?_ | refine guardY_split ?_ ?_) <;> intro h2
  rotate_left
  · try simp (maxSteps := 1000000) only [go_ret, go_ops_nil, go_op, go_guard, opK_none, contK_some, guardK_eq, guardV_ft, undef, callOf, fstep, gpre, fpre, fstep0, fpick, St.ev, St.put, List.getD_cons_zero, List.getD_cons_succ, List.set, List.getElem?_cons_zero, List.getElem?_cons_succ, Option.bind_some, List.getElem?_toArray, true_and, Bool.true_and, Bool.false_eq_true, ↓reduceIte]
    apply hK
    simp only [Try.results23, retK, ares, List.take_nil, Bool.and_true, Bool.true_and, AV.ofResults, St.trunc, truncVs, truncV, List.getD_cons_zero, List.getD_cons_succ, List.map_nil, true_and, and_true, List.cons.injEq, exists_eq_left']
    simp only [h1, h2, Bool.false_and, Bool.and_false]
  try simp (maxSteps := 1000000) only [go_op, go_guard, opK_none, contK_some, guardK_eq, guardV_tt, callOf, fstep, gpre, fpre, fstep0, fbinA, fbin, fbin0, fpick, St.ev, St.put, List.getD_cons_zero, List.getD_cons_succ, List.set, List.getElem?_cons_zero, List.getElem?_cons_succ, Option.bind_some, List.getElem?_toArray, true_and, Bool.true_and, cond_true]
  (first | refine guardV_split ?_ ?_ | refine condK_split ?_ ?_ | refine drawV_split ?_ ?_ | refine condY_split ?_ ?_ | refine guardY_split ?_ ?_) <;> intro h3
  rotate_left
  · try simp (maxSteps := 1000000) only [go_ret, go_ops_nil, go_op, go_guard, opK_none, contK_some, guardK_eq, guardV_ft, undef, callOf, fstep, gpre, fpre, fstep0, fpick, St.ev, St.put, List.getD_cons_zero, List.getD_cons_succ, List.set, List.getElem?_cons_zero, List.getElem?_cons_succ, Option.bind_some, List.getElem?_toArray, true_and, Bool.true_and, Bool.false_eq_true, ↓reduceIte]
    apply hK
    simp only [Try.results23, retK, ares, List.take_nil, Bool.and_true, Bool.true_and, AV.ofResults, St.trunc, truncVs, truncV, List.getD_cons_zero, List.getD_cons_succ, List.map_nil, true_and, and_true, List.cons.injEq, exists_eq_left']
    simp only [h1, h2, h3, Bool.and_true, Bool.false_and, Bool.and_false]
  try simp (maxSteps := 1000000) only [go_op, go_guard, opK_none, contK_some, guardK_eq, guardV_tt, callOf, fstep, gpre, fpre, fstep0, fbinA, fbin, fbin0, fpick, St.ev, St.put, List.getD_cons_zero, List.getD_cons_succ, List.set, List.getElem?_cons_zero, List.getElem?_cons_succ, Option.bind_some, List.getElem?_toArray, true_and, Bool.true_and, cond_true]
  (first | refine guardV_split ?_ ?_ | refine condK_split ?_ ?_ | refine drawV_split ?_ ?_ | refine condY_split ?_ ?_ | refine guardY_split ?_ ?_) <;> intro h4
  rotate_left
  · try simp (maxSteps := 1000000) only [go_ret, go_ops_nil, go_op, go_guard, opK_none, contK_some, guardK_eq, guardV_ft, undef, callOf, fstep, gpre, fpre, fstep0, fpick, St.ev, St.put, List.getD_cons_zero, List.getD_cons_succ, List.set, List.getElem?_cons_zero, List.getElem?_cons_succ, Option.bind_some, List.getElem?_toArray, true_and, Bool.true_and, Bool.false_eq_true, ↓reduceIte]
    apply hK
    simp only [Try.results23, retK, ares, List.take_nil, Bool.and_true, Bool.true_and, AV.ofResults, St.trunc, truncVs, truncV, List.getD_cons_zero, List.getD_cons_succ, List.map_nil, true_and, and_true, List.cons.injEq, exists_eq_left']
    simp only [h1, h2, h3, h4, Bool.and_true, Bool.false_and, Bool.and_false]
  try simp (maxSteps := 1000000) only [go_op, go_guard, opK_none, contK_some, guardK_eq, guardV_tt, callOf, fstep, gpre, fpre, fstep0, fbinA, fbin, fbin0, fpick, St.ev, St.put, List.getD_cons_zero, List.getD_cons_succ, List.set, List.getElem?_cons_zero, List.getElem?_cons_succ, Option.bind_some, List.getElem?_toArray, true_and, Bool.true_and, cond_true]
  (first | refine guardV_split ?_ ?_ | refine condK_split ?_ ?_ | refine drawV_split ?_ ?_ | refine condY_split ?_ ?_ | refine guardY_split ?_ ?_) <;> intro h5
  rotate_left
  · try simp (maxSteps := 1000000) only [go_ret, go_ops_nil, go_op, go_guard, opK_none, contK_some, guardK_eq, guardV_ft, undef, callOf, fstep, gpre, fpre, fstep0, fpick, St.ev, St.put, List.getD_cons_zero, List.getD_cons_succ, List.set, List.getElem?_cons_zero, List.getElem?_cons_succ, Option.bind_some, List.getElem?_toArray, true_and, Bool.true_and, Bool.false_eq_true, ↓reduceIte]
    apply hK
    simp only [Try.results23, retK, ares, List.take_nil, Bool.and_true, Bool.true_and, AV.ofResults, St.trunc, truncVs, truncV, List.getD_cons_zero, List.getD_cons_succ, List.map_nil, true_and, and_true, List.cons.injEq, exists_eq_left']
    simp only [h1, h2, h3, h4, h5, Bool.and_true, Bool.false_and, Bool.and_false]
  try simp (maxSteps := 1000000) only [go_ret, go_ops_nil, go_op, go_guard, opK_none, contK_some, guardK_eq, guardV_tt, callOf, fstep, gpre, fpre, fstep0, fbinA, fbin, fbin0, fpick, St.ev, St.put, List.getD_cons_zero, List.getD_cons_succ, List.set, List.getElem?_cons_zero, List.getElem?_cons_succ, Option.bind_some, List.getElem?_toArray, true_and, Bool.true_and, cond_true]
  apply hK
  simp only [Try.results23, retK, ares, List.take_nil, Bool.and_true, Bool.true_and, AV.ofResults, St.trunc, truncVs, truncV, List.getD_cons_zero, List.getD_cons_succ, List.map_nil, true_and, and_true, List.cons.injEq, exists_eq_left']
  simp only [h1, h2, h3, h4, h5, Bool.true_and, Bool.and_true]

theorem purge_late (now : Int) (s : Ses) (row : List AV) : ACall P 64 [.box [u64 now], .row 41 4 row] [s.av, .ptr 0 0] (fun x m' => x = bool (decide (s.un ≤ now)) ∧ m' = [.box [u64 now], .row 41 4 row]) := by
  refine acall_go tyOk Try.func64 rfl rfl ?_
  intro K hK
  simp only [Try.ntmps64, List.length_cons, List.length_nil, Nat.reduceAdd, Nat.reduceSub, List.replicate, List.cons_append, List.nil_append]
  try simp (maxSteps := 1000000) only [go_region, go_seq, go_ops_nil, go_op, opK_none, opK_some, contK_some, callOf, callK_eq, callJ_nil, callD_fn, fstep, gpre, gloadB, fpre, fstep0, fload, fcell, ffieldAddr, evs, T, TI.isAgg, St.ev, St.put, AV.cells, AV.known, AV.owners, ownersAll, List.getD_cons_zero, List.getD_cons_succ, List.set, List.length_cons, List.length_nil, List.drop_succ_cons, List.drop_zero, List.headD_cons, List.cons_append, List.nil_append, List.append_nil, List.getElem?_cons_zero, List.getElem?_cons_succ, List.getElem?_toArray, true_and, Bool.true_and, Bool.false_eq_true, ↓reduceIte, reduceCtorEq, ne_eq, not_false_eq_true, Nat.reduceAdd, Nat.reduceLT, Nat.zero_add, Ses.av]
  (refine callG_use (tick_Late now s.un) rfl ?_; rintro _ rfl)
  try simp (maxSteps := 1000000) only [go_ret, go_ops_nil, go_op, opK_none, contK_some, callOf, fstep, gpre, fpre, fstep0, St.ev, St.put, List.getD_cons_zero, List.getD_cons_succ, List.set, true_and, Bool.true_and]
  apply hK
  simp only [Try.results64, retK, ares, Bool.and_true, AV.ofResults, St.trunc, truncVs, truncV, AB.trunc, List.getD_cons_zero, List.getD_cons_succ, List.take_zero, List.take_succ_cons, List.map_nil, List.map_cons, List.length_cons, List.length_nil, Nat.reduceAdd, and_true, List.cons.injEq, exists_eq_left']
def firstDead (now : Int) (l : List Ses) : Int := if lives now l = l then -1 else ((l.takeWhile (Ses.lives now)).length : Int)
theorem index_dead (now : Int) (l : List Ses) (hlen : l.length ≤ 1000000) : ACall P 83 [.box [u64 now], .row 41 4 (avs l)] [.own 1 4 0 l.length, .fn 64 [.ptr 0 0]]
    (fun x m' => (∃ i : Int, x = i64 i ∧ ((i = -1 ∧ lives now l = l) ∨ ∃ d : Nat, i = d ∧ ∃ h : d < l.length, (l[d]).lives now = false ∧ lives now (l.take d) = l.take d)) ∧ m' = [.box [u64 now], .row 41 4 (avs l)]) := by
  refine acall_go tyOk Try.func83 rfl rfl ?_
  intro K hK
  simp only [Try.ntmps83, List.length_cons, List.length_nil, Nat.reduceAdd, Nat.reduceSub, List.replicate, List.cons_append, List.nil_append]
  try simp (maxSteps := 1000000) only [go_region, go_seq, go_block, go_loop, go_ops_nil, go_op, opK_none, contK_some, callOf, fstep, gpre, fpre, fstep0, flen, T, St.ev, St.put, List.getD_cons_zero, List.getD_cons_succ, List.set, true_and, Bool.true_and]
  refine loopK_rule tyOk (α := Nat) 2 [0, 1, 7, 8] (fun i => i ≤ l.length ∧ lives now (l.take i) = l.take i)
    (fun i => ⟨[.own 1 4 0 l.length, .fn 64 [.ptr 0 0], .any, .any, .any, .any, .any, i64 l.length, i64 i, .any, .any, .any, .any, .any, .any, .any, .any, .any, .any], [.box [u64 now], .row 41 4 (avs l)]⟩)
    (fun i => l.length - i) 0 (by first | exact Nat.zero_le _ | decide) ⟨Nat.zero_le _, rfl⟩ rfl ?_
  rintro i ⟨hi, hl⟩
  try simp (maxSteps := 1000000) only [go_region, go_seq, go_cond, go_ops_nil, go_op, opK_none, contK_some, callOf, fstep, gpre, fpre, fstep0, fbinA, fbin, fbin0, St.ev, St.put, List.getD_cons_zero, List.getD_cons_succ, List.set, true_and, Bool.true_and]
  (first | refine guardV_split ?_ ?_ | refine condK_split ?_ ?_ | refine drawV_split ?_ ?_ | refine condY_split ?_ ?_ | refine guardY_split ?_ ?_) <;> intro h
  · obtain ⟨hlt, eg, ew, c1⟩ := at_idx (by omega) h
    try simp (maxSteps := 1000000) only [go_skip, go_region, go_seq, go_block, go_ops_nil, go_op, opK_none, opK_some, contK_some, condK_t, callOf, callK_eq, callJ_nil, callD_fn, fstep, gpre, gloadB, fpre, fstep0, fload, fcell, findexAddr, evs, T, TI.isAgg, St.ev, St.put, AV.cells, AV.known, AV.owners, ownersAll, List.getD_cons_zero, List.getD_cons_succ, List.set, List.length_cons, List.length_nil, List.drop_zero, List.take_succ_cons, List.take_zero, List.cons_append, List.nil_append, List.append_nil, List.getElem?_cons_zero, List.getElem?_cons_succ, true_and, and_true, Bool.and_true, Bool.true_and, ↓reduceIte, Nat.reduceAdd, Nat.le_refl, Nat.zero_add, eg, c1, avs_len]
    (refine callG_frame (purge_late now l[i] (avs l)) [0, 1] (by decide) rfl rfl rfl rfl ?_; rintro _ _ ⟨rfl, rfl⟩; refine ⟨rfl, ?_⟩)
    try simp (maxSteps := 1000000) only [go_cond, go_ops_nil, St.ev, St.put, ren, renAll, AB.ren, renM, putL, List.getD_cons_zero, List.getD_cons_succ, List.set]
    (first | refine guardV_split ?_ ?_ | refine condK_split ?_ ?_ | refine drawV_split ?_ ?_ | refine condY_split ?_ ?_ | refine guardY_split ?_ ?_) <;> intro h2
    · have hd : (l[i]).lives now = false := by
        have : l[i].un ≤ now := by simpa using h2
        simp only [Ses.lives, Bool.not_eq_false', decide_eq_true_eq]; exact this
      try simp (maxSteps := 1000000) only [go_region, go_seq, go_ret, go_ops_nil, go_op, opK_none, contK_some, condK_t, callOf, fstep, gpre, fpre, fstep0, St.ev, St.put, List.getD_cons_zero, List.getD_cons_succ, List.set, true_and, Bool.true_and, loopX_ret]
      apply hK
      simp only [Try.results83, retK, ares, List.take_nil, Bool.and_true, AV.ofResults, St.trunc, truncVs, truncV, AB.trunc, List.getD_cons_zero, List.getD_cons_succ, List.take_succ_cons, List.map_nil, List.map_cons, List.length_cons, List.length_nil, Nat.reduceAdd, and_true, List.cons.injEq, exists_eq_left']
      exact ⟨(i : Int), rfl, .inr ⟨i, rfl, hlt, hd, hl⟩⟩
    · have hd : (l[i]).lives now = true := by
        have : ¬ l[i].un ≤ now := by simpa using h2
        simp only [Ses.lives, Bool.not_eq_true', decide_eq_false_iff_not]; exact this
      try simp (maxSteps := 1000000) only [go_nil, go_skip, go_region, go_blk, go_ops_nil, go_op, opK_none, contK_some, condK_f, callOf, fstep, gpre, fpre, fstep0, fbinA, fbin, fbin0, St.ev, St.put, List.getD_cons_zero, List.getD_cons_succ, List.set, true_and, Bool.true_and, ew]
      simp only [loopX_normal, St.trunc, St.keep, truncVs, truncV, AB.trunc, keepV, List.elem_cons, List.elem_nil, List.take_succ_cons, List.take_zero, List.map_cons, List.map_nil, Nat.reduceAdd, Nat.reduceBEq, Nat.reduceLeDiff, Nat.zero_add, Bool.false_eq_true, ↓reduceIte]
      exact ⟨i + 1, ⟨hlt, by rw [lives_take_in hlt hd, hl, ← take_one hlt]⟩, by omega, rfl⟩
  · obtain rfl := at_end hi h
    rw [List.take_length] at hl
    try simp (maxSteps := 1000000) only [go_region, go_seq, go_exit, go_ret, exitK_code, exitK_blk, exitK_nil, go_ops_nil, go_op, opK_none, contK_some, condK_f, callOf, fstep, gpre, fpre, fstep0, St.ev, St.put, List.set, true_and, Bool.true_and, ↓reduceIte, loopX_exit]
    apply hK
    simp only [Try.results83, retK, ares, List.take_nil, Bool.and_true, AV.ofResults, St.trunc, truncVs, truncV, AB.trunc, List.getD_cons_zero, List.getD_cons_succ, List.take_succ_cons, List.map_nil, List.map_cons, List.length_cons, List.length_nil, Nat.reduceAdd, and_true, List.cons.injEq, exists_eq_left']
    exact ⟨-1, rfl, .inl ⟨rfl, hl⟩⟩

theorem set_mid {α : Type} {a g b : List α} {x y : α} : (a ++ (x :: g) ++ b).set a.length y = a ++ (y :: g) ++ b := by
  induction a with
  | nil => rfl
  | cons z a ih => simp
theorem avs_set (l : List Ses) (i : Nat) (s : Ses) : (avs l).set i s.av = avs (l.set i s) := by rw [avs, avs, List.map_set]
abbrev zses : AV := .agg [i64 0, i64 0, i64 0, u64 0]
theorem delete_dead (now : Int) (l : List Ses) (hlen : l.length ≤ 1000000) : ACall P 63 [.box [u64 now], .row 41 4 (avs l)] [.own 1 4 0 l.length, .fn 64 [.ptr 0 0]]
    (fun x m' => x = .own 1 4 0 (lives now l).length ∧ ∃ g, m' = [.box [u64 now], .row 41 4 (avs (lives now l) ++ g)]) := by
  refine acall_go tyOk Try.func63 rfl rfl ?_
  intro K hK
  simp only [Try.ntmps63, List.length_cons, List.length_nil, Nat.reduceAdd, Nat.reduceSub, List.replicate, List.cons_append, List.nil_append]
  try simp (maxSteps := 1000000) only [go_region, go_seq, go_ops_nil, go_op, opK_none, opK_some, contK_some, callOf, callK_eq, callJ_cons, fstep, gpre, fpre, fstep0, evs, St.ev, St.put, AV.owners, ownersAll, List.getD_cons_zero, List.getD_cons_succ, List.set, List.append_nil, true_and, Bool.true_and]
  refine callO_own ?_
  try simp (maxSteps := 1000000) only [callD_fn, evs, St.ev, List.getD_cons_zero, List.getD_cons_succ, List.append_nil]
  refine callG_frame (index_dead now l hlen) [0, 1] (by decide) rfl rfl rfl rfl ?_
  rintro _ _ ⟨⟨i, rfl, hi⟩, rfl⟩
  refine ⟨rfl, ?_⟩
  try simp (maxSteps := 1000000) only [go_region, go_seq, go_cond, go_ops_nil, go_op, opK_none, contK_some, callOf, fstep, gpre, fpre, fstep0, fbinA, fbin, fbin0, St.ev, St.put, ren, renAll, AB.ren, renM, putL, List.getD_cons_zero, List.getD_cons_succ, List.set, true_and, Bool.true_and]
  rcases hi with ⟨rfl, hl⟩ | ⟨d, rfl, hd, hdead, hl⟩
  · try simp (maxSteps := 1000000) only [go_region, go_seq, go_ret, go_ops_nil, go_op, opK_none, contK_some, condK_t, callOf, fstep, gpre, fpre, fstep0, St.ev, St.put, List.getD_cons_zero, List.getD_cons_succ, List.set, true_and, Bool.true_and, beq_self_eq_true]
    apply hK
    simp only [Try.results63, retK, ares, List.take_nil, Bool.and_true, Bool.true_and, AV.ofResults, St.trunc, truncVs, truncV, AB.trunc, List.getD_cons_zero, List.getD_cons_succ, List.take_succ_cons, List.map_nil, List.map_cons, List.length_cons, List.length_nil, Nat.reduceAdd, Nat.reduceLeDiff, true_and, and_true, ↓reduceIte, List.cons.injEq, exists_eq_left']
    rw [hl]
    exact ⟨rfl, [], by rw [List.append_nil]⟩
  · have e0 : ((d : Int) == -1) = false := by rw [beq_eq_false_iff_ne]; omega
    have ew0 : IntKind.i64.wrap ((d : Int) + 1) = ((d + 1 : Nat) : Int) := by rw [wrap_i64 (by omega) (by omega)]; rfl
    have hl1 : lives now (l.take (d + 1)) = l.take d := by rw [lives_take_skip hd hdead, hl]
    have hdl : (l.take d).length = d := by rw [List.length_take]; omega
    try simp (maxSteps := 1000000) only [go_skip, go_region, go_seq, go_block, go_loop, go_ops_nil, go_op, opK_none, contK_some, condK_f, callOf, fstep, gpre, fpre, fstep0, fbinA, fbin, fbin0, St.ev, St.put, List.getD_cons_zero, List.getD_cons_succ, List.set, true_and, Bool.true_and, e0, ew0]
    refine loopK_rule tyOk (α := Nat × List Ses) 2 [0, 1, 5, 6] (fun p => p.1 ≤ l.length ∧ 0 < p.2.length ∧ (lives now (l.take p.1)).length + p.2.length = p.1)
      (fun p => ⟨[.own 1 4 0 l.length, .fn 64 [.ptr 0 0], .any, .any, .any, i64 (lives now (l.take p.1)).length, i64 p.1, .any, .any, .any, .any, .any, .any, .any, .any, .any, .any, .any, .any, .any, .any, .any, .any, .any, .any, .any, .any, .any, .any, .any, .any, .any, .any, .any, .any, .any, .any, .any, .any, .any, .any, .any], [.box [u64 now], .row 41 4 (avs (lives now (l.take p.1) ++ p.2 ++ l.drop p.1))]⟩)
      (fun p => l.length - p.1) (d + 1, [l[d]]) (by first | exact Nat.zero_le _ | decide) ⟨hd, by simp, by simp only [List.length_singleton]; rw [hl1, hdl]⟩ ?_ ?_
    · have e1 : l.take d ++ [l[d]] ++ l.drop (d + 1) = l := by
        rw [← take_one hd, List.take_append_drop]
      simp only [hl1, hdl, e1]
      rfl
    rintro ⟨j, g⟩ ⟨hj, hg, hjg⟩
    simp only at hj hg hjg
    obtain ⟨A, hA⟩ : ∃ A, lives now (l.take j) = A := ⟨_, rfl⟩
    rw [hA] at hjg
    simp only [hA]
    obtain ⟨R, hR⟩ : ∃ R, A ++ g ++ l.drop j = R := ⟨_, rfl⟩
    have eR : R.length = l.length := by rw [← hR]; simp; omega
    try simp (maxSteps := 1000000) only [go_region, go_seq, go_cond, go_ops_nil, go_op, opK_none, contK_some, callOf, fstep, gpre, fpre, fstep0, fbinA, fbin, fbin0, flen, T, St.ev, St.put, List.getD_cons_zero, List.getD_cons_succ, List.set, true_and, Bool.true_and]
    (first | refine guardV_split ?_ ?_ | refine condK_split ?_ ?_ | refine drawV_split ?_ ?_ | refine condY_split ?_ ?_ | refine guardY_split ?_ ?_) <;> intro h
    · obtain ⟨hlt, eg, ew, c1⟩ := at_idx (by omega) h
      have hdr : l.drop j = l[j] :: l.drop (j + 1) := List.drop_eq_getElem_cons hlt
      have hRj : R[j]'(by omega) = l[j] := by
        simp only [← hR]
        rw [List.getElem_append_right (by simp; omega)]
        simp only [hdr]
        have : j - (A ++ g).length = 0 := by simp; omega
        simp only [this, List.getElem_cons_zero]
      have eg2 := avs_get (l := R) (i := j) (by omega)
      rw [hRj] at eg2
      have eg3 := avs_get (l := R) (i := A.length) (by omega)
      have c3 : (0 : Int) ≤ ((A.length : Nat) : Int) ∧ Int.toNat ((A.length : Nat) : Int) < l.length := by omega
      have ew2 : IntKind.i64.wrap ((A.length : Int) + 1) = ((A.length + 1 : Nat) : Int) := by rw [wrap_i64 (by omega) (by omega)]; rfl
      rw [hR]
      try simp (maxSteps := 1000000) only [go_skip, go_region, go_seq, go_block, go_ops_nil, go_op, opK_none, opK_some, contK_some, condK_t, callOf, callK_eq, callJ_nil, callD_fn, fstep, gpre, gloadB, fpre, fstep0, fload, fcell, fstore, findexAddr, evs, T, TI.isAgg, St.ev, St.put, splice, AV.cells, AV.known, AV.flat, AV.owners, ownersAll, Value.oneCell', List.getD_cons_zero, List.getD_cons_succ, List.set, List.map_cons, List.map_nil, List.length_cons, List.length_nil, List.all_cons, List.all_nil, List.drop_succ_cons, List.drop_zero, List.take_succ_cons, List.take_zero, List.cons_append, List.nil_append, List.append_nil, List.getElem?_cons_zero, List.getElem?_cons_succ, true_and, and_true, Bool.and_true, Bool.true_and, Bool.and_self, ↓reduceIte, Nat.reduceAdd, Nat.le_refl, Nat.zero_add, eg2, c1, avs_len, eR, Ses.av]
      (refine callG_frame (purge_late now l[j] (avs R)) [0, 1] (by decide) rfl rfl rfl rfl ?_; rintro _ _ ⟨rfl, rfl⟩; refine ⟨rfl, ?_⟩)
      try simp (maxSteps := 1000000) only [go_cond, go_ops_nil, go_op, opK_none, contK_some, callOf, fstep, gpre, fpre, fstep0, funary, St.ev, St.put, ren, renAll, AB.ren, renM, putL, List.getD_cons_zero, List.getD_cons_succ, List.set, true_and, Bool.true_and]
      cases hdv : (l[j]).lives now with
      | true =>
        have d1 : decide (l[j].un ≤ now) = false := by
          simp only [Ses.lives, Bool.not_eq_true'] at hdv; exact hdv
        have hA2 : lives now (l.take (j + 1)) = A ++ [l[j]] := by rw [lives_take_in hlt hdv, hA]
        try simp (maxSteps := 1000000) only [go_nil, go_region, go_seq, go_blk, go_ops_nil, go_op, opK_none, contK_some, condK_t, callOf, fstep, gpre, gloadB, fpre, fstep0, fbinA, fbin, fbin0, fload, fcell, fstore, findexAddr, T, TI.isAgg, St.ev, St.put, splice, esplice, AV.cells, AV.known, AV.flat, AV.pure, pureAll, Value.oneCell', List.getD_cons_zero, List.getD_cons_succ, List.set, List.length_cons, List.length_nil, List.all_cons, List.all_nil, List.drop_succ_cons, List.drop_zero, List.take_succ_cons, List.take_zero, List.nil_append, List.append_nil, List.getElem?_cons_zero, List.getElem?_cons_succ, true_and, and_true, Bool.and_true, Bool.true_and, Bool.and_self, Bool.not_false, ↓reduceIte, Nat.reduceAdd, Nat.le_refl, Nat.zero_add, d1, c3, eR, ew2, ew, eg3, avs_len, Ses.av]
        simp only [loopX_normal, St.trunc, St.keep, truncVs, truncV, AB.trunc, keepV, pureAll, AV.pure, Bool.and_self, List.drop_zero, List.elem_cons, List.elem_nil, List.take_succ_cons, List.take_zero, List.map_cons, List.map_nil, List.getElem?_cons_zero, List.getElem?_cons_succ, Nat.reduceAdd, Nat.reduceBEq, Nat.reduceLeDiff, Nat.le_refl, Nat.zero_add, Bool.false_eq_true, ↓reduceIte]
        obtain ⟨x, g', rfl⟩ : ∃ x g', g = x :: g' := by
          cases g with
          | nil => simp at hg
          | cons x g' => exact ⟨x, g', rfl⟩
        refine ⟨(j + 1, g' ++ [l[j]]), ⟨hlt, by simp, by simp only [hA2, List.length_append, List.length_cons, List.length_nil] at hjg ⊢; omega⟩, by simp only; omega, ?_⟩
        simp only [hA2, Int.toNat_natCast]
        have e5 : (avs R).set A.length (.agg [i64 l[j].id, i64 l[j].st, i64 l[j].pr, u64 l[j].un]) = avs (A ++ [l[j]] ++ (g' ++ [l[j]]) ++ l.drop (j + 1)) := by
          have := avs_set R A.length l[j]
          rw [← hR, set_mid, hdr] at this
          rw [← hR, hdr]
          refine this.trans ?_
          simp
        rw [e5, List.length_append]
        rfl
      | false =>
        have d1 : decide (l[j].un ≤ now) = true := by
          simp only [Ses.lives, Bool.not_eq_false'] at hdv; exact hdv
        have hA2 : lives now (l.take (j + 1)) = A := by rw [lives_take_skip hlt hdv, hA]
        try simp (maxSteps := 1000000) only [go_nil, go_skip, go_region, go_blk, go_ops_nil, go_op, opK_none, contK_some, condK_f, callOf, fstep, gpre, fpre, fstep0, fbinA, fbin, fbin0, St.ev, St.put, List.getD_cons_zero, List.getD_cons_succ, List.set, true_and, Bool.true_and, Bool.not_true, d1, ew]
        simp only [loopX_normal, St.trunc, St.keep, truncVs, truncV, AB.trunc, keepV, pureAll, AV.pure, Bool.and_self, List.drop_zero, List.elem_cons, List.elem_nil, List.take_succ_cons, List.take_zero, List.map_cons, List.map_nil, List.getElem?_cons_zero, List.getElem?_cons_succ, Nat.reduceAdd, Nat.reduceBEq, Nat.reduceLeDiff, Nat.le_refl, Nat.zero_add, Bool.false_eq_true, ↓reduceIte]
        refine ⟨(j + 1, g ++ [l[j]]), ⟨hlt, by simp, by simp only [hA2, List.length_append, List.length_singleton]; omega⟩, by simp only; omega, ?_⟩
        simp only [hA2]
        have e5 : R = A ++ (g ++ [l[j]]) ++ l.drop (j + 1) := by rw [← hR, hdr]; simp
        rw [e5]
    · obtain rfl := at_end hj h
      rw [hR]
      rw [List.take_length] at hA
      have c3 : (0 : Int) ≤ ((A.length : Nat) : Int) ∧ Int.toNat ((A.length : Nat) : Int) ≤ l.length := by omega
      have hne : ¬ Int.toNat ((A.length : Nat) : Int) = l.length := by omega
      try simp (maxSteps := 1000000) only [go_region, go_seq, go_exit, go_ret, exitK_code, exitK_blk, exitK_nil, go_ops_nil, go_op, opK_none, contK_some, condK_f, callOf, fstep, gpre, fpre, fpost, fstep0, fsliceA, gsliceL, gsliceR, gpart, gbound, gclear, putSeg, fslice, optEv, T, TI.isAgg, TI.zeroOk, TI.zav, St.ev, St.put, Value.oneCell', List.getD_cons_zero, List.getD_cons_succ, List.set, List.map_cons, List.map_nil, List.length_cons, List.length_nil, List.all_cons, List.all_nil, List.getElem?_cons_zero, List.getElem?_cons_succ, true_and, and_true, Bool.and_true, Bool.true_and, Bool.and_self, Bool.or_false, ↓reduceIte, decide_true, decide_false, Nat.reduceAdd, Nat.reduceEqDiff, Nat.reduceLT, Nat.le_refl, Nat.zero_add, loopX_exit, List.length_replicate, c3, eR, hne, avs_len]
      refine ⟨by omega, ?_⟩
      have e6 : (avs R).take (Int.toNat ((A.length : Nat) : Int)) = avs (lives now l) := by
        rw [Int.toNat_natCast, ← hR, hA, avs, ← List.map_take, List.append_assoc, List.take_append_of_le_length (Nat.le_refl _), List.take_length, avs]
      rw [e6]
      apply hK
      simp only [Try.results63, retK, ares, List.take_nil, Bool.and_true, Bool.true_and, AV.ofResults, St.trunc, truncVs, truncV, AB.trunc, List.getD_cons_zero, List.getD_cons_succ, List.take_succ_cons, List.map_nil, List.map_cons, List.length_cons, List.length_nil, Nat.reduceAdd, Nat.reduceLeDiff, true_and, and_true, ↓reduceIte, List.cons.injEq, exists_eq_left']
      exact ⟨by rw [hA, Int.toNat_natCast], _, by rw [List.append_assoc]⟩

theorem sess_Purge (l : List Ses) (now : Int) (hlen : l.length ≤ 1000000) : PCall P 36 [.sl 4 (avs l), u64 now] (fun x => x = .sl 4 (avs (lives now l))) := by
  refine pcall_go tyOk Try.func36 rfl rfl ?_
  intro K hK
  simp only [Try.ntmps36, List.length_cons, List.length_nil, Nat.reduceAdd, Nat.reduceSub, List.replicate, List.cons_append, List.nil_append]
  try simp (maxSteps := 1000000) only [go_region, go_seq, go_ops_nil, go_op, opK_none, opK_some, contK_some, callOf, callK_eq, callJ_nil, callD_fn, fstep, gpre, fpre, fstep0, evs, St.ev, St.put, AV.cells, AV.known, AV.owners, ownersAll, Value.cells, List.getD_cons_zero, List.getD_cons_succ, List.set, List.map_cons, List.map_nil, List.length_nil, List.nil_append, List.append_nil, true_and, Bool.true_and]
  refine callG_new rfl (by first | exact Nat.zero_le _ | decide | simp) (ACallR.new (clone_ses _ (by rw [avs_len]; exact hlen)) rfl (by first | decide | simp)) ?_
  try simp (maxSteps := 1000000) only [go_op, opK_none, opK_some, contK_some, callOf, callK_eq, callJ_cons, fstep, gpre, fpre, fstep0, evs, St.ev, St.put, St.rehome, killV, killVs, AB.kill, AV.owners, ownersAll, ren, AB.ren, List.getD_cons_zero, List.getD_cons_succ, List.set, List.map_cons, List.map_nil, List.length_cons, List.length_nil, List.cons_append, List.nil_append, List.append_nil, List.size_toArray, true_and, Bool.true_and, ↓reduceIte, reduceCtorEq, Nat.zero_add, avs_len]
  refine callO_own ?_
  try simp (maxSteps := 1000000) only [callD_fn, evs, St.ev, List.getD_cons_zero, List.getD_cons_succ, List.append_nil]
  refine callG_frame (delete_dead now l hlen) [0, 1] (by decide) rfl rfl rfl rfl ?_
  rintro _ _ ⟨rfl, g, rfl⟩
  refine ⟨rfl, ?_⟩
  try simp (maxSteps := 1000000) only [go_ret, go_ops_nil, go_op, opK_none, contK_some, callOf, fstep, gpre, fpre, fstep0, St.ev, St.put, ren, renAll, AB.ren, renM, putL, List.getD_cons_zero, List.getD_cons_succ, List.set, true_and, Bool.true_and]
  apply hK
  simp only [Try.results36, retK, ares, Bool.and_true, Bool.true_and, AV.ofResults, St.trunc, truncVs, truncV, List.getD_cons_zero, List.getD_cons_succ, List.take_zero, List.drop_zero, List.map_nil, List.getElem?_cons_zero, List.getElem?_cons_succ, Nat.reduceLeDiff, true_and, and_true, ↓reduceIte, List.cons.injEq, exists_eq_left']
  rw [if_pos (by simp [avs_len]), List.take_append_of_le_length (by rw [avs_len]; exact Nat.le_refl _), List.take_of_length_le (by rw [avs_len]; exact Nat.le_refl _)]

theorem at_lt {l : List Ses} (hr : Up l) {id : Int} (h : has l id = true) : lb ltI (ids l) id < l.length := by
  apply Nat.lt_of_not_le
  intro hc
  rw [← has_at hr, hasAt_ge (by rw [ids_len]; omega)] at h
  cases h
theorem at_id {l : List Ses} (hr : Up l) {id : Int} (h : has l id = true) : (l[lb ltI (ids l) id]'(at_lt hr h)).id = id := by
  have h1 := h
  rw [← has_at hr, hasAt_lt (by rw [ids_len]; exact at_lt hr h)] at h1
  exact (ids_get (at_lt hr h)).symm.trans ((eqI_iff _ _).1 h1)
theorem set_has {l : List Ses} (hr : Up l) {s : Ses} (most : Int) (h : has l s.id = true) : setF l s most = (l.set (lb ltI (ids l) s.id) s, 0) := by
  have hput := put_at hr s
  rw [if_pos h] at hput
  rw [setF, if_neg (by rw [h]; simp), ins_eq hr, ← hput]
theorem set_full {l : List Ses} {s : Ses} {most : Int} (h : has l s.id = false) (h2 : decide (most ≤ l.length) = true) : setF l s most = (l, 2) := by
  rw [setF, if_pos (by rw [h, h2]; rfl)]
theorem set_new {l : List Ses} (hr : Up l) {s : Ses} {most : Int} (h : has l s.id = false) (h2 : decide (most ≤ l.length) = false) : setF l s most = (l.take (lb ltI (ids l) s.id) ++ [s] ++ l.drop (lb ltI (ids l) s.id), 0) := by
  have hput := put_at hr s
  rw [if_neg (by rw [h]; decide)] at hput
  rw [setF, if_neg (by rw [h, h2]; simp), ins_eq hr, ← hput]
theorem clear_at {l : List Ses} (hr : Up l) (id : Int) : (if has l id = true then l.take (lb ltI (ids l) id) ++ l.drop (lb ltI (ids l) id + 1) else l) = clear l id := by
  have h := congrArg (List.map Prod.snd) (without_eq ordI eqI_iff (m := keyed l) (by rw [RisesM, keyed_fst]; exact hr) id)
  have f1 : ((keyed l).filter (fun p => !eqI p.1 id)).map Prod.snd = clear l id := by
    rw [keyed, List.filter_map, List.map_map]
    exact List.map_id _
  rw [f1] at h
  unfold withoutG at h
  rw [keyed_fst, has_at hr] at h
  refine Eq.trans ?_ h
  split
  · rw [List.map_append, List.map_take, List.map_drop, keyed_snd]
  · rw [keyed_snd]

theorem sess_Set (l : List Ses) (s : Ses) (most : Int) (hr : Up l) (hlen : l.length ≤ 900000) :
    PCall P 21 [.sl 4 (avs l), s.av, i64 most] (fun x => x = .tup [.sl 4 (avs (setF l s most).1), i64 (setF l s most).2]) := by
  refine pcall_go tyOk Try.func21 rfl rfl ?_
  intro K hK
  simp only [Try.ntmps21, List.length_cons, List.length_nil, Nat.reduceAdd, Nat.reduceSub, List.replicate, List.cons_append, List.nil_append]
  try simp (maxSteps := 1000000) only [go_region, go_seq, go_ops_nil, go_op, opK_none, opK_some, contK_some, callOf, callK_eq, callJ_nil, callD_fn, fstep, gpre, fpre, fstep0, evs, St.ev, St.put, AV.cells, AV.known, AV.owners, ownersAll, List.getD_cons_zero, List.getD_cons_succ, List.set, List.length_nil, List.nil_append, List.append_nil, true_and, Bool.true_and, Ses.av]
  refine callG_new rfl (by first | exact Nat.zero_le _ | decide | simp) (ACallR.new (clone_ses _ (by rw [avs_len]; omega)) rfl (by first | decide | simp)) ?_
  try simp (maxSteps := 1000000) only [go_region, go_seq, go_ops_nil, go_op, opK_none, opK_some, contK_some, callOf, callK_eq, callJ_cons, fstep, gpre, gloadB, fpre, fstep0, fload, fcell, ffieldAddr, evs, T, TI.isAgg, St.ev, St.put, St.rehome, killV, killVs, AB.kill, AV.owners, ownersAll, ren, AB.ren, List.getD_cons_zero, List.getD_cons_succ, List.set, List.map_cons, List.map_nil, List.length_cons, List.length_nil, List.drop_zero, List.headD_cons, List.cons_append, List.nil_append, List.append_nil, List.getElem?_cons_zero, List.getElem?_toArray, true_and, Bool.true_and, Bool.false_eq_true, ↓reduceIte, reduceCtorEq, ne_eq, not_false_eq_true, Nat.reduceAdd, Nat.reduceLT, Nat.add_zero, Nat.zero_add, avs_len]
  refine callO_own ?_
  try simp (maxSteps := 1000000) only [callD_fn, evs, St.ev, List.getD_cons_zero, List.getD_cons_succ, List.append_nil]
  refine callG_lend (find_ses l hr s.id (by omega)) ?_ rfl ?_
  · simp only [truncVs]
    rw [truncV_own (xs := avs l) rfl (avs_len l)]
    rfl
  rw [has_at hr]
  try simp (maxSteps := 1000000) only [go_region, go_seq, go_cond, go_block, go_ops_nil, go_op, opK_none, contK_some, callOf, fstep, gpre, fpre, fstep0, St.ev, St.put, List.getD_cons_zero, List.getD_cons_succ, List.set, List.length_cons, List.length_nil, true_and, Bool.true_and, Nat.reduceAdd, Nat.reduceLT, Nat.zero_add]
  (first | refine guardV_split ?_ ?_ | refine condK_split ?_ ?_ | refine drawV_split ?_ ?_ | refine condY_split ?_ ?_ | refine guardY_split ?_ ?_) <;> intro h
  · have hlt := at_lt hr h
    have eg := avs_get hlt
    have c1 : (0 : Int) ≤ ((lb ltI (ids l) s.id : Nat) : Int) ∧ Int.toNat ((lb ltI (ids l) s.id : Nat) : Int) < l.length := by omega
    rw [set_has hr most h] at hK
    try simp (maxSteps := 1000000) only [go_region, go_seq, go_blk, go_ret, go_ops_nil, go_op, opK_none, contK_some, condK_t, callOf, fstep, gpre, gloadB, fpre, fstep0, fload, fcell, fstore, findexAddr, T, TI.isAgg, St.ev, St.put, splice, esplice, AV.cells, AV.known, AV.flat, AV.pure, pureAll, Value.oneCell', List.getD_cons_zero, List.getD_cons_succ, List.set, List.length_cons, List.length_nil, List.all_cons, List.all_nil, List.drop_succ_cons, List.drop_zero, List.take_succ_cons, List.take_zero, List.nil_append, List.append_nil, List.getElem?_cons_zero, List.getElem?_cons_succ, true_and, and_true, Bool.and_true, Bool.true_and, Bool.and_self, ↓reduceIte, Nat.reduceAdd, Nat.le_refl, Nat.zero_add, eg, c1, avs_len, Ses.av]
    apply hK
    simp only [Try.results21, retK, ares, Bool.and_true, Bool.true_and, AV.ofResults, St.trunc, truncVs, truncV, List.getD_cons_zero, List.getD_cons_succ, List.take_zero, List.drop_zero, List.map_nil, List.getElem?_cons_zero, List.getElem?_cons_succ, Nat.reduceLeDiff, true_and, and_true, ↓reduceIte, List.cons.injEq, exists_eq_left']
    have e1 := avs_set l (lb ltI (ids l) s.id) s
    simp only [Ses.av] at e1
    rw [Int.toNat_natCast, e1, sl_full (by rw [avs_len, List.length_set])]
  · have h : has l s.id = false := h
    try simp (maxSteps := 1000000) only [go_region, go_seq, go_cond, go_ops_nil, go_op, opK_none, contK_some, condK_f, callOf, fstep, gpre, fpre, fstep0, fbinA, fbin, fbin0, flen, T, St.ev, St.put, List.getD_cons_zero, List.getD_cons_succ, List.set, true_and, Bool.true_and]
    (first | refine guardV_split ?_ ?_ | refine condK_split ?_ ?_ | refine drawV_split ?_ ?_ | refine condY_split ?_ ?_ | refine guardY_split ?_ ?_) <;> intro h2
    · rw [set_full h h2] at hK
      try simp (maxSteps := 1000000) only [go_region, go_seq, go_ret, go_ops_nil, go_op, opK_none, contK_some, condK_t, callOf, fstep, gpre, fpre, fstep0, St.ev, St.put, List.getD_cons_zero, List.getD_cons_succ, List.set, true_and, Bool.true_and]
      apply hK
      simp only [Try.results21, retK, ares, Bool.and_true, Bool.true_and, AV.ofResults, St.trunc, truncVs, truncV, List.getD_cons_zero, List.getD_cons_succ, List.take_zero, List.drop_zero, List.map_nil, List.getElem?_cons_zero, List.getElem?_cons_succ, Nat.reduceLeDiff, true_and, and_true, ↓reduceIte, List.cons.injEq, exists_eq_left']
      rw [sl_full (avs_len l)]
    · have h2 : decide (most ≤ l.length) = false := h2
      rw [set_new hr h h2] at hK
      have hins := insert_ses (avs l) s.av (lb ltI (ids l) s.id) (by rw [avs_len]; have := lb_le (lt := ltI) (ids l) s.id; rwa [ids_len] at this) (by rw [avs_len]; omega)
      rw [avs_len] at hins
      have hle : lb ltI (ids l) s.id ≤ l.length := by have := lb_le (lt := ltI) (ids l) s.id; rwa [ids_len] at this
      try simp (maxSteps := 1000000) only [go_region, go_op, opK_none, opK_some, contK_some, condK_f, callOf, callK_eq, callJ_cons, fstep, gpre, gbuildB, gparts, hasBks, bkTop, gloadB, fpre, fstep0, fload, fcell, evParts, evOwners, fbuildSlice, evs, T, TI.isAgg, TI.zeroOk, TI.zav, setParts, partsOk, St.ev, St.put, St.shutAll, AV.cells, AV.known, AV.flat, AV.pure, pureAll, AV.owners, ownersAll, Value.oneCell', List.getD_cons_zero, List.getD_cons_succ, List.set, List.map_cons, List.map_nil, List.length_cons, List.length_nil, List.all_cons, List.all_nil, List.drop_zero, List.take_succ_cons, List.take_zero, List.cons_append, List.nil_append, List.append_nil, List.getElem?_cons_zero, List.replicate, true_and, and_true, Bool.and_true, Bool.true_and, Bool.and_self, Bool.or_false, Bool.false_eq_true, ↓reduceIte, decide_true, decide_false, Nat.reduceAdd, Nat.reduceMul, Nat.reduceLeDiff, Nat.reduceEqDiff, Nat.reduceLT, Nat.zero_le, Nat.le_refl, Nat.zero_add]
      refine callO_some [2] rfl ?_
      try simp (maxSteps := 1000000) only [callD_fn, evs, St.ev, St.shutAll, St.shut, shutV, shutVs, AB.shut, List.getD_cons_zero, List.getD_cons_succ, List.set, List.map_cons, List.map_nil, List.length_cons, List.length_nil, List.drop_zero, List.take_succ_cons, List.take_zero, List.append_nil, List.getElem?_cons_zero, List.getElem?_cons_succ, and_true, Bool.and_true, ↓reduceIte, reduceCtorEq, Nat.reduceEqDiff, Nat.le_refl, Nat.zero_add]
      refine callG_R (b := 1) (by decide) (ACallX.toR hins rfl rfl rfl rfl rfl) ?_
      try simp (maxSteps := 1000000) only [go_region, go_seq, go_blk, go_ret, go_ops_nil, go_op, opK_none, contK_some, callOf, fstep, gpre, fpre, fstep0, St.ev, St.put, St.rehome, killV, killVs, AB.kill, ren, AB.ren, List.getD_cons_zero, List.getD_cons_succ, List.set, List.map_cons, List.map_nil, true_and, Bool.true_and, ↓reduceIte, reduceCtorEq]
      apply hK
      simp only [Try.results21, retK, ares, Bool.and_true, Bool.true_and, AV.ofResults, St.trunc, truncVs, truncV, List.getD_cons_zero, List.getD_cons_succ, List.take_zero, List.drop_zero, List.map_nil, List.getElem?_cons_zero, List.getElem?_cons_succ, Nat.reduceLeDiff, true_and, and_true, ↓reduceIte, List.cons.injEq, exists_eq_left']
      rw [sl_full (by simp [avs_len]; omega)]
      simp only [avs, List.map_append, List.map_take, List.map_drop, List.map_cons, List.map_nil]

theorem sess_Clear (l : List Ses) (id : Int) (hr : Up l) (hlen : l.length ≤ 900000) :
    PCall P 38 [.sl 4 (avs l), i64 id] (fun x => x = .tup [.sl 4 (avs (clear l id)), i64 (if has l id = true then 0 else 3)]) := by
  refine pcall_go tyOk Try.func38 rfl rfl ?_
  intro K hK
  simp only [Try.ntmps38, List.length_cons, List.length_nil, Nat.reduceAdd, Nat.reduceSub, List.replicate, List.cons_append, List.nil_append]
  try simp (maxSteps := 1000000) only [go_region, go_seq, go_ops_nil, go_op, opK_none, opK_some, contK_some, callOf, callK_eq, callJ_nil, callD_fn, fstep, gpre, fpre, fstep0, evs, St.ev, St.put, AV.owners, ownersAll, List.getD_cons_zero, List.getD_cons_succ, List.set, List.append_nil, true_and, Bool.true_and]
  refine callG_new rfl (by first | exact Nat.zero_le _ | decide | simp) (ACallR.new (clone_ses _ (by rw [avs_len]; omega)) rfl (by first | decide | simp)) ?_
  try simp (maxSteps := 1000000) only [go_region, go_seq, go_ops_nil, go_op, opK_none, opK_some, contK_some, callOf, callK_eq, callJ_cons, fstep, gpre, fpre, fstep0, evs, St.ev, St.put, St.rehome, killV, killVs, AB.kill, AV.owners, ownersAll, ren, AB.ren, List.getD_cons_zero, List.getD_cons_succ, List.set, List.map_cons, List.map_nil, List.length_nil, List.nil_append, List.append_nil, true_and, Bool.true_and, avs_len]
  refine callO_own ?_
  try simp (maxSteps := 1000000) only [callD_fn, evs, St.ev, List.getD_cons_zero, List.getD_cons_succ, List.append_nil]
  refine callG_lend (find_ses l hr id (by omega)) ?_ rfl ?_
  · simp only [truncVs]
    rw [truncV_own (xs := avs l) rfl (avs_len l)]
    rfl
  rw [has_at hr]
  have hc := clear_at hr id
  try simp (maxSteps := 1000000) only [go_region, go_seq, go_cond, go_ops_nil, go_op, opK_none, contK_some, callOf, fstep, gpre, fpre, fstep0, funary, St.ev, St.put, List.getD_cons_zero, List.getD_cons_succ, List.set, List.length_cons, List.length_nil, true_and, Bool.true_and, Nat.reduceAdd, Nat.reduceLT, Nat.zero_add]
  cases h : has l id
  · rw [h, if_neg (by decide)] at hc
    rw [h, ← hc] at hK
    try simp (maxSteps := 1000000) only [go_region, go_seq, go_ret, go_ops_nil, go_op, opK_none, contK_some, condK_t, callOf, fstep, gpre, fpre, fstep0, St.ev, St.put, List.getD_cons_zero, List.getD_cons_succ, List.set, true_and, Bool.true_and, Bool.not_false]
    apply hK
    simp only [Try.results38, retK, ares, Bool.and_true, Bool.true_and, AV.ofResults, St.trunc, truncVs, truncV, List.getD_cons_zero, List.getD_cons_succ, List.take_zero, List.drop_zero, List.map_nil, List.getElem?_cons_zero, Nat.le_refl, true_and, and_true, ↓reduceIte, Bool.false_eq_true, List.cons.injEq, exists_eq_left']
    rw [sl_full (avs_len l)]
  · have hlt := at_lt hr h
    have ew : IntKind.i64.wrap (((lb ltI (ids l) id : Nat) : Int) + 1) = ((lb ltI (ids l) id + 1 : Nat) : Int) := by rw [wrap_i64 (by omega) (by omega)]; rfl
    rw [h, if_pos (by rfl)] at hc
    rw [h, ← hc] at hK
    try simp (maxSteps := 1000000) only [go_skip, go_region, go_seq, go_op, opK_none, opK_some, contK_some, condK_f, callOf, callK_eq, callJ_cons, fstep, gpre, fpre, fstep0, fbinA, fbin, fbin0, evs, St.ev, St.put, AV.owners, ownersAll, List.getD_cons_zero, List.getD_cons_succ, List.set, List.append_nil, true_and, Bool.true_and, Bool.not_true, ew]
    refine callO_own ?_
    try simp (maxSteps := 1000000) only [callD_fn, evs, St.ev, List.getD_cons_zero, List.getD_cons_succ, List.append_nil]
    have hdel := delete_ses (avs l) (lb ltI (ids l) id) (by rw [avs_len]; exact hlt) (by rw [avs_len]; omega)
    rw [avs_len] at hdel
    (refine callG_frame hdel [0] (by decide) rfl rfl rfl rfl ?_; rintro _ _ ⟨rfl, rfl⟩; refine ⟨rfl, ?_⟩)
    try simp (maxSteps := 1000000) only [go_ret, go_ops_nil, go_op, opK_none, contK_some, callOf, fstep, gpre, fpre, fstep0, St.ev, St.put, ren, AB.ren, renM, putL, List.getD_cons_zero, List.getD_cons_succ, List.set, true_and, Bool.true_and]
    apply hK
    simp only [Try.results38, retK, ares, Bool.and_true, Bool.true_and, AV.ofResults, St.trunc, truncVs, truncV, List.getD_cons_zero, List.getD_cons_succ, List.take_zero, List.drop_zero, List.map_nil, List.getElem?_cons_zero, Nat.le_refl, true_and, and_true, ↓reduceIte, List.cons.injEq, exists_eq_left']
    have e := cut_last (sz := 4) (f := zses) (xs := avs l) (i := lb ltI (ids l) id) (by rw [avs_len]; exact hlt)
    rw [avs_len] at e
    rw [e]
    simp only [avs, List.map_append, List.map_take, List.map_drop]

def bump (id until_ : Int) (s : Ses) : Ses := if (s.id == id && decide (s.un < until_)) = true then { s with un := until_ } else s
def beatF (l : List Ses) (id until_ : Int) : List Ses × Int := if has l id = true then (l.map (bump id until_), 0) else (l, 3)
theorem bump_ne {s : Ses} {id u : Int} (h : s.id ≠ id) : bump id u s = s := by
  unfold bump; rw [if_neg (by simp [h])]
theorem bump_at' {l : List Ses} (hr : Up l) {id : Int} (u : Int) {i : Nat} (hlt : i < l.length) (hid : l[i].id = id) : l.set i (bump id u l[i]) = l.map (bump id u) := by
  apply List.ext_getElem (by simp)
  intro j h1 h2
  rw [List.getElem_map, List.getElem_set]
  split
  · rename_i e; subst e; rfl
  · rename_i hne
    have hj : j < l.length := by simpa using h2
    have hne2 : l[j].id ≠ id := by
      have hp := List.pairwise_iff_getElem.1 (up_iff.1 hr)
      rcases Nat.lt_or_gt_of_ne hne with h3 | h3
      · have := hp i j hlt hj h3; omega
      · have := hp j i hj hlt h3; omega
    exact (bump_ne hne2).symm
theorem bump_at {l : List Ses} (hr : Up l) {id : Int} (u : Int) (h : has l id = true) : l.set (lb ltI (ids l) id) (bump id u (l[lb ltI (ids l) id]'(at_lt hr h))) = l.map (bump id u) :=
  bump_at' hr u (at_lt hr h) (at_id hr h)
theorem bump_av {s : Ses} {id u : Int} (h : s.id = id) : AV.agg [i64 s.id, i64 s.st, i64 s.pr, .v (.int .u64 (if u > s.un then u else s.un))] = (bump id u s).av := by
  by_cases hc : u > s.un
  · have : bump id u s = { s with un := u } := by unfold bump; rw [if_pos (by simp [h]; exact hc)]
    rw [this, if_pos hc]; rfl
  · have : bump id u s = s := by unfold bump; rw [if_neg (by simp [h]; omega)]
    rw [this, if_neg hc]; rfl
theorem sess_Beat (l : List Ses) (id u : Int) (hr : Up l) (hlen : l.length ≤ 900000) :
    PCall P 37 [.sl 4 (avs l), i64 id, u64 u] (fun x => x = .tup [.sl 4 (avs (beatF l id u).1), i64 (beatF l id u).2]) := by
  refine pcall_go tyOk Try.func37 rfl rfl ?_
  intro K hK
  simp only [Try.ntmps37, List.length_cons, List.length_nil, Nat.reduceAdd, Nat.reduceSub, List.replicate, List.cons_append, List.nil_append]
  try simp (maxSteps := 1000000) only [go_region, go_seq, go_ops_nil, go_op, opK_none, opK_some, contK_some, callOf, callK_eq, callJ_nil, callD_fn, fstep, gpre, fpre, fstep0, evs, St.ev, St.put, AV.owners, ownersAll, List.getD_cons_zero, List.getD_cons_succ, List.set, List.append_nil, true_and, Bool.true_and]
  refine callG_new rfl (by first | exact Nat.zero_le _ | decide | simp) (ACallR.new (clone_ses _ (by rw [avs_len]; omega)) rfl (by first | decide | simp)) ?_
  try simp (maxSteps := 1000000) only [go_region, go_seq, go_ops_nil, go_op, opK_none, opK_some, contK_some, callOf, callK_eq, callJ_cons, fstep, gpre, fpre, fstep0, evs, St.ev, St.put, St.rehome, killV, killVs, AB.kill, AV.owners, ownersAll, ren, AB.ren, List.getD_cons_zero, List.getD_cons_succ, List.set, List.map_cons, List.map_nil, List.length_nil, List.nil_append, List.append_nil, true_and, Bool.true_and, avs_len]
  refine callO_own ?_
  try simp (maxSteps := 1000000) only [callD_fn, evs, St.ev, List.getD_cons_zero, List.getD_cons_succ, List.append_nil]
  refine callG_lend (find_ses l hr id (by omega)) ?_ rfl ?_
  · simp only [truncVs]
    rw [truncV_own (xs := avs l) rfl (avs_len l)]
    rfl
  rw [has_at hr]
  unfold beatF at hK
  try simp (maxSteps := 1000000) only [go_region, go_seq, go_cond, go_ops_nil, go_op, opK_none, contK_some, callOf, fstep, gpre, fpre, fstep0, funary, St.ev, St.put, List.getD_cons_zero, List.getD_cons_succ, List.set, List.length_cons, List.length_nil, true_and, Bool.true_and, Nat.reduceAdd, Nat.reduceLT, Nat.zero_add]
  cases h : has l id
  · rw [h, if_neg (by decide)] at hK
    try simp (maxSteps := 1000000) only [go_region, go_seq, go_ret, go_ops_nil, go_op, opK_none, contK_some, condK_t, callOf, fstep, gpre, fpre, fstep0, St.ev, St.put, List.getD_cons_zero, List.getD_cons_succ, List.set, true_and, Bool.true_and, Bool.not_false]
    apply hK
    simp only [Try.results37, retK, ares, Bool.and_true, Bool.true_and, AV.ofResults, St.trunc, truncVs, truncV, List.getD_cons_zero, List.getD_cons_succ, List.take_zero, List.drop_zero, List.map_nil, List.getElem?_cons_zero, Nat.le_refl, true_and, and_true, ↓reduceIte, List.cons.injEq, exists_eq_left']
    rw [sl_full (avs_len l)]
  · have hlt := at_lt hr h
    have hid := at_id hr h
    have hb := bump_at hr u h
    have eg := avs_get hlt
    have c1 : (0 : Int) ≤ ((lb ltI (ids l) id : Nat) : Int) ∧ Int.toNat ((lb ltI (ids l) id : Nat) : Int) < l.length := by omega
    rw [h, if_pos rfl] at hK
    generalize l[lb ltI (ids l) id] = s at hid hb eg
    try simp (maxSteps := 1000000) only [go_skip, go_region, go_seq, go_ret, go_ops_nil, go_op, opK_none, contK_some, condK_f, callOf, fstep, gpre, gloadB, fpre, fstep0, fload, fcell, fstore, ffieldAddr, findexAddr, evs, fminmax, T, TI.isAgg, St.ev, St.put, splice, esplice, AV.cells, AV.known, AV.flat, AV.pure, Value.cells, Value.oneCell', List.getD_cons_zero, List.getD_cons_succ, List.set, List.map_cons, List.map_nil, List.length_cons, List.length_nil, List.all_cons, List.all_nil, List.drop_succ_cons, List.drop_zero, List.take_succ_cons, List.take_zero, List.headD_cons, List.cons_append, List.nil_append, List.append_nil, List.getElem?_cons_zero, List.getElem?_cons_succ, List.getElem?_toArray, true_and, and_true, Bool.and_true, Bool.true_and, Bool.and_self, Bool.not_true, Bool.false_eq_true, ↓reduceIte, reduceCtorEq, ne_eq, not_false_eq_true, Nat.reduceAdd, Nat.reduceLT, Nat.le_refl, Nat.zero_add, cond_true, eg, c1, avs_len, Ses.av]
    apply hK
    simp only [Try.results37, retK, ares, Bool.and_true, Bool.true_and, AV.ofResults, St.trunc, truncVs, truncV, List.getD_cons_zero, List.getD_cons_succ, List.take_zero, List.drop_zero, List.map_nil, List.getElem?_cons_zero, Nat.le_refl, true_and, and_true, ↓reduceIte, List.cons.injEq, exists_eq_left']
    rw [bump_av hid, Int.toNat_natCast, avs_set, hb, sl_full (by rw [avs_len, List.length_map])]
end Go.Proofs.Ytfkpjdcjjfpigaa
