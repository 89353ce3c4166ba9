/- SessRoom. -/
import Derived.Test.YtfkpjdcjjfpigaaSessAwake
namespace Go.Proofs.Ytfkpjdcjjfpigaa
open Go Go.Proofs.Ytfkpjdcjjfpigaa.Sym
set_option maxRecDepth 100000
set_option linter.unusedSimpArgs false
set_option linter.unusedVariables false

theorem law_room (raw : List Ses) (s : Ses) (most : Int) : PCall P 4 [.sl 4 (avs raw), s.av, i64 most] (fun x => x = .v (.bool true)) := by
  refine pcall_go tyOk Try.func4 rfl rfl ?_
  intro K hK
  simp only [Try.ntmps4, List.length_cons, List.length_nil, Nat.reduceAdd, Nat.reduceSub, List.replicate, List.cons_append, List.nil_append]
  try simp (maxSteps := 1000000) only [go_region, go_seq, go_ops_nil, go_op, opK_none, opK_some, contK_some, callOf, callK_eq, callJ_nil, callD_fn, fstep, fpre, fstep0, evs, St.ev, St.put, AV.cells, AV.known, ownersAll, List.getD_cons_zero, List.getD_cons_succ, List.set, List.length_nil, List.nil_append, List.append_nil, true_and, Bool.true_and, Ses.av]
  (refine callG_use law06_awake rfl ?_; rintro _ rfl)
  try simp (maxSteps := 1000000) only [go_cond, go_ops_nil, go_op, go_guard, opK_none, contK_some, guardK_eq, guardV_ff, callOf, fstep, fpre, fstep0, fbinA, fbin, fbin0, funary, flen, fpick, T, St.ev, St.put, List.getD_cons_zero, List.getD_cons_succ, List.set, List.getElem?_cons_zero, List.getElem?_cons_succ, Option.bind_some, List.getElem?_toArray, true_and, Bool.true_and, Bool.not_true, cond_false, avs_len]
  (first | refine guardV_split ?_ ?_ | refine condK_split ?_ ?_ | refine drawV_split ?_ ?_ | refine condY_split ?_ ?_ | refine guardY_split ?_ ?_) <;> intro h0
  · try simp (maxSteps := 1000000) only [go_region, go_seq, go_op, opK_some, condK_t, callOf, callK_eq, callJ_nil, callD_fn, evs, St.ev, ownersAll, List.append_nil]
    (refine callG_use law06_awake rfl ?_; rintro _ rfl)
    try simp (maxSteps := 1000000) only [go_ret, go_ops_nil, go_op, opK_none, contK_some, callOf, fstep, fpre, fstep0, St.ev, St.put, List.getD_cons_zero, List.getD_cons_succ, List.set, true_and, Bool.true_and]
    apply hK
    simp only [Try.results4, retK, ares, Bool.and_true, Bool.true_and, AV.ofResults, St.trunc, truncVs, truncV, List.getD_cons_zero, List.getD_cons_succ, List.take_zero, List.map_nil, true_and, and_true, List.cons.injEq, exists_eq_left']
  have hlen : raw.length ≤ 200 := by have : ¬ ((200 : Int) < raw.length) := by simpa using h0
                                     omega
  try simp (maxSteps := 1000000) only [go_skip, go_region, go_seq, go_op, opK_none, opK_some, contK_some, condK_f, callOf, callK_eq, callJ_nil, callD_fn, fstep, fpre, fstep0, evs, St.ev, St.put, AV.owners, ownersAll, List.getD_cons_zero, List.getD_cons_succ, List.set, List.append_nil, true_and, Bool.true_and]
  (refine callG_use (ref06_Sorted raw hlen) rfl ?_; rintro _ rfl)
  have hr := sort_up raw
  have hl := (sortF_spec raw).1
  generalize sortF raw = l at hr hl ⊢
  have hset := sess_Set l s most hr (by omega)
  have hhas := ref06_Has l s.id (by omega)
  try simp (maxSteps := 1000000) only [go_region, go_seq, go_ops_nil, go_op, opK_none, opK_some, contK_some, callOf, callK_eq, callJ_nil, callD_fn, fstep, fpre, fstep0, fload, fcell, evs, T, TI.isAgg, St.ev, St.put, AV.owners, ownersAll, List.getD_cons_zero, List.getD_cons_succ, List.set, List.length_cons, List.length_nil, List.drop_zero, List.take_succ_cons, List.take_zero, List.append_nil, List.getElem?_cons_zero, true_and, Bool.true_and, ↓reduceIte, Nat.reduceAdd, Nat.le_refl, Nat.zero_add]
  cases hh : has l s.id
  · rw [hh] at hhas
    cases hm : decide (most ≤ l.length)
    · have hm' : ¬ most ≤ l.length := by simpa using hm
      rw [set_new hr hh hm] at hset
      have hle : lb ltI (ids l) s.id ≤ l.length := by have := lb_le (lt := ltI) (ids l) s.id; rwa [ids_len] at this
      have hk : (l.take (lb ltI (ids l) s.id) ++ [s] ++ l.drop (lb ltI (ids l) s.id)).length = l.length + 1 := by simp; omega
      generalize l.take (lb ltI (ids l) s.id) ++ [s] ++ l.drop (lb ltI (ids l) s.id) = k at hset hk
      have d1 : decide ((l.length : Int) < ((l.length + 1 : Nat) : Int)) = true := by simp; omega
      have d2 : decide (most < ((l.length + 1 : Nat) : Int)) = false := by simp; omega
      have d3 : decide (((l.length + 1 : Nat) : Int) < (l.length : Int)) = false := by simp; omega
      have d4 : decide ((l.length : Int) < most) = true := by simp; omega
      (refine callG_use hset rfl ?_; rintro _ rfl)
      try simp (maxSteps := 1000000) only [go_skip, go_region, go_seq, go_cond, go_ops_nil, go_op, go_guard, opK_none, opK_some, contK_some, condK_f, guardK_eq, guardV_tt, guardV_ff, callOf, callK_eq, callJ_nil, callD_fn, fstep, fpre, fstep0, fbinA, fbin, fbin0, fload, fcell, ffieldAddr, flen, evs, fpick, T, TI.isAgg, St.ev, St.put, AV.owners, ownersAll, List.getD_cons_zero, List.getD_cons_succ, List.set, List.length_cons, List.length_nil, List.drop_zero, List.headD_cons, List.append_nil, List.getElem?_cons_zero, List.getElem?_cons_succ, Option.bind_some, List.getElem?_toArray, true_and, Bool.true_and, Bool.false_eq_true, ↓reduceIte, reduceCtorEq, ne_eq, not_false_eq_true, Nat.reduceAdd, Nat.reduceLT, Nat.add_zero, Nat.zero_add, cond_true, cond_false, avs_len, hk, d1, d2, d3]
      (refine callG_use hhas rfl ?_; rintro _ rfl)
      try simp (maxSteps := 1000000) only [go_skip, go_region, go_seq, go_cond, go_ret, go_ops_nil, go_op, opK_none, contK_some, condK_f, callOf, fstep, fpre, fstep0, fbinA, fbin, fbin0, flen, isBoolTy, T, St.ev, St.put, List.getD_cons_zero, List.getD_cons_succ, List.set, true_and, Bool.true_and, beq_self_eq_true, avs_len, d4]
      apply hK
      simp only [Try.results4, retK, ares, Bool.and_true, Bool.true_and, AV.ofResults, St.trunc, truncVs, truncV, List.getD_cons_zero, List.getD_cons_succ, List.take_zero, List.map_nil, true_and, and_true, List.cons.injEq, exists_eq_left']
    · have hm' : most ≤ l.length := by simpa using hm
      rw [set_full hh hm] at hset
      have d1 : decide ((l.length : Int) < (l.length : Int)) = false := by simp
      have d4 : decide ((l.length : Int) < most) = false := by simp; omega
      (refine callG_use hset rfl ?_; rintro _ rfl)
      try simp (maxSteps := 1000000) only [go_skip, go_region, go_seq, go_cond, go_ops_nil, go_op, go_guard, opK_none, opK_some, contK_some, condK_f, guardK_eq, guardV_ft, guardV_ff, undef, callOf, callK_eq, callJ_nil, callD_fn, fstep, fpre, fstep0, fbinA, fbin, fbin0, fload, fcell, ffieldAddr, flen, evs, fpick, T, TI.isAgg, St.ev, St.put, AV.owners, ownersAll, List.getD_cons_zero, List.getD_cons_succ, List.set, List.length_cons, List.length_nil, List.drop_zero, List.headD_cons, List.append_nil, List.getElem?_cons_zero, List.getElem?_cons_succ, Option.bind_some, List.getElem?_toArray, true_and, Bool.true_and, Bool.false_eq_true, ↓reduceIte, reduceCtorEq, ne_eq, not_false_eq_true, Nat.reduceAdd, Nat.reduceLT, Nat.add_zero, Nat.zero_add, cond_false, avs_len, d1]
      (refine callG_use hhas rfl ?_; rintro _ rfl)
      try simp (maxSteps := 1000000) only [go_skip, go_region, go_seq, go_cond, go_ret, go_ops_nil, go_op, opK_none, contK_some, condK_f, callOf, fstep, fpre, fstep0, fbinA, fbin, fbin0, flen, isBoolTy, T, St.ev, St.put, List.getD_cons_zero, List.getD_cons_succ, List.set, true_and, Bool.true_and, Int.reduceBEq, beq_self_eq_true, avs_len, d4]
      apply hK
      simp only [Try.results4, retK, ares, Bool.and_true, Bool.true_and, AV.ofResults, St.trunc, truncVs, truncV, List.getD_cons_zero, List.getD_cons_succ, List.take_zero, List.map_nil, true_and, and_true, List.cons.injEq, exists_eq_left']
  · rw [hh] at hhas
    rw [set_has hr most hh] at hset
    have hk : (l.set (lb ltI (ids l) s.id) s).length = l.length := List.length_set ..
    generalize l.set (lb ltI (ids l) s.id) s = k at hset hk
    have d1 : decide ((l.length : Int) < (l.length : Int)) = false := by simp
    (refine callG_use hset rfl ?_; rintro _ rfl)
    try simp (maxSteps := 1000000) only [go_skip, go_region, go_seq, go_cond, go_ops_nil, go_op, go_guard, opK_none, opK_some, contK_some, condK_f, guardK_eq, guardV_ft, guardV_ff, undef, callOf, callK_eq, callJ_nil, callD_fn, fstep, fpre, fstep0, fbinA, fbin, fbin0, fload, fcell, ffieldAddr, flen, evs, fpick, T, TI.isAgg, St.ev, St.put, AV.owners, ownersAll, List.getD_cons_zero, List.getD_cons_succ, List.set, List.length_cons, List.length_nil, List.drop_zero, List.headD_cons, List.append_nil, List.getElem?_cons_zero, List.getElem?_cons_succ, Option.bind_some, List.getElem?_toArray, true_and, Bool.true_and, Bool.false_eq_true, ↓reduceIte, reduceCtorEq, ne_eq, not_false_eq_true, Nat.reduceAdd, Nat.reduceLT, Nat.add_zero, Nat.zero_add, cond_false, avs_len, hk, d1]
    (refine callG_use hhas rfl ?_; rintro _ rfl)
    try simp (maxSteps := 1000000) only [go_region, go_seq, go_cond, go_ret, go_ops_nil, go_op, go_guard, opK_none, contK_some, condK_t, guardK_eq, guardV_tt, callOf, fstep, fpre, fstep0, fbinA, fbin, fbin0, flen, fpick, T, St.ev, St.put, List.getD_cons_zero, List.getD_cons_succ, List.set, List.getElem?_cons_zero, List.getElem?_cons_succ, Option.bind_some, List.getElem?_toArray, true_and, Bool.true_and, cond_true, beq_self_eq_true, avs_len, hk]
    apply hK
    simp only [Try.results4, retK, ares, Bool.and_true, Bool.true_and, AV.ofResults, St.trunc, truncVs, truncV, List.getD_cons_zero, List.getD_cons_succ, List.take_zero, List.map_nil, true_and, and_true, List.cons.injEq, exists_eq_left']
def shapesSessRoom : List (Bool × List Lf) := [(false, [.sl 4 true [.int .i64, .int .i64, .int .i64, .int .u64]]), (true, [.int .i64, .int .i64, .int .i64, .int .u64]), (false, [.int .i64])]
theorem shapesSessRoom_ok : argShapes T 6 [38, 41, 3] = some shapesSessRoom := by kernel_rfl
theorem law_SessRoom (xs : List AV) (h : argsFit shapesSessRoom xs) : PCall P 4 xs (fun x => x = .v (.bool true)) := by
  obtain ⟨_, _, rfl, ⟨_, _, rfl, ⟨ys, rfl, hlen, hys⟩, rfl⟩, x, _, rfl, hx, _, _, rfl, ⟨_, _, rfl, ⟨most, rfl, _⟩, rfl⟩, rfl⟩ := h
  obtain ⟨l, rfl, hl⟩ := fits_list hys
  obtain ⟨s, hs, _⟩ := fits_ses (x := .agg x) hx rfl
  have := law_room l s most
  rw [← hs] at this
  exact this
end Go.Proofs.Ytfkpjdcjjfpigaa
