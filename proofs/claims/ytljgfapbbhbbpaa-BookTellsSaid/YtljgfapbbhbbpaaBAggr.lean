/- What sessions come to. -/
import Derived.Test.YtljgfapbbhbbpaaBCalls
namespace Go.Proofs.Ytljgfapbbhbbpaa
open Go Go.Proofs.Ytljgfapbbhbbpaa.Sym
set_option maxRecDepth 100000
set_option linter.unusedSimpArgs false
set_option linter.unusedVariables false

def yields (l : List Ses) : List (List AV) := l.map fun s => [s.av]

theorem aggr_Live (xs : List AV) (now : Int) : PCall P 100 [.sl 4 xs, u64 now] (fun x => x = .fn 117 [.rp [.sl 4 xs], .rp [u64 now]]) := by
  refine pcall_go tyOk Try.func100 rfl rfl ?_
  intro K hK
  simp only [Try.ntmps100, List.length_cons, List.length_nil, Nat.reduceAdd, Nat.reduceSub, List.replicate, List.cons_append, List.nil_append]
  try simp (maxSteps := 1000000) only [go_region, go_seq, go_ret, go_ops_nil, go_op, opK_none, contK_some, callOf, fstep, fpre, fstep0, evs, St.ev, St.put, AV.cells, AV.known, Value.cells, List.getD_cons_zero, List.getD_cons_succ, List.set, List.map_cons, List.map_nil, List.length_cons, List.length_nil, List.cons_append, List.nil_append, List.size_toArray, true_and, Bool.true_and, Nat.zero_add]
  apply hK
  simp only [Try.results100, retK, ares, pureAll, AV.pure, Bool.and_self, Bool.and_true, Bool.true_and, AV.ofResults, St.trunc, truncVs, truncV, List.getD_cons_zero, List.getD_cons_succ, List.take_zero, List.drop_zero, List.map_nil, List.getElem?_cons_zero, List.getElem?_cons_succ, Nat.reduceLeDiff, Nat.le_refl, true_and, and_true, ↓reduceIte, List.cons.injEq, exists_eq_left']

theorem yields_take_pre {now : Int} {l : List Ses} (i : Nat) : yields (lives now (l.take i)) <+: yields (lives now l) :=
  ((List.take_prefix i l).filter _).map _

theorem aggr_Live_seq (l : List Ses) (now : Int) (hlen : l.length < 9223372036854775807) : ICall P 117 [.rp [.sl 4 (avs l)], .rp [u64 now]] (yields (lives now l)) := by
  refine icall_goY tyOk Try.func117 rfl rfl rfl ?_
  intro y K hK
  simp only [Try.ntmps117, List.length_cons, List.length_nil, Nat.reduceAdd, Nat.reduceSub, List.replicate, List.cons_append, List.nil_append]
  try simp (maxSteps := 1000000) only [callOf, fstep, fpre, fstep0, fload, fcell, flen, T, TI.isAgg, St.ev, St.put, List.getD_cons_zero, List.getD_cons_succ, List.set, List.length_cons, List.length_nil, List.headD_cons, true_and, Bool.true_and, Bool.false_eq_true, ↓reduceIte, Nat.reduceLT, Nat.zero_add, goY_yregion, goY_seq, goY_block, goY_loop, goY_ops_nil, goY_op, opYK_none, contY_some]
  refine loopY_rule tyOk (α := Nat) 0 [0, 1, 2, 6, 7, 8] (fun i => i ≤ l.length)
    (fun i => ⟨[.v y, .rp [.sl 4 (avs l)], .rp [u64 now], .any, .any, .any, .sl 4 (avs l), i64 l.length, i64 i] ++ List.replicate 15 .any, []⟩)
    (fun i => (yields (lives now (l.take i)), false)) (fun i => l.length - i) 0 (Nat.le_refl _) (Nat.zero_le _) (by rw [avs_len]; rfl) rfl ?_
  intro i hi
  try simp (maxSteps := 1000000) only [callOf, fstep, fpre, fstep0, fbinA, fbin, fbin0, St.ev, St.put, List.getD_cons_zero, List.getD_cons_succ, List.set, List.cons_append, List.nil_append, List.replicate, true_and, Bool.true_and, goY_yregion, goY_seq, goY_cond, goY_ops_nil, goY_op, opYK_none, contY_some]
  (first | refine guardV_split ?_ ?_ | refine condK_split ?_ ?_ | refine drawV_split ?_ ?_ | refine condY_split ?_ ?_ | refine guardY_split ?_ ?_) <;> intro h <;> try simp (maxSteps := 1000000) only [callOf, fstep, fpre, fstep0, fload, fcell, fstore, ffieldAddr, findexAddr, T, TI.isAgg, St.ev, St.put, splice, AV.cells, AV.known, Value.cells, List.getD_cons_zero, List.getD_cons_succ, List.set, List.map_cons, List.map_nil, List.length_cons, List.length_nil, List.take_zero, List.headD_cons, List.nil_append, List.getElem?_cons_zero, List.getElem?_cons_succ, List.getElem?_toArray, true_and, and_true, Bool.and_true, Bool.true_and, Bool.false_eq_true, ↓reduceIte, reduceCtorEq, ne_eq, not_false_eq_true, Nat.reduceAdd, Nat.reduceLT, Nat.le_refl, Nat.zero_add, goY_nil, goY_skip, goY_yregion, goY_seq, goY_block, goY_exit, exitY_code, exitY_blk, exitY_nil, goY_ops_nil, goY_op, opYK_none, opYK_some, contY_some, condY_t, condY_f, loopYX_exit]
  · have hlt : i < l.length := by simpa using h
    have eg := avs_get hlt
    have ew : IntKind.i64.wrap ((i : Int) + 1) = ((i + 1 : Nat) : Int) := by rw [wrap_i64 (by omega) (by omega)]; rfl
    have c1 : (0 : Int) ≤ (i : Int) ∧ Int.toNat (i : Int) < (avs l).length := by rw [avs_len]; omega
    try simp (maxSteps := 1000000) only [AV.flat, Value.oneCell', List.length_cons, List.length_nil, List.all_cons, List.all_nil, List.drop_succ_cons, List.drop_zero, List.take_succ_cons, List.take_zero, List.headD_cons, List.append_nil, true_and, and_true, Bool.and_true, Bool.true_and, Bool.and_self, Nat.reduceAdd, Nat.reduceLT, Nat.le_refl, Nat.zero_add, eg, c1, Ses.av]
    (refine callY_use (tick_Late _ _) rfl rfl rfl rfl ?_; rintro _ rfl)
    try simp (maxSteps := 1000000) only [callOf, fstep, fpre, fstep0, funary, St.ev, St.put, List.getD_cons_zero, List.getD_cons_succ, List.set, List.getElem?_cons_zero, List.getElem?_cons_succ, Option.bind_some, List.getElem?_toArray, true_and, Bool.true_and, goY_op, goY_guard, guardYO_some, opYK_none, contY_some]
    cases hl : (l[i]).lives now with
    | false =>
      have e1 : (!decide ((l[i]).un ≤ now)) = false := hl
      try simp (maxSteps := 1000000) only [undef, callOf, fstep, fpre, fstep0, fbinA, fbin, fbin0, fpick, St.ev, St.put, List.getD_cons_zero, List.getD_cons_succ, List.set, List.getElem?_cons_zero, List.getElem?_cons_succ, Option.bind_some, List.getElem?_toArray, true_and, Bool.true_and, Bool.false_eq_true, ↓reduceIte, goY_nil, goY_skip, goY_yregion, goY_cond, goY_blk, goY_ops_nil, goY_op, goY_guard, guardYO_some, guardY_ft, opYK_none, contY_some, condY_f, e1, ew]
      simp only [loopYX_normal, St.trunc, St.keep, truncVs, truncV, keepV, pureAll, AV.pure, Bool.and_self, List.drop_zero, List.drop_succ_cons, List.elem_cons, List.elem_nil, List.take_zero, List.map_nil, List.getElem?_cons_zero, Nat.reduceAdd, Nat.reduceBEq, Nat.le_refl, Nat.zero_add, Bool.false_eq_true, ↓reduceIte]
      exact ⟨i + 1, hlt, by omega, rfl, by rw [lives_take_skip hlt hl]⟩
    | true =>
      have e1 : (!decide ((l[i]).un ≤ now)) = true := hl
      try simp (maxSteps := 1000000) only [callOf, fstep, fpre, fstep0, fload, fcell, funary, evs, fpick, T, TI.isAgg, St.ev, St.put, List.getD_cons_zero, List.getD_cons_succ, List.set, List.length_cons, List.length_nil, List.drop_zero, List.take_succ_cons, List.take_zero, List.getElem?_cons_zero, List.getElem?_cons_succ, Option.bind_some, List.getElem?_toArray, true_and, Bool.true_and, ↓reduceIte, Nat.reduceAdd, Nat.le_refl, Nat.zero_add, cond_true, goY_cond, goY_ops_nil, goY_op, goY_guard, guardYO_some, guardY_tt, opYK_none, opYK_some, contY_some, callY_yield, itAn_eq, itAl_eq, e1]
      have e2 : yields (lives now (l.take i)) ++ [[sess (l[i]).id (l[i]).st (l[i]).pr (l[i]).un]] = yields (lives now (l.take (i + 1))) := by
        rw [lives_take_in hlt hl]; simp [yields]; rfl
      refine ⟨⟨by rw [e2]; exact yields_take_pre _, rfl⟩, ?_⟩
      intro b
      cases b with
      | true =>
        try simp (maxSteps := 1000000) only [callOf, fstep, fpre, fstep0, fbinA, fbin, fbin0, St.ev, St.put, List.getD_cons_zero, List.getD_cons_succ, List.set, true_and, Bool.true_and, Bool.not_true, goY_nil, goY_skip, goY_yregion, goY_blk, goY_ops_nil, goY_op, opYK_none, contY_some, condY_f, ew]
        simp only [loopYX_normal, St.trunc, St.keep, truncVs, truncV, keepV, pureAll, AV.pure, Bool.and_self, List.drop_zero, List.drop_succ_cons, List.elem_cons, List.elem_nil, List.take_zero, List.map_nil, List.getElem?_cons_zero, Nat.reduceAdd, Nat.reduceBEq, Nat.le_refl, Nat.zero_add, Bool.false_eq_true, ↓reduceIte]
        exact ⟨i + 1, hlt, by omega, rfl, by rw [e2]⟩
      | false =>
        try simp (maxSteps := 1000000) only [Bool.not_false, goY_ret, condY_t, loopYX_ret]
        exact hK _ _ _ (itK_ret ⟨by rw [e2]; exact yields_take_pre _, fun h => by cases h⟩)
  · have hge : i = l.length := by have : ¬ ((i : Int) < (l.length : Int)) := by simpa using h
                                  omega
    subst hge
    refine hK _ _ _ (itK_normal ⟨yields_take_pre _, fun _ => by rw [List.take_length]⟩)

def better (p1 i1 p2 i2 : Int) : Bool := decide (p2 < p1) || (p1 == p2 && decide (i1 < i2))

theorem aggr_Better (i1 s1 p1 u1 i2 s2 p2 u2 : Int) : PCall P 101 [sess i1 s1 p1 u1, sess i2 s2 p2 u2] (fun x => x = bool (better p1 i1 p2 i2)) := by
  refine pcall_go tyOk Try.func101 rfl rfl ?_
  intro K hK
  simp only [Try.ntmps101, List.length_cons, List.length_nil, Nat.reduceAdd, Nat.reduceSub, List.replicate, List.cons_append, List.nil_append]
  try simp (maxSteps := 1000000) only [go_region, go_seq, go_ops_nil, go_op, go_guard, opK_none, contK_some, guardK_eq, callOf, fstep, fpre, fstep0, fbinA, fbin, fbin0, fload, fcell, ffieldAddr, T, TI.isAgg, St.ev, St.put, AV.cells, AV.known, List.getD_cons_zero, List.getD_cons_succ, List.set, List.length_cons, List.length_nil, List.drop_succ_cons, List.drop_zero, List.headD_cons, List.cons_append, List.nil_append, List.getElem?_cons_zero, List.getElem?_cons_succ, Option.bind_some, List.getElem?_toArray, true_and, Bool.true_and, Bool.false_eq_true, ↓reduceIte, reduceCtorEq, ne_eq, not_false_eq_true, Nat.reduceAdd, Nat.reduceLT, Nat.zero_add]
  (first | refine guardV_split ?_ ?_ | refine condK_split ?_ ?_ | refine drawV_split ?_ ?_ | refine condY_split ?_ ?_ | refine guardY_split ?_ ?_) <;> intro h <;> try simp (maxSteps := 1000000) only [go_ret, go_ops_nil, go_op, go_guard, opK_none, contK_some, guardK_eq, guardV_tf, guardV_ff, guardV_u, undef, callOf, fstep, fpre, fstep0, fbinA, fbin, fbin0, fload, fcell, ffieldAddr, fpick, T, TI.isAgg, St.ev, St.put, List.getD_cons_zero, List.getD_cons_succ, List.set, List.length_cons, List.length_nil, List.drop_succ_cons, List.drop_zero, List.headD_cons, List.getElem?_cons_zero, List.getElem?_cons_succ, Option.bind_some, List.getElem?_toArray, true_and, Bool.true_and, Bool.false_eq_true, ↓reduceIte, reduceCtorEq, ne_eq, not_false_eq_true, Nat.reduceAdd, Nat.reduceLT, Nat.zero_add]
  · apply hK
    simp only [Try.results101, retK, ares, Bool.and_true, Bool.true_and, AV.ofResults, St.trunc, truncVs, truncV, List.getD_cons_zero, List.getD_cons_succ, List.take_zero, List.map_nil, true_and, and_true, List.cons.injEq, exists_eq_left']
    rw [better, h]
    rfl
  · (first | refine guardV_split ?_ ?_ | refine condK_split ?_ ?_ | refine drawV_split ?_ ?_ | refine condY_split ?_ ?_ | refine guardY_split ?_ ?_) <;> intro h2 <;> try simp (maxSteps := 1000000) only [go_ret, go_ops_nil, go_op, go_guard, opK_none, contK_some, guardK_eq, guardV_tt, guardV_ft, guardV_ff, undef, callOf, fstep, fpre, fstep0, fbinA, fbin, fbin0, fload, fcell, ffieldAddr, fpick, T, TI.isAgg, St.ev, St.put, List.getD_cons_zero, List.getD_cons_succ, List.set, List.length_cons, List.length_nil, List.drop_zero, List.headD_cons, List.getElem?_cons_zero, List.getElem?_cons_succ, Option.bind_some, List.getElem?_toArray, true_and, Bool.true_and, Bool.false_eq_true, ↓reduceIte, reduceCtorEq, ne_eq, not_false_eq_true, Nat.reduceAdd, Nat.reduceLT, Nat.add_zero, Nat.zero_add, cond_true, cond_false]
    · apply hK
      simp only [Try.results101, retK, ares, Bool.and_true, Bool.true_and, AV.ofResults, St.trunc, truncVs, truncV, List.getD_cons_zero, List.getD_cons_succ, List.take_zero, List.map_nil, true_and, and_true, List.cons.injEq, exists_eq_left']
      rw [better, h, h2]
      rfl
    · apply hK
      simp only [Try.results101, retK, ares, Bool.and_true, Bool.true_and, AV.ofResults, St.trunc, truncVs, truncV, List.getD_cons_zero, List.getD_cons_succ, List.take_zero, List.map_nil, true_and, and_true, List.cons.injEq, exists_eq_left']
      rw [better, h, h2]
      rfl

/-- The best so far, and how many. -/
def bestStep (b : Ses × Int) (s : Ses) : Ses × Int := (if b.2 == 0 || better s.pr s.id b.1.pr b.1.id then s else b.1, b.2 + 1)
def bestF (l : List Ses) : Ses × Int := l.foldl bestStep (⟨0, 0, 0, 0⟩, 0)
theorem bestF_next {l : List Ses} {i : Nat} (h : i < l.length) : bestF (l.take (i + 1)) = bestStep (bestF (l.take i)) l[i] := by
  rw [take_one h, bestF, List.foldl_append]; rfl
theorem bestF_count (l : List Ses) : (bestF l).2 = l.length := by
  have : ∀ (l : List Ses) (b : Ses × Int), (l.foldl bestStep b).2 = b.2 + l.length := by
    intro l
    induction l with
    | nil => simp
    | cons s l ih => intro b; simp only [List.foldl_cons, ih, bestStep, List.length_cons]; omega
  rw [bestF, this]; simp
abbrev pres (st pr n : Int) : AV := .agg [i64 st, i64 pr, i64 n]
def ofMem (b : Ses × Int) : List AB := [.box [i64 0, i64 0, i64 0], .box [i64 b.1.id, i64 b.1.st, i64 b.1.pr, u64 b.1.un], .box [i64 b.2]]

theorem aggr_Of (l : List Ses) (now : Int) (hlen : l.length < 9223372036854775807) :
    PCall P 65 [.sl 4 (avs l), u64 now] (fun x => x = pres (bestF (lives now l)).1.st (bestF (lives now l)).1.pr (bestF (lives now l)).2) := by
  refine pcall_goY tyOk Try.func65 rfl rfl ?_
  intro K hK
  simp only [Try.ntmps65, List.length_cons, List.length_nil, Nat.reduceAdd, Nat.reduceSub, List.replicate, List.cons_append, List.nil_append]
  try simp (maxSteps := 1000000) only [go_nil, go_region, go_ops_nil, go_op, opK_none, opK_some, contK_some, callOf, callK_eq, callJ_nil, callD_fn, fstep, fpre, fstep0, fstore, evs, T, St.ev, St.put, splice, AV.cells, AV.known, AV.flat, AV.owners, ownersAll, Value.cells, Value.oneCell', List.getD_cons_zero, List.getD_cons_succ, List.set, List.map_cons, List.map_nil, List.length_cons, List.length_nil, List.all_cons, List.all_nil, List.drop_succ_cons, List.drop_zero, List.take_zero, List.cons_append, List.nil_append, List.append_nil, List.getElem?_cons_zero, List.getElem?_cons_succ, true_and, and_true, Bool.and_true, Bool.true_and, Bool.and_self, Nat.reduceAdd, Nat.le_refl, Nat.zero_add, goY_region, goY_seq, yK_normal]
  (refine callG_use (aggr_Live _ _) rfl ?_; rintro _ rfl)
  try simp (maxSteps := 1000000) only [go_nil, go_ops_nil, St.put, List.set, goY_block, goY_range, yK_normal]
  have hll : (lives now l).length ≤ l.length := List.length_filter_le _ _
  refine range_rule tyOk (aggr_Live_seq l now hlen) (α := Nat) 3 3 [4, 5, 6] ([.any, .any, .any, .any, .ptr 0 0, .ptr 1 0, .ptr 2 0] ++ List.replicate 21 .any) (fun xs i => i = xs.length) (fun i => ofMem (bestF ((lives now l).take i))) 0 rfl rfl
    (fun x hx => by simp only [yields, List.mem_map] at hx; obtain ⟨s, _, rfl⟩ := hx; rfl) (Nat.zero_le _) (Nat.le_refl _) (by rfl) rfl rfl ?_ ?_
  · rintro xs x _ hpre rfl
    obtain ⟨hi, _, rfl⟩ := prefix_next hpre
    have hb := bestF_next hi
    have hc := bestF_count ((lives now l).take xs.length)
    generalize (lives now l)[xs.length] = s at hb
    generalize bestF ((lives now l).take xs.length) = b at hb hc
    try simp (maxSteps := 1000000) only [go_nil, go_region, go_seq, go_block, go_ops_nil, go_op, go_guard, opK_none, contK_some, guardK_eq, callOf, fstep, fpre, fstep0, fbinA, fbin, fbin0, fload, fcell, fstore, T, TI.isAgg, St.ev, St.put, splice, AV.cells, AV.known, AV.flat, Value.oneCell', List.getD_cons_zero, List.getD_cons_succ, List.set, List.map_cons, List.map_nil, List.length_cons, List.length_nil, List.all_cons, List.all_nil, List.drop_succ_cons, List.drop_zero, List.take_zero, List.headD_cons, List.cons_append, List.nil_append, List.append_nil, List.getElem?_cons_zero, List.getElem?_cons_succ, List.replicate, Option.bind_some, List.getElem?_toArray, true_and, and_true, Bool.and_true, Bool.true_and, Bool.and_self, Bool.false_eq_true, ↓reduceIte, Nat.reduceAdd, Nat.reduceLT, Nat.le_refl, Nat.zero_add, List.length_append, setPs, roundA_normal, ofMem, Ses.av]
    have hw : IntKind.i64.wrap (b.2 + 1) = b.2 + 1 := by
      rw [wrap_i64 (by omega) (by rw [hc, List.length_take]; omega)]
    (first | refine guardV_split ?_ ?_ | refine condK_split ?_ ?_ | refine drawV_split ?_ ?_ | refine condY_split ?_ ?_ | refine guardY_split ?_ ?_) <;> intro h
    · try simp (maxSteps := 1000000) only [go_nil, go_region, go_cond, go_blk, go_ops_nil, go_op, go_guard, opK_none, contK_some, condK_t, guardK_eq, guardV_tf, undef, callOf, fstep, fpre, fstep0, fbinA, fbin, fbin0, fload, fcell, fstore, fpick, T, TI.isAgg, St.ev, St.put, splice, AV.cells, AV.known, AV.flat, Value.cells, Value.oneCell', List.getD_cons_zero, List.getD_cons_succ, List.set, List.map_cons, List.map_nil, List.length_cons, List.length_nil, List.all_cons, List.all_nil, List.drop_succ_cons, List.drop_zero, List.take_succ_cons, List.take_zero, List.headD_cons, List.nil_append, List.append_nil, List.getElem?_cons_zero, List.getElem?_cons_succ, Option.bind_some, List.getElem?_toArray, true_and, and_true, Bool.and_true, Bool.true_and, Bool.and_self, Bool.false_eq_true, ↓reduceIte, Nat.reduceAdd, Nat.reduceLT, Nat.le_refl, Nat.zero_add, hw]
      simp only [roundX_normal, St.trunc, truncVs, truncV, AB.trunc, pureAll, AV.pure, Bool.and_self, List.drop_zero, List.take_succ_cons, List.take_zero, List.map_cons, List.map_nil, List.getElem?_cons_zero, List.getElem?_cons_succ, Nat.reduceLeDiff, Nat.le_refl, ↓reduceIte]
      exact ⟨_, rfl, by rw [hb]; simp only [bestStep, h, Bool.true_or, if_true]⟩
    · try simp (maxSteps := 1000000) only [go_guard, opK_none, opK_some, contK_some, guardK_eq, guardV_ff, callOf, callK_eq, callJ_nil, callD_fn, fstep, fpre, fstep0, fload, fcell, evs, T, TI.isAgg, St.ev, St.put, AV.owners, ownersAll, List.getD_cons_zero, List.getD_cons_succ, List.set, List.length_cons, List.length_nil, List.drop_zero, List.take_succ_cons, List.take_zero, List.append_nil, List.getElem?_cons_zero, List.getElem?_cons_succ, Option.bind_some, List.getElem?_toArray, true_and, Bool.true_and, ↓reduceIte, Nat.reduceAdd, Nat.le_refl, Nat.zero_add]
      (refine callG_use (aggr_Better _ _ _ _ _ _ _ _) rfl ?_; rintro _ rfl)
      try simp (maxSteps := 1000000) only [go_cond, go_ops_nil, go_op, opK_none, contK_some, callOf, fstep, fpre, fstep0, fpick, St.ev, St.put, List.getD_cons_zero, List.getD_cons_succ, List.set, true_and, Bool.true_and, cond_false]
      (first | refine guardV_split ?_ ?_ | refine condK_split ?_ ?_ | refine drawV_split ?_ ?_ | refine condY_split ?_ ?_ | refine guardY_split ?_ ?_) <;> intro h2 <;> try simp (maxSteps := 1000000) only [go_nil, go_skip, go_region, go_blk, go_ops_nil, go_op, opK_none, contK_some, condK_t, condK_f, callOf, fstep, fpre, fstep0, fbinA, fbin, fbin0, fload, fcell, fstore, T, TI.isAgg, St.ev, St.put, splice, AV.cells, AV.known, AV.flat, Value.cells, Value.oneCell', List.getD_cons_zero, List.getD_cons_succ, List.set, List.map_cons, List.map_nil, List.length_cons, List.length_nil, List.all_cons, List.all_nil, List.drop_succ_cons, List.drop_zero, List.take_succ_cons, List.take_zero, List.headD_cons, List.nil_append, List.append_nil, List.getElem?_cons_zero, List.getElem?_cons_succ, true_and, and_true, Bool.and_true, Bool.true_and, Bool.and_self, Bool.false_eq_true, ↓reduceIte, Nat.reduceAdd, Nat.reduceLT, Nat.le_refl, Nat.zero_add, hw] <;> simp only [roundX_normal, St.trunc, truncVs, truncV, AB.trunc, pureAll, AV.pure, Bool.and_self, List.drop_zero, List.take_succ_cons, List.take_zero, List.map_cons, List.map_nil, List.getElem?_cons_zero, List.getElem?_cons_succ, Nat.reduceLeDiff, Nat.le_refl, ↓reduceIte]
      · exact ⟨_, rfl, by rw [hb]; simp only [bestStep, h, h2, Bool.false_or, if_true]⟩
      · exact ⟨_, rfl, by rw [hb]; simp only [bestStep, h, h2, Bool.false_or, Bool.false_eq_true, if_false]⟩
  · rintro _ rfl
    have e1 : (lives now l).take (yields (lives now l)).length = lives now l := by rw [yields, List.length_map, List.take_length]
    try simp (maxSteps := 1000000) only [go_nil, go_region, go_ops_nil, go_op, opK_none, contK_some, callOf, fstep, fpre, fstep0, fload, fcell, fstore, ffieldAddr, ffill, fieldPlaces, fieldsOk, fbuild, evParts, T, TI.isAgg, St.ev, St.put, splice, AV.cells, AV.known, AV.flat, Value.cells, Value.oneCell', List.getD_cons_zero, List.getD_cons_succ, List.set, List.map_cons, List.map_nil, List.length_cons, List.length_nil, List.all_cons, List.all_nil, List.drop_succ_cons, List.drop_zero, List.take_succ_cons, List.take_zero, List.headD_cons, List.cons_append, List.nil_append, List.append_nil, List.getElem?_cons_zero, List.getElem?_cons_succ, List.replicate, Option.isSome_some, List.getElem?_toArray, true_and, and_true, Bool.and_true, Bool.true_and, Bool.and_self, Bool.false_eq_true, ↓reduceIte, reduceCtorEq, ne_eq, not_false_eq_true, Nat.reduceAdd, Nat.reduceLeDiff, Nat.reduceLT, Nat.le_refl, Nat.zero_add, goY_region, goY_seq, goY_blk, goY_ret, yK_normal, ofMem, e1]
    apply hK
    simp only [Try.results65, retK, ares, List.take_nil, Bool.and_true, Bool.true_and, AV.ofResults, St.trunc, truncVs, truncV, aload, acell, T, TI.isAgg, List.getD_cons_zero, List.getD_cons_succ, List.take_zero, List.take_succ_cons, List.drop_zero, List.map_nil, List.getElem?_cons_zero, List.length_cons, List.length_nil, Nat.reduceAdd, Nat.le_refl, true_and, and_true, ↓reduceIte, List.cons.injEq, exists_eq_left']
end Go.Proofs.Ytljgfapbbhbbpaa
