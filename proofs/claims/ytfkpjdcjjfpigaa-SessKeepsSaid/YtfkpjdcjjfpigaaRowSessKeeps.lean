/- The row of SessKeeps, out of its contract. Printed by row.py, a program of this session. -/
import Derived.Test.YtfkpjdcjjfpigaaMg
import Derived.Test.YtfkpjdcjjfpigaaRows
import Derived.Test.YtfkpjdcjjfpigaaSymU
namespace Go.Proofs.Ytfkpjdcjjfpigaa
open Go Go.Proofs.Ytfkpjdcjjfpigaa.Sym
set_option maxRecDepth 100000
set_option linter.unusedSimpArgs false
set_option linter.unusedVariables false

theorem same_refl' (l : List Ses) (h : l.length ≤ 10000) : PCall P 41 [.sl 4 (avs l), .sl 4 (avs l)] (fun x => x = bool true) := by
  have := ref06_Same l l h h
  rwa [decide_eq_true rfl] at this
theorem put_len' (l : List Ses) (s : Ses) : (put l s).length ≤ 2 * l.length + 1 := by
  have h1 := List.length_filter_le (fun x : Ses => decide (x.id < s.id)) l
  have h2 := List.length_filter_le (fun x : Ses => decide (s.id < x.id)) l
  rw [put, List.length_append, List.length_append, List.length_singleton]
  omega
theorem put_has (l : List Ses) (s : Ses) : has (put l s) s.id = true := by
  rw [has, List.any_eq_true]
  exact ⟨s, by simp [put], by simp⟩
theorem set_room {l : List Ses} (hr : Up l) (s : Ses) {most : Int} (h : has l s.id = true ∨ (l.length : Int) < most) : setF l s most = (put l s, 0) := by
  rw [setF, ins_eq hr, if_neg]
  rcases h with h | h
  · rw [h]; simp
  · simp; intro _; omega
theorem clear_has (l : List Ses) (id : Int) : has (clear l id) id = false := by
  cases h : has (clear l id) id with
  | false => rfl
  | true =>
    rw [has, List.any_eq_true] at h
    obtain ⟨x, hx, h2⟩ := h
    have := (List.mem_filter.1 hx).2
    simp at this h2
    exact absurd h2 this
theorem bump_id' (id u : Int) (s : Ses) : (bump id u s).id = s.id := by
  unfold bump
  split <;> rfl
theorem bump_has (l : List Ses) (id u k : Int) : has (l.map (bump id u)) k = has l k := by
  rw [has, has, List.any_map]
  congr 1
  funext x
  simp only [Function.comp, bump_id']
theorem bump_up {l : List Ses} (h : Up l) (id u : Int) : Up (l.map (bump id u)) := by
  have e : ids (l.map (bump id u)) = ids l := by
    rw [ids, ids, List.map_map]
    congr 1
    funext x
    exact bump_id' id u x
  rw [Up, e]; exact h
theorem clear_len {l : List Ses} (hr : Up l) {id : Int} (h : has l id = true) : (clear l id).length + 1 = l.length := by
  have := clear_at hr id
  rw [if_pos h] at this
  have hlt := at_lt hr h
  rw [← this, List.length_append, List.length_take, List.length_drop]
  omega
theorem lives_up' {l : List Ses} (h : Up l) (now : Int) : Up (lives now l) := by
  rw [up_iff] at h ⊢
  exact h.filter _
theorem up_next {l : List Ses} (h : Up l) {i : Nat} (h1 : 1 ≤ i) (h2 : i < l.length) : decide (l[i].id ≤ (l[i - 1]'(by omega)).id) = false := by
  have := List.pairwise_iff_getElem.1 (up_iff.1 h) (i - 1) i (by omega) h2 (by omega)
  simp; omega
theorem down_idx {i n : Nat} (hn : n ≤ 10000) (h1 : 1 ≤ i) (h2 : i < n) : IntKind.i64.wrap ((i : Int) - 1) = ((i - 1 : Nat) : Int) := by
  rw [wrap_i64 (by omega) (by omega)]; omega

theorem sown_avs : ∀ l : List Ses, sownAll (avs l) = true
  | [] => rfl
  | s :: l => by
    have := sown_avs l
    simp only [avs, List.map_cons, sownAll, Ses.av, AV.sown, Bool.and_self] at this ⊢
    exact this

set_option maxHeartbeats 2000000 in
theorem law_keeps (raw : List Ses) (s : Ses) (now : Int) : PCall P 11 [.sl 4 (avs raw), s.av, u64 now] (fun x => x = .v (.bool true)) := by
  refine pcall_go tyOk Try.func11 rfl rfl ?_
  intro K hK
  simp only [Try.ntmps11, List.length_cons, List.length_nil, Nat.reduceAdd, Nat.reduceSub, List.replicate, List.cons_append, List.nil_append]
  try simp (maxSteps := 1000000) only [go_region, go_seq, go_ops_nil, go_op, opK_none, opK_some, contK_some, callOf, callK_eq, callJ_nil, callD_fn, fstep, gpre, fpre, fstep0, evs, St.ev, St.put, AV.cells, AV.known, ownersAll, List.getD_cons_zero, List.getD_cons_succ, List.set, List.length_nil, List.nil_append, List.append_nil, true_and, Bool.true_and, Ses.av]
  (refine callG_use law06_awake rfl ?_; rintro _ rfl)
  try simp (maxSteps := 1000000) only [go_cond, go_ops_nil, go_op, go_guard, opK_none, contK_some, guardK_eq, guardV_ff, callOf, fstep, gpre, fpre, fstep0, fbinA, fbin, fbin0, funary, flen, fpick, T, St.ev, St.put, List.getD_cons_zero, List.getD_cons_succ, List.set, List.getElem?_cons_zero, List.getElem?_cons_succ, Option.bind_some, List.getElem?_toArray, true_and, Bool.true_and, Bool.not_true, cond_false, avs_len]
  (first | refine guardV_split ?_ ?_ | refine condK_split ?_ ?_ | refine drawV_split ?_ ?_ | refine condY_split ?_ ?_ | refine guardY_split ?_ ?_) <;> intro h0
  · try simp (maxSteps := 1000000) only [go_region, go_seq, go_op, opK_some, condK_t, callOf, callK_eq, callJ_nil, callD_fn, evs, St.ev, ownersAll, List.append_nil]
    (refine callG_use law06_awake rfl ?_; rintro _ rfl)
    try simp (maxSteps := 1000000) only [go_ret, go_ops_nil, go_op, opK_none, contK_some, callOf, fstep, gpre, fpre, fstep0, St.ev, St.put, List.getD_cons_zero, List.getD_cons_succ, List.set, true_and, Bool.true_and]
    apply hK
    simp only [Try.results11, retK, ares, Bool.and_true, Bool.true_and, AV.ofResults, St.trunc, truncVs, truncV, List.getD_cons_zero, List.getD_cons_succ, List.take_zero, List.map_nil, true_and, and_true, List.cons.injEq, exists_eq_left']
  have hlen : raw.length ≤ 200 := by have : ¬ ((200 : Int) < raw.length) := by simpa using h0
                                     omega
  try simp (maxSteps := 1000000) only [go_skip, go_region, go_seq, go_op, opK_none, opK_some, contK_some, condK_f, callOf, callK_eq, callJ_nil, callD_fn, fstep, gpre, fpre, fstep0, evs, St.ev, St.put, AV.owners, ownersAll, List.getD_cons_zero, List.getD_cons_succ, List.set, List.append_nil, true_and, Bool.true_and]
  (refine callG_use (ref06_Sorted raw hlen) rfl ?_; rintro _ rfl)
  have hr := sort_up raw
  have hl := (sortF_spec raw).1
  generalize sortF raw = l at hr hl ⊢
  have hpl := put_len' l s
  have hpr := put_up hr s
  have hph := put_has l s
  have hA := sess_Set l s 201 hr (by omega)
  rw [set_room hr s (.inr (by omega))] at hA
  generalize put l s = B at *
  have hBl : B.length ≤ 1000 := by omega
  have hB := new_Beat B s.id now hpr (by omega)
  rw [beatF, if_pos hph] at hB
  have hcr := bump_up hpr s.id now
  have hch : has (B.map (bump s.id now)) s.id = true := by rw [bump_has]; exact hph
  have hcl : (B.map (bump s.id now)).length = B.length := List.length_map _
  generalize B.map (bump s.id now) = C at *
  have hC := new_Clear C s.id hcr (by omega) hch
  have hdl := clear_len hcr hch
  have hdh := clear_has C s.id
  have hdr := clear_up hcr s.id
  generalize clear C s.id = D at *
  have hP := new_Purge C now (by omega)
  have hpp := lives_up' hcr now
  have hpn : (lives now C).length ≤ C.length := List.length_filter_le _ _
  generalize lives now C = E at *
  have hHas := ref06_Has B s.id (by omega)
  rw [hph] at hHas
  have hHas2 := ref06_Has D s.id (by omega)
  rw [hdh] at hHas2
  have ed : ((D.length : Int) != IntKind.i64.wrap ((B.length : Int) - 1)) = false := by
    rw [wrap_i64 (by omega) (by omega)]
    simp; omega
  try simp (maxSteps := 1000000) only [go_region, go_seq, go_ops_nil, go_op, opK_none, opK_some, contK_some, callOf, callK_eq, callJ_nil, callD_fn, fstep, gpre, gloadB, fpre, fstep0, fload, fcell, evs, T, TI.isAgg, St.ev, St.put, AV.owners, ownersAll, List.getD_cons_zero, List.getD_cons_succ, List.set, List.length_cons, List.length_nil, List.drop_zero, List.take_succ_cons, List.take_zero, List.append_nil, List.getElem?_cons_zero, true_and, Bool.true_and, ↓reduceIte, Nat.reduceAdd, Nat.le_refl, Nat.zero_add]
  (refine callG_use hA rfl ?_; rintro _ rfl)
  try simp (maxSteps := 1000000) only [go_region, go_seq, go_ops_nil, go_op, go_guard, opK_none, opK_some, contK_some, guardK_eq, guardV_ff, callOf, callK_eq, callJ_nil, callD_fn, fstep, gpre, gloadB, fpre, fstep0, fbinA, fbin, fbin0, fload, fcell, ffieldAddr, evs, T, TI.isAgg, St.ev, St.put, AV.owners, ownersAll, List.getD_cons_zero, List.getD_cons_succ, List.set, List.length_cons, List.length_nil, List.drop_zero, List.headD_cons, List.append_nil, List.getElem?_cons_zero, List.getElem?_cons_succ, Option.bind_some, List.getElem?_toArray, true_and, Bool.true_and, Bool.false_eq_true, ↓reduceIte, reduceCtorEq, ne_eq, not_false_eq_true, Nat.reduceAdd, Nat.reduceLT, Nat.add_zero, Nat.zero_add, bne_self_eq_false]
  (refine callG_use hHas rfl ?_; rintro _ rfl)
  try simp (maxSteps := 1000000) only [go_skip, go_region, go_seq, go_cond, go_ops_nil, go_op, go_guard, opK_none, opK_some, contK_some, condK_f, guardK_eq, guardV_ff, callOf, callK_eq, callJ_nil, callD_fn, fstep, gpre, gloadB, fpre, fstep0, fload, fcell, ffieldAddr, funary, evs, fpick, T, TI.isAgg, St.ev, St.put, AV.owners, ownersAll, List.getD_cons_zero, List.getD_cons_succ, List.set, List.length_cons, List.length_nil, List.drop_zero, List.headD_cons, List.append_nil, List.getElem?_cons_zero, List.getElem?_cons_succ, Option.bind_some, List.getElem?_toArray, true_and, Bool.true_and, Bool.not_true, Bool.false_eq_true, ↓reduceIte, reduceCtorEq, ne_eq, not_false_eq_true, Nat.reduceAdd, Nat.reduceLT, Nat.add_zero, Nat.zero_add, cond_false]
  refine callG_new rfl (by first | exact Nat.zero_le _ | decide | simp) (ACallR.new hB rfl (by first | decide | simp)) ?_
  try simp (maxSteps := 1000000) only [go_region, go_seq, go_ops_nil, go_op, opK_none, opK_some, contK_some, callOf, callK_eq, callJ_cons, fstep, gpre, gloadB, fpre, fstep0, fload, fcell, ffieldAddr, evs, T, TI.isAgg, St.ev, St.put, St.rehome, killV, killVs, AB.kill, AV.owners, ownersAll, ren, renAll, AB.ren, List.getD_cons_zero, List.getD_cons_succ, List.set, List.map_cons, List.map_nil, List.length_cons, List.length_nil, List.drop_zero, List.headD_cons, List.cons_append, List.nil_append, List.append_nil, List.getElem?_cons_zero, List.getElem?_toArray, true_and, Bool.true_and, Bool.false_eq_true, ↓reduceIte, reduceCtorEq, ne_eq, not_false_eq_true, Nat.reduceAdd, Nat.reduceLT, Nat.add_zero, Nat.zero_add]
  refine callO_own ?_
  try simp (maxSteps := 1000000) only [callD_fn, evs, St.ev, List.getD_cons_zero, List.getD_cons_succ, List.append_nil]
  refine callG_A (ACall.lend1 hC (by simp only [truncVs]; rw [truncV_own (xs := avs C) rfl (avs_len C)]; rfl) rfl (by simp [AB.sown, sownAll_append, sown_avs, sownAll, AV.sown]) ?_)
  try simp (maxSteps := 1000000) only [go_region, go_seq, go_ops_nil, go_op, go_guard, opK_none, opK_some, contK_some, guardK_eq, guardV_ff, callOf, callK_eq, callJ_cons, fstep, gpre, gloadB, fpre, fstep0, fbinA, fbin, fbin0, fload, fcell, ffieldAddr, evs, fpick, T, TI.isAgg, St.ev, St.put, AV.owners, ownersAll, ren, renAll, AB.ren, List.getD_cons_zero, List.getD_cons_succ, List.set, List.length_cons, List.length_nil, List.drop_zero, List.headD_cons, List.cons_append, List.nil_append, List.append_nil, List.getElem?_cons_zero, List.getElem?_cons_succ, Option.bind_some, List.getElem?_toArray, true_and, Bool.true_and, Bool.false_eq_true, ↓reduceIte, reduceCtorEq, ne_eq, not_false_eq_true, Nat.reduceAdd, Nat.reduceLT, Nat.add_zero, Nat.zero_add, cond_false, bne_self_eq_false]
  refine callO_shut ?_
  try simp (maxSteps := 1000000) only [callH_fn, evs, St.ev, St.shutAll, St.shut, shutV, shutVs, AB.shut, List.getD_cons_zero, List.getD_cons_succ, List.set, List.map_cons, List.map_nil, List.length_cons, List.length_nil, List.all_cons, List.all_nil, List.drop_zero, List.append_nil, List.getElem?_cons_zero, List.getElem?_cons_succ, true_and, Bool.true_and, Bool.and_self, ↓reduceIte, decide_true, reduceCtorEq, Nat.reduceEqDiff, Nat.zero_le, Nat.zero_add, List.length_append]
  rw [if_pos (by simp [avs_len]), List.take_append_of_le_length (by rw [avs_len]; exact Nat.le_refl _), List.take_of_length_le (by rw [avs_len]; exact Nat.le_refl _)]
  skip
  (refine callG_use hHas2 rfl ?_; rintro _ rfl)
  try simp (maxSteps := 1000000) only [go_skip, go_region, go_seq, go_cond, go_ops_nil, go_op, go_guard, opK_none, opK_some, contK_some, condK_f, guardK_eq, guardV_ff, callOf, callK_eq, callJ_cons, fstep, gpre, fpre, fstep0, fbinA, fbin, fbin0, flen, evs, fpick, T, St.ev, St.put, AV.owners, ownersAll, List.getD_cons_zero, List.getD_cons_succ, List.set, List.append_nil, List.getElem?_cons_zero, List.getElem?_cons_succ, Option.bind_some, List.getElem?_toArray, true_and, Bool.true_and, cond_false, avs_len, ed]
  refine callO_own ?_
  try simp (maxSteps := 1000000) only [callD_fn, evs, St.ev, List.getD_cons_zero, List.getD_cons_succ, List.append_nil]
  refine callG_A (ACall.lend2 hP (by simp only [truncVs]; rw [truncV_own (xs := avs C) rfl (avs_len C)]; rfl) rfl rfl (by simp [AB.sown, sown_avs]) ?_)
  try simp (maxSteps := 1000000) only [go_region, go_seq, go_block, go_loop, go_ops_nil, go_op, opK_none, contK_some, callOf, fstep, gpre, gbuildB, gparts, boxParts, boxCons, boxOk, hasBks, bkTop, fpre, fstep0, T, TI.isAgg, TI.zeroOk, St.ev, St.put, AV.known, AV.flat, Value.oneCell', ren, renAll, AB.ren, List.getD_cons_zero, List.getD_cons_succ, List.set, List.length_cons, List.length_nil, List.all_cons, List.all_nil, List.cons_append, List.nil_append, true_and, and_true, Bool.and_true, Bool.true_and, Bool.and_self, Bool.or_true, Bool.or_false, ↓reduceIte, decide_true, Nat.reduceAdd, Nat.reduceLeDiff, Nat.reduceLT, Nat.zero_add]
  refine loopK_rule tyOk (α := Int) 6 [8, 10, 14, 15] (fun k => k = 0 ∨ k = 1 ∨ k = 2 ∨ k = 3 ∨ k = 4)
    (fun k => ⟨[.any, .any, .any, .any, .any, .any, .any, .any, .sl 4 (avs B), .any, .own 1 4 0 C.length, .any, .any, .any, .own 5 1 0 4, i64 k, .any, .any, .any, .any, .any, .any, .any, .any, .any, .any, .any, .any, .any, .any, .any, .any, .any, .any, .any, .any, .any, .any, .any, .any, .any, .any, .any, .any, .any, .any, .any, .any, .any, .any, .any, .any, .any, .any, .any, .any, .any, .any, .any, .any, .any, .any, .any, .any, .any, .any, .any, .any, .any, .any, .any, .any, .any, .any, .any, .any, .any, .any, .any, .any, .any, .any, .any, .any, .any, .any, .any, .any, .any, .any, .any, .any, .any, .any, .any, .any, .any, .any, .any, .any, .any, .any, .any, .any, .any, .any, .any, .any, .any, .any, .any, .any, .any, .any, .any, .any, .any, .any, .any, .any, .any, .any, .any, .any, .any, .any, .any, .any, .any, .any, .any, .any, .any, .any, .any], [.box [i64 s.id, i64 s.st, i64 s.pr, u64 s.un], .row 41 4 (avs C), .gone, .box [u64 now], .row 41 4 (avs E), .box [.sl 4 (avs B), .own 1 4 0 C.length, .sl 4 (avs D), .own 4 4 0 E.length]]⟩)
    (fun k => (4 - k).toNat) 0 (Nat.zero_le _) (.inl rfl) rfl ?_
  rintro k hk
  have e4 : ((4 : Nat) : Int) = 4 := rfl
  rcases hk with rfl | rfl | rfl | rfl | rfl
  · try simp (maxSteps := 1000000) only [go_skip, go_region, go_seq, go_cond, go_block, go_loop, go_ops_nil, go_op, opK_none, contK_some, condK_t, callOf, fstep, gpre, fpre, fstep0, fbinA, fbin, fbin0, flen, T, St.ev, St.put, List.getD_cons_zero, List.getD_cons_succ, List.set, true_and, Bool.true_and, decide_true, Int.reduceLT, e4]
    have hn : B.length ≤ 10000 := by omega
    refine loopK_rule tyOk (α := Nat) 6 [8, 10, 14, 15, 16] (fun i => 1 ≤ i ∧ (i ≤ B.length ∨ i = 1))
      (fun i => ⟨[.any, .any, .any, .any, .any, .any, .any, .any, .sl 4 (avs B), .any, .own 1 4 0 C.length, .any, .any, .any, .own 5 1 0 4, i64 0, i64 i, .any, .any, .any, .any, .any, .any, .any, .any, .any, .any, .any, .any, .any, .any, .any, .any, .any, .any, .any, .any, .any, .any, .any, .any, .any, .any, .any, .any, .any, .any, .any, .any, .any, .any, .any, .any, .any, .any, .any, .any, .any, .any, .any, .any, .any, .any, .any, .any, .any, .any, .any, .any, .any, .any, .any, .any, .any, .any, .any, .any, .any, .any, .any, .any, .any, .any, .any, .any, .any, .any, .any, .any, .any, .any, .any, .any, .any, .any, .any, .any, .any, .any, .any, .any, .any, .any, .any, .any, .any, .any, .any, .any, .any, .any, .any, .any, .any, .any, .any, .any, .any, .any, .any, .any, .any, .any, .any, .any, .any, .any, .any, .any, .any, .any, .any, .any, .any, .any], [.box [i64 s.id, i64 s.st, i64 s.pr, u64 s.un], .row 41 4 (avs C), .gone, .box [u64 now], .row 41 4 (avs E), .box [.sl 4 (avs B), .own 1 4 0 C.length, .sl 4 (avs D), .own 4 4 0 E.length]]⟩)
      (fun i => B.length + 1 - i) 1 (Nat.zero_le _) ⟨Nat.le_refl _, .inr rfl⟩ rfl ?_
    rintro i ⟨h1, h2⟩
    try simp (maxSteps := 1000000) only [go_region, go_seq, go_cond, go_ops_nil, go_op, opK_none, contK_some, callOf, fstep, gpre, gloadB, gcell, fpre, fstep0, fbinA, fbin, fbin0, findexAddr, flen, T, TI.isAgg, St.ev, St.put, List.getD_cons_zero, List.getD_cons_succ, List.set, List.length_cons, List.length_nil, List.drop_zero, List.headD_cons, List.getElem?_cons_zero, List.getElem?_cons_succ, true_and, and_true, Bool.and_true, Bool.true_and, Bool.false_eq_true, ↓reduceIte, Nat.reduceAdd, Nat.reduceLT, Nat.add_zero, Nat.zero_add, Int.reduceLE, avs_len, Int.reduceToNat, Nat.mul_one]
    (first | refine guardV_split ?_ ?_ | refine condK_split ?_ ?_ | refine drawV_split ?_ ?_ | refine condY_split ?_ ?_ | refine guardY_split ?_ ?_) <;> intro h
    · obtain ⟨hlt, eg, ew, c1⟩ := at_idx (by omega) h
      have eg2 := avs_get (l := B) (i := i - 1) (by omega)
      have ew2 := down_idx hn h1 hlt
      have c2 : (0 : Int) ≤ ((i - 1 : Nat) : Int) ∧ Int.toNat ((i - 1 : Nat) : Int) < B.length := by omega
      have hup := up_next hpr h1 hlt
      try simp (maxSteps := 1000000) only [go_skip, go_seq, go_block, go_draws, condK_t]
      refine draw_rule tyOk (by rfl) (by simp only [List.length_cons, List.length_nil, Nat.reduceAdd, Nat.zero_le]) (by kernel_rfl) rfl ?_
      try simp (maxSteps := 1000000) only [go_nil, go_skip, go_region, go_cond, go_blk, go_ops_nil, go_op, opK_none, contK_some, condK_f, callOf, fstep, gpre, gloadB, gcell, dload, fpre, fstep0, fbinA, fbin, fbin0, fload, fcell, ffieldAddr, findexAddr, T, TI.isAgg, St.ev, St.put, AV.cells, AV.known, List.getD_cons_zero, List.getD_cons_succ, List.set, List.length_cons, List.length_nil, List.drop_zero, List.headD_cons, List.append_nil, List.getElem?_cons_zero, List.getElem?_cons_succ, List.replicate, List.getElem?_toArray, true_and, and_true, Bool.and_true, Bool.true_and, Bool.false_eq_true, ↓reduceIte, reduceCtorEq, ne_eq, not_false_eq_true, Nat.reduceAdd, Nat.reduceLT, Nat.add_zero, Nat.zero_add, Int.reduceLE, newCount, drawR_nil, drawR_op, drawP_none, drawQ_some, dstep, isFree, St.app, isNew, eg, ew2, eg2, c1, c2, avs_len, Ses.av, hup, Int.reduceToNat, Nat.mul_one]
      refine ⟨by kernel_rfl, ?_⟩
      try simp (maxSteps := 1000000) only [ew]
      simp only [loopX_normal, St.trunc, St.keep, truncVs, truncV, AB.trunc, keepV, List.elem_cons, List.elem_nil, List.take_succ_cons, List.take_zero, List.map_cons, List.map_nil, Nat.reduceAdd, Nat.reduceBEq, Nat.reduceLeDiff, Nat.zero_add, Bool.false_eq_true, ↓reduceIte]
      exact ⟨i + 1, ⟨by omega, .inl hlt⟩, by omega, rfl⟩
    · try simp (maxSteps := 1000000) only [go_nil, go_region, go_blk, go_exit, exitK_code, exitK_blk, exitK_nil, go_ops_nil, go_op, opK_none, contK_some, condK_f, callOf, fstep, gpre, fpre, fstep0, fbinA, fbin, fbin0, St.ev, St.put, List.getD_cons_zero, List.getD_cons_succ, List.set, true_and, Bool.true_and, ↓reduceIte, loopX_exit]
      simp only [loopX_normal, St.trunc, St.keep, truncVs, truncV, AB.trunc, keepV, List.elem_cons, List.elem_nil, List.take_succ_cons, List.take_zero, List.map_cons, List.map_nil, Nat.reduceAdd, Nat.reduceBEq, Nat.reduceLeDiff, Nat.zero_add, Bool.false_eq_true, ↓reduceIte]
      exact ⟨1, by decide, by decide, rfl⟩
  · try simp (maxSteps := 1000000) only [go_skip, go_region, go_seq, go_cond, go_block, go_loop, go_ops_nil, go_op, opK_none, contK_some, condK_t, callOf, fstep, gpre, fpre, fstep0, fbinA, fbin, fbin0, flen, T, St.ev, St.put, List.getD_cons_zero, List.getD_cons_succ, List.set, true_and, Bool.true_and, decide_true, Int.reduceLT, e4]
    have hn : C.length ≤ 10000 := by omega
    refine loopK_rule tyOk (α := Nat) 6 [8, 10, 14, 15, 16] (fun i => 1 ≤ i ∧ (i ≤ C.length ∨ i = 1))
      (fun i => ⟨[.any, .any, .any, .any, .any, .any, .any, .any, .sl 4 (avs B), .any, .own 1 4 0 C.length, .any, .any, .any, .own 5 1 0 4, i64 1, i64 i, .any, .any, .any, .any, .any, .any, .any, .any, .any, .any, .any, .any, .any, .any, .any, .any, .any, .any, .any, .any, .any, .any, .any, .any, .any, .any, .any, .any, .any, .any, .any, .any, .any, .any, .any, .any, .any, .any, .any, .any, .any, .any, .any, .any, .any, .any, .any, .any, .any, .any, .any, .any, .any, .any, .any, .any, .any, .any, .any, .any, .any, .any, .any, .any, .any, .any, .any, .any, .any, .any, .any, .any, .any, .any, .any, .any, .any, .any, .any, .any, .any, .any, .any, .any, .any, .any, .any, .any, .any, .any, .any, .any, .any, .any, .any, .any, .any, .any, .any, .any, .any, .any, .any, .any, .any, .any, .any, .any, .any, .any, .any, .any, .any, .any, .any, .any, .any, .any], [.box [i64 s.id, i64 s.st, i64 s.pr, u64 s.un], .row 41 4 (avs C), .gone, .box [u64 now], .row 41 4 (avs E), .box [.sl 4 (avs B), .own 1 4 0 C.length, .sl 4 (avs D), .own 4 4 0 E.length]]⟩)
      (fun i => C.length + 1 - i) 1 (Nat.zero_le _) ⟨Nat.le_refl _, .inr rfl⟩ rfl ?_
    rintro i ⟨h1, h2⟩
    try simp (maxSteps := 1000000) only [go_region, go_seq, go_cond, go_ops_nil, go_op, opK_none, contK_some, callOf, fstep, gpre, gloadB, gcell, fpre, fstep0, fbinA, fbin, fbin0, findexAddr, flen, T, TI.isAgg, St.ev, St.put, List.getD_cons_zero, List.getD_cons_succ, List.set, List.length_cons, List.length_nil, List.drop_succ_cons, List.drop_zero, List.headD_cons, List.getElem?_cons_zero, List.getElem?_cons_succ, true_and, and_true, Bool.and_true, Bool.true_and, Bool.false_eq_true, ↓reduceIte, Nat.reduceAdd, Nat.reduceLT, Nat.add_zero, Nat.zero_add, Int.reduceLE, Int.reduceToNat, Nat.mul_one]
    (first | refine guardV_split ?_ ?_ | refine condK_split ?_ ?_ | refine drawV_split ?_ ?_ | refine condY_split ?_ ?_ | refine guardY_split ?_ ?_) <;> intro h
    · obtain ⟨hlt, eg, ew, c1⟩ := at_idx (by omega) h
      have eg2 := avs_get (l := C) (i := i - 1) (by omega)
      have ew2 := down_idx hn h1 hlt
      have c2 : (0 : Int) ≤ ((i - 1 : Nat) : Int) ∧ Int.toNat ((i - 1 : Nat) : Int) < C.length := by omega
      have hup := up_next hcr h1 hlt
      try simp (maxSteps := 1000000) only [go_skip, go_seq, go_block, go_draws, condK_t]
      refine draw_rule tyOk (by rfl) (by simp only [List.length_cons, List.length_nil, Nat.reduceAdd, Nat.zero_le]) (by kernel_rfl) rfl ?_
      try simp (maxSteps := 1000000) only [go_nil, go_skip, go_region, go_cond, go_blk, go_ops_nil, go_op, opK_none, contK_some, condK_f, callOf, fstep, gpre, gloadB, gcell, dload, fpre, fstep0, fbinA, fbin, fbin0, fload, fcell, ffieldAddr, findexAddr, T, TI.isAgg, St.ev, St.put, AV.cells, AV.known, List.getD_cons_zero, List.getD_cons_succ, List.set, List.length_cons, List.length_nil, List.drop_succ_cons, List.drop_zero, List.headD_cons, List.append_nil, List.getElem?_cons_zero, List.getElem?_cons_succ, List.replicate, List.getElem?_toArray, true_and, and_true, Bool.and_true, Bool.true_and, Bool.false_eq_true, ↓reduceIte, reduceCtorEq, ne_eq, not_false_eq_true, Nat.reduceAdd, Nat.reduceLT, Nat.add_zero, Nat.zero_add, Int.reduceLE, newCount, drawR_nil, drawR_op, drawP_none, drawQ_some, dstep, isFree, St.app, isNew, eg, ew2, eg2, c1, c2, avs_len, Ses.av, hup, Int.reduceToNat, Nat.mul_one]
      refine ⟨by kernel_rfl, ?_⟩
      try simp (maxSteps := 1000000) only [ew]
      simp only [loopX_normal, St.trunc, St.keep, truncVs, truncV, AB.trunc, keepV, List.elem_cons, List.elem_nil, List.take_succ_cons, List.take_zero, List.map_cons, List.map_nil, Nat.reduceAdd, Nat.reduceBEq, Nat.reduceLeDiff, Nat.zero_add, Bool.false_eq_true, ↓reduceIte]
      exact ⟨i + 1, ⟨by omega, .inl hlt⟩, by omega, rfl⟩
    · try simp (maxSteps := 1000000) only [go_nil, go_region, go_blk, go_exit, exitK_code, exitK_blk, exitK_nil, go_ops_nil, go_op, opK_none, contK_some, condK_f, callOf, fstep, gpre, fpre, fstep0, fbinA, fbin, fbin0, St.ev, St.put, List.getD_cons_zero, List.getD_cons_succ, List.set, true_and, Bool.true_and, ↓reduceIte, loopX_exit]
      simp only [loopX_normal, St.trunc, St.keep, truncVs, truncV, AB.trunc, keepV, List.elem_cons, List.elem_nil, List.take_succ_cons, List.take_zero, List.map_cons, List.map_nil, Nat.reduceAdd, Nat.reduceBEq, Nat.reduceLeDiff, Nat.zero_add, Bool.false_eq_true, ↓reduceIte]
      exact ⟨2, by decide, by decide, rfl⟩
  · try simp (maxSteps := 1000000) only [go_skip, go_region, go_seq, go_cond, go_block, go_loop, go_ops_nil, go_op, opK_none, contK_some, condK_t, callOf, fstep, gpre, fpre, fstep0, fbinA, fbin, fbin0, flen, T, St.ev, St.put, List.getD_cons_zero, List.getD_cons_succ, List.set, true_and, Bool.true_and, decide_true, Int.reduceLT, e4]
    have hn : D.length ≤ 10000 := by omega
    refine loopK_rule tyOk (α := Nat) 6 [8, 10, 14, 15, 16] (fun i => 1 ≤ i ∧ (i ≤ D.length ∨ i = 1))
      (fun i => ⟨[.any, .any, .any, .any, .any, .any, .any, .any, .sl 4 (avs B), .any, .own 1 4 0 C.length, .any, .any, .any, .own 5 1 0 4, i64 2, i64 i, .any, .any, .any, .any, .any, .any, .any, .any, .any, .any, .any, .any, .any, .any, .any, .any, .any, .any, .any, .any, .any, .any, .any, .any, .any, .any, .any, .any, .any, .any, .any, .any, .any, .any, .any, .any, .any, .any, .any, .any, .any, .any, .any, .any, .any, .any, .any, .any, .any, .any, .any, .any, .any, .any, .any, .any, .any, .any, .any, .any, .any, .any, .any, .any, .any, .any, .any, .any, .any, .any, .any, .any, .any, .any, .any, .any, .any, .any, .any, .any, .any, .any, .any, .any, .any, .any, .any, .any, .any, .any, .any, .any, .any, .any, .any, .any, .any, .any, .any, .any, .any, .any, .any, .any, .any, .any, .any, .any, .any, .any, .any, .any, .any, .any, .any, .any, .any, .any], [.box [i64 s.id, i64 s.st, i64 s.pr, u64 s.un], .row 41 4 (avs C), .gone, .box [u64 now], .row 41 4 (avs E), .box [.sl 4 (avs B), .own 1 4 0 C.length, .sl 4 (avs D), .own 4 4 0 E.length]]⟩)
      (fun i => D.length + 1 - i) 1 (Nat.zero_le _) ⟨Nat.le_refl _, .inr rfl⟩ rfl ?_
    rintro i ⟨h1, h2⟩
    try simp (maxSteps := 1000000) only [go_region, go_seq, go_cond, go_ops_nil, go_op, opK_none, contK_some, callOf, fstep, gpre, gloadB, gcell, fpre, fstep0, fbinA, fbin, fbin0, findexAddr, flen, T, TI.isAgg, St.ev, St.put, List.getD_cons_zero, List.getD_cons_succ, List.set, List.length_cons, List.length_nil, List.drop_succ_cons, List.drop_zero, List.headD_cons, List.getElem?_cons_zero, List.getElem?_cons_succ, true_and, and_true, Bool.and_true, Bool.true_and, Bool.false_eq_true, ↓reduceIte, Nat.reduceAdd, Nat.reduceLT, Nat.add_zero, Nat.zero_add, Int.reduceLE, avs_len, Int.reduceToNat, Nat.mul_one]
    (first | refine guardV_split ?_ ?_ | refine condK_split ?_ ?_ | refine drawV_split ?_ ?_ | refine condY_split ?_ ?_ | refine guardY_split ?_ ?_) <;> intro h
    · obtain ⟨hlt, eg, ew, c1⟩ := at_idx (by omega) h
      have eg2 := avs_get (l := D) (i := i - 1) (by omega)
      have ew2 := down_idx hn h1 hlt
      have c2 : (0 : Int) ≤ ((i - 1 : Nat) : Int) ∧ Int.toNat ((i - 1 : Nat) : Int) < D.length := by omega
      have hup := up_next hdr h1 hlt
      try simp (maxSteps := 1000000) only [go_skip, go_seq, go_block, go_draws, condK_t]
      refine draw_rule tyOk (by rfl) (by simp only [List.length_cons, List.length_nil, Nat.reduceAdd, Nat.zero_le]) (by kernel_rfl) rfl ?_
      try simp (maxSteps := 1000000) only [go_nil, go_skip, go_region, go_cond, go_blk, go_ops_nil, go_op, opK_none, contK_some, condK_f, callOf, fstep, gpre, gloadB, gcell, dload, fpre, fstep0, fbinA, fbin, fbin0, fload, fcell, ffieldAddr, findexAddr, T, TI.isAgg, St.ev, St.put, AV.cells, AV.known, List.getD_cons_zero, List.getD_cons_succ, List.set, List.length_cons, List.length_nil, List.drop_succ_cons, List.drop_zero, List.headD_cons, List.append_nil, List.getElem?_cons_zero, List.getElem?_cons_succ, List.replicate, List.getElem?_toArray, true_and, and_true, Bool.and_true, Bool.true_and, Bool.false_eq_true, ↓reduceIte, reduceCtorEq, ne_eq, not_false_eq_true, Nat.reduceAdd, Nat.reduceLT, Nat.add_zero, Nat.zero_add, Int.reduceLE, newCount, drawR_nil, drawR_op, drawP_none, drawQ_some, dstep, isFree, St.app, isNew, eg, ew2, eg2, c1, c2, avs_len, Ses.av, hup, Int.reduceToNat, Nat.mul_one]
      refine ⟨by kernel_rfl, ?_⟩
      try simp (maxSteps := 1000000) only [ew]
      simp only [loopX_normal, St.trunc, St.keep, truncVs, truncV, AB.trunc, keepV, List.elem_cons, List.elem_nil, List.take_succ_cons, List.take_zero, List.map_cons, List.map_nil, Nat.reduceAdd, Nat.reduceBEq, Nat.reduceLeDiff, Nat.zero_add, Bool.false_eq_true, ↓reduceIte]
      exact ⟨i + 1, ⟨by omega, .inl hlt⟩, by omega, rfl⟩
    · try simp (maxSteps := 1000000) only [go_nil, go_region, go_blk, go_exit, exitK_code, exitK_blk, exitK_nil, go_ops_nil, go_op, opK_none, contK_some, condK_f, callOf, fstep, gpre, fpre, fstep0, fbinA, fbin, fbin0, St.ev, St.put, List.getD_cons_zero, List.getD_cons_succ, List.set, true_and, Bool.true_and, ↓reduceIte, loopX_exit]
      simp only [loopX_normal, St.trunc, St.keep, truncVs, truncV, AB.trunc, keepV, List.elem_cons, List.elem_nil, List.take_succ_cons, List.take_zero, List.map_cons, List.map_nil, Nat.reduceAdd, Nat.reduceBEq, Nat.reduceLeDiff, Nat.zero_add, Bool.false_eq_true, ↓reduceIte]
      exact ⟨3, by decide, by decide, rfl⟩
  · try simp (maxSteps := 1000000) only [go_skip, go_region, go_seq, go_cond, go_block, go_loop, go_ops_nil, go_op, opK_none, contK_some, condK_t, callOf, fstep, gpre, fpre, fstep0, fbinA, fbin, fbin0, flen, T, St.ev, St.put, List.getD_cons_zero, List.getD_cons_succ, List.set, true_and, Bool.true_and, decide_true, Int.reduceLT, e4]
    have hn : E.length ≤ 10000 := by omega
    refine loopK_rule tyOk (α := Nat) 6 [8, 10, 14, 15, 16] (fun i => 1 ≤ i ∧ (i ≤ E.length ∨ i = 1))
      (fun i => ⟨[.any, .any, .any, .any, .any, .any, .any, .any, .sl 4 (avs B), .any, .own 1 4 0 C.length, .any, .any, .any, .own 5 1 0 4, i64 3, i64 i, .any, .any, .any, .any, .any, .any, .any, .any, .any, .any, .any, .any, .any, .any, .any, .any, .any, .any, .any, .any, .any, .any, .any, .any, .any, .any, .any, .any, .any, .any, .any, .any, .any, .any, .any, .any, .any, .any, .any, .any, .any, .any, .any, .any, .any, .any, .any, .any, .any, .any, .any, .any, .any, .any, .any, .any, .any, .any, .any, .any, .any, .any, .any, .any, .any, .any, .any, .any, .any, .any, .any, .any, .any, .any, .any, .any, .any, .any, .any, .any, .any, .any, .any, .any, .any, .any, .any, .any, .any, .any, .any, .any, .any, .any, .any, .any, .any, .any, .any, .any, .any, .any, .any, .any, .any, .any, .any, .any, .any, .any, .any, .any, .any, .any, .any, .any, .any, .any], [.box [i64 s.id, i64 s.st, i64 s.pr, u64 s.un], .row 41 4 (avs C), .gone, .box [u64 now], .row 41 4 (avs E), .box [.sl 4 (avs B), .own 1 4 0 C.length, .sl 4 (avs D), .own 4 4 0 E.length]]⟩)
      (fun i => E.length + 1 - i) 1 (Nat.zero_le _) ⟨Nat.le_refl _, .inr rfl⟩ rfl ?_
    rintro i ⟨h1, h2⟩
    try simp (maxSteps := 1000000) only [go_region, go_seq, go_cond, go_ops_nil, go_op, opK_none, contK_some, callOf, fstep, gpre, gloadB, gcell, fpre, fstep0, fbinA, fbin, fbin0, findexAddr, flen, T, TI.isAgg, St.ev, St.put, List.getD_cons_zero, List.getD_cons_succ, List.set, List.length_cons, List.length_nil, List.drop_succ_cons, List.drop_zero, List.headD_cons, List.getElem?_cons_zero, List.getElem?_cons_succ, true_and, and_true, Bool.and_true, Bool.true_and, Bool.false_eq_true, ↓reduceIte, Nat.reduceLT, Nat.add_zero, Nat.zero_add, Int.reduceLE, Int.reduceToNat, Nat.mul_one]
    (first | refine guardV_split ?_ ?_ | refine condK_split ?_ ?_ | refine drawV_split ?_ ?_ | refine condY_split ?_ ?_ | refine guardY_split ?_ ?_) <;> intro h
    · obtain ⟨hlt, eg, ew, c1⟩ := at_idx (by omega) h
      have eg2 := avs_get (l := E) (i := i - 1) (by omega)
      have ew2 := down_idx hn h1 hlt
      have c2 : (0 : Int) ≤ ((i - 1 : Nat) : Int) ∧ Int.toNat ((i - 1 : Nat) : Int) < E.length := by omega
      have hup := up_next hpp h1 hlt
      try simp (maxSteps := 1000000) only [go_skip, go_seq, go_block, go_draws, condK_t]
      refine draw_rule tyOk (by rfl) (by simp only [List.length_cons, List.length_nil, Nat.reduceAdd, Nat.zero_le]) (by kernel_rfl) rfl ?_
      try simp (maxSteps := 1000000) only [go_nil, go_skip, go_region, go_cond, go_blk, go_ops_nil, go_op, opK_none, contK_some, condK_f, callOf, fstep, gpre, gloadB, gcell, dload, fpre, fstep0, fbinA, fbin, fbin0, fload, fcell, ffieldAddr, findexAddr, T, TI.isAgg, St.ev, St.put, AV.cells, AV.known, List.getD_cons_zero, List.getD_cons_succ, List.set, List.length_cons, List.length_nil, List.drop_succ_cons, List.drop_zero, List.headD_cons, List.append_nil, List.getElem?_cons_zero, List.getElem?_cons_succ, List.replicate, List.getElem?_toArray, true_and, and_true, Bool.and_true, Bool.true_and, Bool.false_eq_true, ↓reduceIte, reduceCtorEq, ne_eq, not_false_eq_true, Nat.reduceAdd, Nat.reduceLT, Nat.add_zero, Nat.zero_add, Int.reduceLE, newCount, drawR_nil, drawR_op, drawP_none, drawQ_some, dstep, isFree, St.app, isNew, eg, ew2, eg2, c1, c2, avs_len, Ses.av, hup, Int.reduceToNat, Nat.mul_one]
      refine ⟨by kernel_rfl, ?_⟩
      try simp (maxSteps := 1000000) only [ew]
      simp only [loopX_normal, St.trunc, St.keep, truncVs, truncV, AB.trunc, keepV, List.elem_cons, List.elem_nil, List.take_succ_cons, List.take_zero, List.map_cons, List.map_nil, Nat.reduceAdd, Nat.reduceBEq, Nat.reduceLeDiff, Nat.zero_add, Bool.false_eq_true, ↓reduceIte]
      exact ⟨i + 1, ⟨by omega, .inl hlt⟩, by omega, rfl⟩
    · try simp (maxSteps := 1000000) only [go_nil, go_region, go_blk, go_exit, exitK_code, exitK_blk, exitK_nil, go_ops_nil, go_op, opK_none, contK_some, condK_f, callOf, fstep, gpre, fpre, fstep0, fbinA, fbin, fbin0, St.ev, St.put, List.getD_cons_zero, List.getD_cons_succ, List.set, true_and, Bool.true_and, ↓reduceIte, loopX_exit]
      simp only [loopX_normal, St.trunc, St.keep, truncVs, truncV, AB.trunc, keepV, List.elem_cons, List.elem_nil, List.take_succ_cons, List.take_zero, List.map_cons, List.map_nil, Nat.reduceAdd, Nat.reduceBEq, Nat.reduceLeDiff, Nat.zero_add, Bool.false_eq_true, ↓reduceIte]
      exact ⟨4, by decide, by decide, rfl⟩
  · try simp (maxSteps := 1000000) only [go_region, go_seq, go_cond, go_block, go_exit, go_loop, exitK_code, exitK_blk, exitK_nil, go_ops_nil, go_op, opK_none, contK_some, condK_f, callOf, fstep, gpre, gbuildB, gparts, hasBks, fpre, fstep0, fbinA, fbin, fbin0, evParts, evOwners, fbuildSlice, flen, felems, fappend, T, TI.isAgg, TI.zeroOk, setParts, partsOk, St.ev, St.put, St.shutAll, St.rehome, killV, killVs, AB.kill, Value.oneCell', List.getD_cons_zero, List.getD_cons_succ, List.set, List.map_cons, List.map_nil, List.length_cons, List.length_nil, List.all_cons, List.all_nil, List.cons_append, List.nil_append, List.getElem?_cons_zero, List.getElem?_cons_succ, List.replicate, true_and, and_true, Bool.and_true, Bool.true_and, Bool.and_self, Bool.or_false, Bool.false_eq_true, ↓reduceIte, decide_true, decide_false, Nat.reduceAdd, Nat.reduceMul, Nat.reduceEqDiff, Nat.reduceLT, Nat.zero_le, Nat.zero_add, Int.reduceLT, loopX_exit, e4, avs_len]
    refine ⟨⟨by simp only [maxLen]; omega, by omega⟩, ?_⟩
    skip
    have hSame := same_refl' B (by omega)
    refine loopK_rule tyOk (α := Nat × List Ses) 7 [8, 10, 17, 18] (fun q => q.1 ≤ C.length ∧ q.2.length = C.length)
      (fun q => ⟨[.any, .any, .any, .any, .any, .any, .any, .any, .sl 4 (avs B), .any, .own 1 4 0 C.length, .any, .any, .any, .any, .any, .any, .own 6 4 0 B.length, i64 q.1, .any, .any, .any, .any, .any, .any, .any, .any, .any, .any, .any, .any, .any, .any, .any, .any, .any, .any, .any, .any, .any, .any, .any, .any, .any, .any, .any, .any, .any, .any, .any, .any, .any, .any, .any, .any, .any, .any, .any, .any, .any, .any, .any, .any, .any, .any, .any, .any, .any, .any, .any, .any, .any, .any, .any, .any, .any, .any, .any, .any, .any, .any, .any, .any, .any, .any, .any, .any, .any, .any, .any, .any, .any, .any, .any, .any, .any, .any, .any, .any, .any, .any, .any, .any, .any, .any, .any, .any, .any, .any, .any, .any, .any, .any, .any, .any, .any, .any, .any, .any, .any, .any, .any, .any, .any, .any, .any, .any, .any, .any, .any, .any, .any, .any, .any, .any], [.box [i64 s.id, i64 s.st, i64 s.pr, u64 s.un], .row 41 4 (avs q.2), .gone, .box [u64 now], .row 41 4 (avs E), .box [.sl 4 (avs B), .own 1 4 0 C.length, .sl 4 (avs D), .own 4 4 0 E.length], .row 41 4 (avs B)]⟩)
      (fun q => C.length - q.1) (0, C) (Nat.zero_le _) ⟨Nat.zero_le _, rfl⟩ rfl ?_
    rintro ⟨i, C'⟩ ⟨hi, hC'⟩
    simp only at hi hC'
    try simp (maxSteps := 1000000) only [go_region, go_seq, go_cond, go_ops_nil, go_op, opK_none, contK_some, callOf, fstep, gpre, fpre, fstep0, fbinA, fbin, fbin0, flen, T, St.ev, St.put, List.getD_cons_zero, List.getD_cons_succ, List.set, true_and, Bool.true_and]
    (first | refine guardV_split ?_ ?_ | refine condK_split ?_ ?_ | refine drawV_split ?_ ?_ | refine condY_split ?_ ?_ | refine guardY_split ?_ ?_) <;> intro h
    · have hlt : i < C.length := by simpa using h
      have eg := avs_get (l := C') (i := i) (by omega)
      have ew : IntKind.i64.wrap ((i : Int) + 1) = ((i + 1 : Nat) : Int) := by rw [wrap_i64 (by omega) (by omega)]; rfl
      have c1 : (0 : Int) ≤ (i : Int) ∧ Int.toNat (i : Int) < C.length := by omega
      have hs := avs_set C' i { C'[i] with pr := -9 }
      try simp (maxSteps := 1000000) only [go_nil, go_skip, go_region, go_seq, go_block, go_blk, go_ops_nil, go_op, opK_none, contK_some, condK_t, callOf, fstep, gpre, fpre, fstep0, fbinA, fbin, fbin0, fstore, ffieldAddr, findexAddr, T, St.ev, St.put, splice, esplice, AV.cells, AV.known, AV.flat, AV.pure, Value.cells, Value.oneCell', List.getD_cons_zero, List.getD_cons_succ, List.set, List.map_cons, List.map_nil, List.length_cons, List.length_nil, List.all_cons, List.all_nil, List.drop_succ_cons, List.drop_zero, List.take_succ_cons, List.take_zero, List.cons_append, List.nil_append, List.getElem?_cons_zero, List.getElem?_cons_succ, List.getElem?_toArray, true_and, and_true, Bool.and_true, Bool.true_and, Bool.and_self, reduceCtorEq, ne_eq, not_false_eq_true, Nat.reduceAdd, Nat.reduceLeDiff, Nat.zero_add, eg, c1, avs_len, hC', Ses.av, ew]
      simp only [loopX_normal, St.trunc, St.keep, truncVs, truncV, AB.trunc, keepV, List.elem_cons, List.elem_nil, List.take_succ_cons, List.take_zero, List.map_cons, List.map_nil, Nat.reduceAdd, Nat.reduceBEq, Nat.reduceLeDiff, Nat.zero_add, Bool.false_eq_true, ↓reduceIte]
      refine ⟨(i + 1, C'.set i { C'[i] with pr := -9 }), ⟨hlt, by simpa using hC'⟩, by simp only; omega, ?_⟩
      simp only [← hs, Ses.av, Int.toNat_natCast]
    · try simp (maxSteps := 1000000) only [go_region, go_seq, go_exit, exitK_code, exitK_blk, exitK_nil, go_op, opK_none, opK_some, contK_some, condK_f, callOf, callK_eq, callJ_cons, fstep, gpre, fpre, fstep0, evs, St.ev, St.put, AV.owners, ownersAll, List.getD_cons_zero, List.getD_cons_succ, List.set, List.nil_append, List.append_nil, true_and, Bool.true_and, ↓reduceIte, loopX_exit]
      refine callO_shut ?_
      try simp (maxSteps := 1000000) only [callH_fn, evs, St.ev, St.shutAll, St.shut, shutV, shutVs, AB.shut, List.getD_cons_zero, List.getD_cons_succ, List.set, List.map_cons, List.map_nil, List.all_cons, List.all_nil, List.drop_zero, List.append_nil, List.getElem?_cons_zero, List.getElem?_cons_succ, true_and, Bool.true_and, Bool.and_self, ↓reduceIte, decide_true, Nat.reduceEqDiff, Nat.zero_le, Nat.zero_add]
      rw [if_pos (show B.length ≤ (avs B).length by rw [avs_len]; exact Nat.le_refl _), List.take_of_length_le (by rw [avs_len]; exact Nat.le_refl _)]
      (refine callG_use hSame rfl ?_; rintro _ rfl)
      try simp (maxSteps := 1000000) only [go_ret, go_ops_nil, go_op, opK_none, contK_some, callOf, fstep, gpre, fpre, fstep0, St.ev, St.put, List.getD_cons_zero, List.getD_cons_succ, List.set, true_and, Bool.true_and]
      apply hK
      simp only [Try.results11, retK, ares, Bool.and_true, Bool.true_and, AV.ofResults, St.trunc, truncVs, truncV, List.getD_cons_zero, List.getD_cons_succ, List.take_zero, List.map_nil, true_and, and_true, List.cons.injEq, exists_eq_left']

def shapesSessKeeps : List (Bool × List Lf) := [(false, [.sl 4 true [.int .i64, .int .i64, .int .i64, .int .u64]]), (true, [.int .i64, .int .i64, .int .i64, .int .u64]), (false, [.int .u64])]
theorem shapesSessKeeps_ok : argShapes T 6 [38, 41, 39] = some shapesSessKeeps := by kernel_rfl
theorem law_SessKeeps (xs : List AV) (h : argsFit shapesSessKeeps xs) : PCall P 11 xs (fun x => x = .v (.bool true)) := by
  obtain ⟨_, _, rfl, ⟨_, _, rfl, ⟨ys, rfl, hlen, hys⟩, rfl⟩, x, _, rfl, hx, _, _, rfl, ⟨_, _, rfl, ⟨now, rfl, _⟩, rfl⟩, rfl⟩ := h
  obtain ⟨l, rfl, hl⟩ := fits_list hys
  obtain ⟨s, hs, _⟩ := fits_ses (x := .agg x) hx rfl
  have := law_keeps l s now
  rw [← hs] at this
  exact this
end Go.Proofs.Ytfkpjdcjjfpigaa
namespace Go.Proofs.Ytfkpjdcjjfpigaa.sessKeeps
open Go.ChangeShapes Go.WideShapes Go.ChangeAt Go.RowKit Go.Proofs.Ytfkpjdcjjfpigaa.Sym
open Go.ChangeMaps (open_string shut_string)
set_option linter.unusedVariables false
theorem own : ownKnob Try.prog.godebug = none := by kernel_rfl
theorem laidOut : laidOutB Try.prog = true := by kernel_rfl
set_option maxRecDepth 100000 in
theorem lifted (os : Os) (started : os.Started) (H : Type) (enc : TypeId × Value → H) :
    ReturnsInHanded {} Try.checked os 11 .any (Rows.sessKeepsSpec.pre6 enc Try.prog Try.f11 Rows.sessKeepsRow.domain false) (Rows.sessKeepsSpec.post enc Try.prog Try.f11 false true false false) := by
  refine returnsInHanded_of_change_sized (C := Try.checked) own started (by kernel_rfl) Try.func11
    (ChangeSpec.witness6 (enc := enc) (C := Try.checked) false ⟨#[], #[.slice none 0 0, .agg #[.int .i64 0, .int .i64 0, .int .i64 0, .int .u64 0], .int .u64 0], []⟩ 8 (by kernel_rfl) (by kernel_rfl) (by kernel_rfl) (by kernel_rfl)) ?_
  intro W base args ds gs before hval0 hW hcnd hsz0 _
  have hval : ∀ (j : Nat) t v, Try.f11.params[j]? = some t → args[j]? = some v → Value.okWide Try.prog W .any base t v := hval0
  have hW' := hW
  obtain ⟨p, q, hA0, hV, rfl, hfz, hnd⟩ := hW
  have hA : DataW.TrodAll enc Try.prog W 0 (fun _ => true) true Try.f11.params.toList args.toList ds p := hA0
  have hval2 : ∀ (j : Nat) t v, Try.f11.params.toList[j]? = some t → args.toList[j]? = some v → Value.okWide Try.prog W .any base t v := fun j t v h1 h2 => hval j t v (by simpa using h1) (by simpa using h2)
  rw [Try.params11] at hA hval2
  obtain ⟨xs, hfit, hrel⟩ := open_args tyOk _ _ _ _ _ shapesSessKeeps_ok hval2 hA
  obtain ⟨v0, vs0, d0, ds0, p0, q0, hargs, rfl, rfl, h0, r0⟩ := trodAll_cons hA
  obtain ⟨v1, vs1, d1, ds1, p1, q1, rfl, rfl, rfl, h1, r1⟩ := trodAll_cons r0
  obtain ⟨v2, vs2, d2, ds2, p2, q2, rfl, rfl, rfl, h2, r2⟩ := trodAll_cons r1
  obtain ⟨rfl, rfl, rfl⟩ := trodAll_nil r2
  obtain rfl : args = #[v0, v1, v2] := by cases args; simp_all
  obtain ⟨rfl, rfl⟩ := trodVars_none hV
  have k0 := h0
  have lt0 : ∀ x ∈ p0, x.block < W.heap.size := by obtain ⟨m, hm⟩ := k0; exact DataW.trod_lt m _ _ _ hm
  have k1 := h1
  have lt1 : ∀ x ∈ p1, x.block < W.heap.size := by obtain ⟨m, hm⟩ := k1; exact DataW.trod_lt m _ _ _ hm
  have k2 := h2
  have lt2 : ∀ x ∈ p2, x.block < W.heap.size := by obtain ⟨m, hm⟩ := k2; exact DataW.trod_lt m _ _ _ hm
  clear hA0 hval0 hsz0 hval hval2
  refine (PCall.calls (law_SessKeeps xs hfit) hrel (GlobOk.none (fun _ => rfl) (fun _ => rfl) (fun _ => rfl))).mono ?_
  rintro e W' ⟨y, x, rfl, rfl, hy, bel⟩
  obtain rfl := hy _ rfl
  exact ⟨_, rfl, _, _, _, [], _, [], hW', trodAll_mk1 (shut_bool Try.underlying4 _), (trodAll_cons_mk (Below.trod laidOut (by kernel_rfl) (of_decide_eq_true (by kernel_rfl)) k0 bel lt0) (trodAll_cons_mk (Below.trod laidOut (by kernel_rfl) (of_decide_eq_true (by kernel_rfl)) k1 bel lt1) (trodAll_cons_mk (Below.trod laidOut (by kernel_rfl) (of_decide_eq_true (by kernel_rfl)) k2 bel lt2) trodAll_mk0))), rfl, bel.frame _, fun h => by cases h⟩
theorem over : Rows.sessKeepsRow.holds Try.pinned (OpenSpec.ofChange Rows.sessKeepsSpec) :=
  OpenClaim.holds_of_wide 11 Try.f11 rfl rfl rfl rfl rfl rfl rfl ⟨rfl, rfl, rfl, rfl, rfl⟩ rfl rfl rfl rfl rfl (by kernel_rfl) Try.func11 (by kernel_rfl)
    (of_decide_eq_true (by kernel_rfl)) (by unfold Func.isWrapper; first | (rw [if_pos (by decide +kernel)]; kernel_rfl) | (rw [if_neg (by decide +kernel)]; exact ⟨rfl, rfl⟩))
    (fun os started H enc _ => lifted os started H enc)
theorem proved : Rows.SessKeepsSaid := over
#print axioms proved
end Go.Proofs.Ytfkpjdcjjfpigaa.sessKeeps
namespace Go.Proofs.Ytfkpjdcjjfpigaa
/-- The row, under a short name, for the claim. -/
theorem sessKeeps_holds : Rows.SessKeepsSaid := sessKeeps.proved
end Go.Proofs.Ytfkpjdcjjfpigaa
