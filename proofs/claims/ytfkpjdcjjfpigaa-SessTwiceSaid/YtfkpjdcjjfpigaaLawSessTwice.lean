/- SessTwice. -/
import Derived.Test.YtfkpjdcjjfpigaaSessAwake
namespace Go.Proofs.Ytfkpjdcjjfpigaa
open Go Go.Proofs.Ytfkpjdcjjfpigaa.Sym
set_option maxRecDepth 100000
set_option linter.unusedSimpArgs false
set_option linter.unusedVariables false

theorem same_refl' (l : List Ses) (h : l.length ≤ 10000) : PCall P 41 [.sl 4 (avs l), .sl 4 (avs l)] (fun x => x = bool true) := by
  have := ref06_Same l l h h
  rwa [decide_eq_true rfl] at this
theorem put_len' (l : List Ses) (s : Ses) : (put l s).length ≤ 2 * l.length + 1 := by
  have h1 := List.length_filter_le (fun x : Ses => decide (x.id < s.id)) l
  have h2 := List.length_filter_le (fun x : Ses => decide (s.id < x.id)) l
  rw [put, List.length_append, List.length_append, List.length_singleton]
  omega
theorem put_has (l : List Ses) (s : Ses) : has (put l s) s.id = true := by
  rw [has, List.any_eq_true]
  exact ⟨s, by simp [put], by simp⟩
theorem put_put (l : List Ses) (s : Ses) : put (put l s) s = put l s := by
  have e1 : (put l s).filter (fun x => decide (x.id < s.id)) = l.filter (fun x => decide (x.id < s.id)) := by
    rw [put, List.filter_append, List.filter_append, List.filter_filter, List.filter_filter]
    have a1 : [s].filter (fun x : Ses => decide (x.id < s.id)) = [] := by simp
    have a2 : l.filter (fun x => decide (x.id < s.id) && decide (s.id < x.id)) = [] := List.filter_eq_nil_iff.2 fun x _ => by simp; omega
    have a3 : l.filter (fun x => decide (x.id < s.id) && decide (x.id < s.id)) = l.filter (fun x => decide (x.id < s.id)) := by simp
    rw [a1, a2, a3]; simp
  have e2 : (put l s).filter (fun x => decide (s.id < x.id)) = l.filter (fun x => decide (s.id < x.id)) := by
    rw [put, List.filter_append, List.filter_append, List.filter_filter, List.filter_filter]
    have a1 : [s].filter (fun x : Ses => decide (s.id < x.id)) = [] := by simp
    have a2 : l.filter (fun x => decide (s.id < x.id) && decide (x.id < s.id)) = [] := List.filter_eq_nil_iff.2 fun x _ => by simp; omega
    have a3 : l.filter (fun x => decide (s.id < x.id) && decide (s.id < x.id)) = l.filter (fun x => decide (s.id < x.id)) := by simp
    rw [a1, a2, a3]; simp
  show (put l s).filter (fun x => decide (x.id < s.id)) ++ [s] ++ (put l s).filter (fun x => decide (s.id < x.id)) = _
  rw [e1, e2]; rfl
theorem set_room {l : List Ses} (hr : Up l) (s : Ses) {most : Int} (h : has l s.id = true ∨ (l.length : Int) < most) : setF l s most = (put l s, 0) := by
  rw [setF, ins_eq hr, if_neg]
  rcases h with h | h
  · rw [h]; simp
  · simp; intro _; omega
theorem beat_same {l : List Ses} {s : Ses} : beatF (put l s) s.id s.un = (put l s, 0) := by
  have e : (put l s).map (bump s.id s.un) = put l s := by
    refine (List.map_congr_left (g := _root_.id) fun x hx => ?_).trans (List.map_id _)
    rw [put, List.append_assoc, List.mem_append, List.mem_append] at hx
    rcases hx with hx | hx | hx
    · have := (List.mem_filter.1 hx).2
      exact bump_ne (by simp at this; omega)
    · obtain rfl : x = s := by simpa using hx
      exact bump_no (by simp)
    · have := (List.mem_filter.1 hx).2
      exact bump_ne (by simp at this; omega)
  rw [beatF, if_pos (put_has l s), e]
theorem clear_has (l : List Ses) (id : Int) : has (clear l id) id = false := by
  cases h : has (clear l id) id with
  | false => rfl
  | true =>
    rw [has, List.any_eq_true] at h
    obtain ⟨x, hx, h2⟩ := h
    have := (List.mem_filter.1 hx).2
    simp at this h2
    exact absurd h2 this
theorem clear_clear (l : List Ses) (id : Int) : clear (clear l id) id = clear l id := by
  rw [clear, clear, List.filter_filter]; simp
theorem lives_late {now earlier : Int} (h : earlier ≤ now) (l : List Ses) : lives now (lives earlier l) = lives now l := by
  rw [lives, lives, lives, List.filter_filter]
  refine List.filter_congr fun x _ => ?_
  simp only [Ses.lives]
  rw [Bool.eq_iff_iff]
  simp
  omega

theorem law_twice (raw : List Ses) (s : Ses) (now earlier : Int) : PCall P 12 [.sl 4 (avs raw), s.av, u64 now, u64 earlier] (fun x => x = .v (.bool true)) := by
  refine pcall_go tyOk Try.func12 rfl rfl ?_
  intro K hK
  simp only [Try.ntmps12, List.length_cons, List.length_nil, Nat.reduceAdd, Nat.reduceSub, List.replicate, List.cons_append, List.nil_append]
  try simp (maxSteps := 1000000) only [go_region, go_seq, go_ops_nil, go_op, opK_none, opK_some, contK_some, callOf, callK_eq, callJ_nil, callD_fn, fstep, fpre, fstep0, evs, St.ev, St.put, AV.cells, AV.known, ownersAll, List.getD_cons_zero, List.getD_cons_succ, List.set, List.length_nil, List.nil_append, List.append_nil, true_and, Bool.true_and, Ses.av]
  (refine callG_use law06_awake rfl ?_; rintro _ rfl)
  try simp (maxSteps := 1000000) only [go_cond, go_ops_nil, go_op, go_guard, opK_none, contK_some, guardK_eq, guardV_ff, callOf, fstep, fpre, fstep0, fbinA, fbin, fbin0, funary, flen, fpick, T, St.ev, St.put, List.getD_cons_zero, List.getD_cons_succ, List.set, List.getElem?_cons_zero, List.getElem?_cons_succ, Option.bind_some, List.getElem?_toArray, true_and, Bool.true_and, Bool.not_true, cond_false, avs_len]
  (first | refine guardV_split ?_ ?_ | refine condK_split ?_ ?_ | refine drawV_split ?_ ?_ | refine condY_split ?_ ?_ | refine guardY_split ?_ ?_) <;> intro h0
  · try simp (maxSteps := 1000000) only [go_region, go_seq, go_op, opK_some, condK_t, callOf, callK_eq, callJ_nil, callD_fn, evs, St.ev, ownersAll, List.append_nil]
    (refine callG_use law06_awake rfl ?_; rintro _ rfl)
    try simp (maxSteps := 1000000) only [go_ret, go_ops_nil, go_op, opK_none, contK_some, callOf, fstep, fpre, fstep0, St.ev, St.put, List.getD_cons_zero, List.getD_cons_succ, List.set, true_and, Bool.true_and]
    apply hK
    simp only [Try.results12, retK, ares, Bool.and_true, Bool.true_and, AV.ofResults, St.trunc, truncVs, truncV, List.getD_cons_zero, List.getD_cons_succ, List.take_zero, List.map_nil, true_and, and_true, List.cons.injEq, exists_eq_left']
  have hlen : raw.length ≤ 200 := by have : ¬ ((200 : Int) < raw.length) := by simpa using h0
                                     omega
  try simp (maxSteps := 1000000) only [go_skip, go_region, go_seq, go_op, opK_none, opK_some, contK_some, condK_f, callOf, callK_eq, callJ_nil, callD_fn, fstep, fpre, fstep0, evs, St.ev, St.put, AV.owners, ownersAll, List.getD_cons_zero, List.getD_cons_succ, List.set, List.append_nil, true_and, Bool.true_and]
  (refine callG_use (ref06_Sorted raw hlen) rfl ?_; rintro _ rfl)
  have hr := sort_up raw
  have hl := (sortF_spec raw).1
  generalize sortF raw = l at hr hl ⊢
  have hpl := put_len' l s
  have hpr := put_up hr s
  have hcr := clear_up hpr s.id
  have hcl : (clear (put l s) s.id).length ≤ (put l s).length := List.length_filter_le _ _
  have hA := sess_Set l s 201 hr (by omega)
  rw [set_room hr s (.inr (by omega))] at hA
  have hB := sess_Set (put l s) s 0 hpr (by omega)
  rw [set_room hpr s (.inl (put_has l s)), put_put] at hB
  have hC := sess_Beat (put l s) s.id s.un hpr (by omega)
  rw [beat_same] at hC
  have hD := sess_Clear (put l s) s.id hpr (by omega)
  rw [if_pos (put_has l s)] at hD
  have hE := sess_Clear (clear (put l s) s.id) s.id hcr (by omega)
  rw [clear_clear, if_neg (by rw [clear_has]; decide)] at hE
  have hS := same_refl' (put l s) (by omega)
  have hS2 := same_refl' (clear (put l s) s.id) (by omega)
  generalize put l s = a at *
  generalize clear a s.id = d at *
  try simp (maxSteps := 1000000) only [go_region, go_seq, go_ops_nil, go_op, opK_none, opK_some, contK_some, callOf, callK_eq, callJ_nil, callD_fn, fstep, fpre, fstep0, fload, fcell, evs, T, TI.isAgg, St.ev, St.put, AV.owners, ownersAll, List.getD_cons_zero, List.getD_cons_succ, List.set, List.length_cons, List.length_nil, List.drop_zero, List.take_succ_cons, List.take_zero, List.append_nil, List.getElem?_cons_zero, true_and, Bool.true_and, ↓reduceIte, Nat.reduceAdd, Nat.le_refl, Nat.zero_add]
  (refine callG_use hA rfl ?_; rintro _ rfl)
  try simp (maxSteps := 1000000) only [go_region, go_seq, go_ops_nil, go_op, opK_none, opK_some, contK_some, callOf, callK_eq, callJ_nil, callD_fn, fstep, fpre, fstep0, fload, fcell, evs, T, TI.isAgg, St.ev, St.put, AV.owners, ownersAll, List.getD_cons_zero, List.getD_cons_succ, List.set, List.length_cons, List.length_nil, List.drop_zero, List.take_succ_cons, List.take_zero, List.append_nil, List.getElem?_cons_zero, true_and, Bool.true_and, ↓reduceIte, Nat.reduceAdd, Nat.reduceLT, Nat.le_refl, Nat.zero_add]
  (refine callG_use hB rfl ?_; rintro _ rfl)
  try simp (maxSteps := 1000000) only [go_region, go_seq, go_ops_nil, go_op, opK_none, opK_some, contK_some, callOf, callK_eq, callJ_nil, callD_fn, fstep, fpre, fstep0, fload, fcell, ffieldAddr, evs, T, TI.isAgg, St.ev, St.put, AV.owners, ownersAll, List.getD_cons_zero, List.getD_cons_succ, List.set, List.length_cons, List.length_nil, List.drop_succ_cons, List.drop_zero, List.headD_cons, List.append_nil, List.getElem?_cons_zero, List.getElem?_cons_succ, List.getElem?_toArray, true_and, Bool.true_and, Bool.false_eq_true, ↓reduceIte, reduceCtorEq, ne_eq, not_false_eq_true, Nat.reduceAdd, Nat.reduceLT, Nat.add_zero, Nat.zero_add]
  (refine callG_use hC rfl ?_; rintro _ rfl)
  try simp (maxSteps := 1000000) only [go_region, go_seq, go_ops_nil, go_op, opK_none, opK_some, contK_some, callOf, callK_eq, callJ_nil, callD_fn, fstep, fpre, fstep0, fload, fcell, ffieldAddr, evs, T, TI.isAgg, St.ev, St.put, AV.owners, ownersAll, List.getD_cons_zero, List.getD_cons_succ, List.set, List.length_cons, List.length_nil, List.drop_zero, List.headD_cons, List.append_nil, List.getElem?_cons_zero, List.getElem?_toArray, true_and, Bool.true_and, Bool.false_eq_true, ↓reduceIte, reduceCtorEq, ne_eq, not_false_eq_true, Nat.reduceAdd, Nat.reduceLT, Nat.add_zero, Nat.zero_add]
  (refine callG_use hD rfl ?_; rintro _ rfl)
  try simp (maxSteps := 1000000) only [go_region, go_seq, go_ops_nil, go_op, opK_none, opK_some, contK_some, callOf, callK_eq, callJ_nil, callD_fn, fstep, fpre, fstep0, fload, fcell, ffieldAddr, evs, T, TI.isAgg, St.ev, St.put, AV.owners, ownersAll, List.getD_cons_zero, List.getD_cons_succ, List.set, List.length_cons, List.length_nil, List.drop_zero, List.headD_cons, List.append_nil, List.getElem?_cons_zero, List.getElem?_toArray, true_and, Bool.true_and, Bool.false_eq_true, ↓reduceIte, reduceCtorEq, ne_eq, not_false_eq_true, Nat.reduceAdd, Nat.reduceLT, Nat.add_zero, Nat.zero_add]
  (refine callG_use hE rfl ?_; rintro _ rfl)
  try simp (maxSteps := 1000000) only [go_region, go_seq, go_ops_nil, go_op, go_guard, opK_none, opK_some, contK_some, guardK_eq, guardV_ff, callOf, callK_eq, callJ_nil, callD_fn, fstep, fpre, fstep0, fbinA, fbin, fbin0, evs, fpick, St.ev, St.put, AV.owners, ownersAll, List.getD_cons_zero, List.getD_cons_succ, List.set, List.length_cons, List.length_nil, List.append_nil, List.getElem?_cons_zero, List.getElem?_cons_succ, Option.bind_some, List.getElem?_toArray, true_and, Bool.true_and, Nat.reduceAdd, Nat.reduceLT, Nat.zero_add, cond_false, bne_self_eq_false]
  (refine callG_use hS rfl ?_; rintro _ rfl)
  try simp (maxSteps := 1000000) only [go_op, go_guard, opK_none, opK_some, contK_some, guardK_eq, guardV_ff, callOf, callK_eq, callJ_nil, callD_fn, fstep, fpre, fstep0, funary, evs, fpick, St.ev, St.put, AV.owners, ownersAll, List.getD_cons_zero, List.getD_cons_succ, List.set, List.append_nil, List.getElem?_cons_zero, List.getElem?_cons_succ, Option.bind_some, List.getElem?_toArray, true_and, Bool.true_and, Bool.not_true, cond_false]
  (refine callG_use hS rfl ?_; rintro _ rfl)
  try simp (maxSteps := 1000000) only [go_op, go_guard, opK_none, opK_some, contK_some, guardK_eq, guardV_ff, callOf, callK_eq, callJ_nil, callD_fn, fstep, fpre, fstep0, funary, evs, fpick, St.ev, St.put, AV.owners, ownersAll, List.getD_cons_zero, List.getD_cons_succ, List.set, List.append_nil, List.getElem?_cons_zero, List.getElem?_cons_succ, Option.bind_some, List.getElem?_toArray, true_and, Bool.true_and, Bool.not_true, cond_false]
  (refine callG_use hS2 rfl ?_; rintro _ rfl)
  try simp (maxSteps := 1000000) only [go_skip, go_region, go_seq, go_cond, go_ops_nil, go_op, go_guard, opK_none, contK_some, condK_f, guardK_eq, guardV_ff, callOf, fstep, fpre, fstep0, fbinA, fbin, fbin0, funary, fpick, St.ev, St.put, List.getD_cons_zero, List.getD_cons_succ, List.set, List.getElem?_cons_zero, List.getElem?_cons_succ, Option.bind_some, List.getElem?_toArray, true_and, Bool.true_and, Bool.not_true, cond_false]
  (first | refine guardV_split ?_ ?_ | refine condK_split ?_ ?_ | refine drawV_split ?_ ?_ | refine condY_split ?_ ?_ | refine guardY_split ?_ ?_) <;> intro h1
  · try simp (maxSteps := 1000000) only [go_ret, go_ops_nil, go_op, go_guard, opK_none, contK_some, guardK_eq, guardV_tf, guardV_u, undef, callOf, fstep, fpre, fstep0, fpick, St.ev, St.put, List.getD_cons_zero, List.getD_cons_succ, List.set, List.getElem?_cons_zero, List.getElem?_cons_succ, Option.bind_some, List.getElem?_toArray, true_and, Bool.true_and, ↓reduceIte]
    apply hK
    simp only [Try.results12, retK, ares, Bool.and_true, Bool.true_and, AV.ofResults, St.trunc, truncVs, truncV, List.getD_cons_zero, List.getD_cons_succ, List.take_zero, List.map_nil, true_and, and_true, List.cons.injEq, exists_eq_left']
  · have h1' : earlier ≤ now := by have : ¬ now < earlier := by simpa using h1
                                   omega
    have hll := lives_late h1' l
    have hle : (lives now l).length ≤ (lives earlier l).length := by rw [← hll]; exact List.length_filter_le _ _
    have hl1 : (lives earlier l).length ≤ l.length := List.length_filter_le _ _
    have d1 : decide (((lives now l).length : Int) ≤ ((lives earlier l).length : Int)) = true := by simp; omega
    have hP := sess_Purge (lives earlier l) now (by omega)
    rw [hll] at hP
    try simp (maxSteps := 1000000) only [go_guard, opK_none, opK_some, contK_some, guardK_eq, guardV_ff, callOf, callK_eq, callJ_nil, callD_fn, fstep, fpre, fstep0, evs, St.ev, St.put, AV.owners, ownersAll, List.getD_cons_zero, List.getD_cons_succ, List.set, List.append_nil, List.getElem?_cons_zero, List.getElem?_cons_succ, Option.bind_some, List.getElem?_toArray, true_and, Bool.true_and]
    (refine callG_use (sess_Purge l earlier (by omega)) rfl ?_; rintro _ rfl)
    try simp (maxSteps := 1000000) only [go_guard, opK_none, opK_some, contK_some, guardK_eq, guardV_ff, callOf, callK_eq, callJ_nil, callD_fn, fstep, fpre, fstep0, flen, evs, T, St.ev, St.put, AV.owners, ownersAll, List.getD_cons_zero, List.getD_cons_succ, List.set, List.append_nil, List.getElem?_cons_zero, List.getElem?_cons_succ, Option.bind_some, List.getElem?_toArray, true_and, Bool.true_and, avs_len]
    (refine callG_use (sess_Purge l now (by omega)) rfl ?_; rintro _ rfl)
    try simp (maxSteps := 1000000) only [go_guard, opK_none, opK_some, contK_some, guardK_eq, guardV_tt, guardV_ff, callOf, callK_eq, callJ_nil, callD_fn, fstep, fpre, fstep0, fbinA, fbin, fbin0, flen, evs, T, St.ev, St.put, AV.owners, ownersAll, List.getD_cons_zero, List.getD_cons_succ, List.set, List.append_nil, List.getElem?_cons_zero, List.getElem?_cons_succ, Option.bind_some, List.getElem?_toArray, true_and, Bool.true_and, avs_len, d1]
    (refine callG_use (sess_Purge l earlier (by omega)) rfl ?_; rintro _ rfl)
    try simp (maxSteps := 1000000) only [go_guard, opK_none, opK_some, contK_some, guardK_eq, guardV_tt, callOf, callK_eq, callJ_nil, callD_fn, fstep, fpre, fstep0, evs, St.ev, St.put, AV.owners, ownersAll, List.getD_cons_zero, List.getD_cons_succ, List.set, List.append_nil, List.getElem?_cons_zero, List.getElem?_cons_succ, Option.bind_some, List.getElem?_toArray, true_and, Bool.true_and]
    (refine callG_use hP rfl ?_; rintro _ rfl)
    try simp (maxSteps := 1000000) only [go_guard, opK_none, opK_some, contK_some, guardK_eq, guardV_tt, callOf, callK_eq, callJ_nil, callD_fn, fstep, fpre, fstep0, evs, St.ev, St.put, AV.owners, ownersAll, List.getD_cons_zero, List.getD_cons_succ, List.set, List.append_nil, List.getElem?_cons_zero, List.getElem?_cons_succ, Option.bind_some, List.getElem?_toArray, true_and, Bool.true_and]
    (refine callG_use (sess_Purge l now (by omega)) rfl ?_; rintro _ rfl)
    try simp (maxSteps := 1000000) only [go_guard, opK_some, guardK_eq, guardV_tt, callOf, callK_eq, callJ_nil, callD_fn, evs, St.ev, St.put, AV.owners, ownersAll, List.getD_cons_zero, List.getD_cons_succ, List.set, List.append_nil, List.getElem?_cons_zero, List.getElem?_cons_succ, Option.bind_some, List.getElem?_toArray]
    (refine callG_use (same_refl' (lives now l) (by omega)) rfl ?_; rintro _ rfl)
    try simp (maxSteps := 1000000) only [go_ret, go_ops_nil, go_op, go_guard, opK_none, contK_some, guardK_eq, guardV_ff, callOf, fstep, fpre, fstep0, fpick, St.ev, St.put, List.getD_cons_zero, List.getD_cons_succ, List.set, List.getElem?_cons_zero, List.getElem?_cons_succ, Option.bind_some, List.getElem?_toArray, true_and, Bool.true_and, cond_true, cond_false]
    apply hK
    simp only [Try.results12, retK, ares, Bool.and_true, Bool.true_and, AV.ofResults, St.trunc, truncVs, truncV, List.getD_cons_zero, List.getD_cons_succ, List.take_zero, List.map_nil, true_and, and_true, List.cons.injEq, exists_eq_left']
def shapesSessTwice : List (Bool × List Lf) := [(false, [.sl 4 true [.int .i64, .int .i64, .int .i64, .int .u64]]), (true, [.int .i64, .int .i64, .int .i64, .int .u64]), (false, [.int .u64]), (false, [.int .u64])]
theorem shapesSessTwice_ok : argShapes T 6 [38, 41, 39, 39] = some shapesSessTwice := by kernel_rfl
theorem law_SessTwice (xs : List AV) (h : argsFit shapesSessTwice xs) : PCall P 12 xs (fun x => x = .v (.bool true)) := by
  obtain ⟨_, _, rfl, ⟨_, _, rfl, ⟨ys, rfl, hlen, hys⟩, rfl⟩, x, _, rfl, hx, _, _, rfl, ⟨_, _, rfl, ⟨now, rfl, _⟩, rfl⟩, _, _, rfl, ⟨_, _, rfl, ⟨earlier, rfl, _⟩, rfl⟩, rfl⟩ := h
  obtain ⟨l, rfl, hl⟩ := fits_list hys
  obtain ⟨s, hs, _⟩ := fits_ses (x := .agg x) hx rfl
  have := law_twice l s now earlier
  rw [← hs] at this
  exact this
end Go.Proofs.Ytfkpjdcjjfpigaa
