/- Where a session is, or would be. -/
import Derived.Test.YtfkpjdcjjfpigaaMd
namespace Go.Proofs.Ytfkpjdcjjfpigaa
open Go Go.Proofs.Ytfkpjdcjjfpigaa.Sym
set_option maxRecDepth 100000
set_option linter.unusedSimpArgs false
set_option linter.unusedVariables false

def cmpF (a b : Int) : Int := if a < b then -1 else if b < a then 1 else 0
theorem cmp_lt (a b : Int) : decide (cmpF a b < 0) = ltI a b := by
  unfold cmpF ltI
  split
  · rename_i h; simp [h]
  · rename_i h
    split <;> simp [h]
theorem cmp_eq (a b : Int) : (cmpF a b == 0) = eqI a b := by
  unfold cmpF eqI
  rw [Bool.eq_iff_iff]
  split
  · simp; omega
  · split
    · simp; omega
    · simp; omega
theorem compare_int (a b : Int) : PCall P 76 [i64 a, i64 b] (fun x => x = i64 (cmpF a b)) := by
  refine pcall_go tyOk Try.func76 rfl rfl ?_
  intro K hK
  simp only [Try.ntmps76, List.length_cons, List.length_nil, Nat.reduceAdd, Nat.reduceSub, List.replicate, List.cons_append, List.nil_append]
  try simp (maxSteps := 1000000) only [go_region, go_seq, go_ops_nil, go_op, opK_none, opK_some, contK_some, callOf, callK_eq, callJ_nil, callD_fn, fstep, gpre, fpre, fstep0, evs, St.ev, St.put, AV.owners, ownersAll, List.getD_cons_zero, List.getD_cons_succ, List.set, List.append_nil, true_and, Bool.true_and]
  (refine callG_use (cmpNaN_int a) rfl ?_; rintro _ rfl)
  try simp (maxSteps := 1000000) only [go_region, go_seq, go_ops_nil, go_op, opK_none, opK_some, contK_some, callOf, callK_eq, callJ_nil, callD_fn, fstep, gpre, fpre, fstep0, evs, St.ev, St.put, AV.owners, ownersAll, List.getD_cons_zero, List.getD_cons_succ, List.set, List.append_nil, true_and, Bool.true_and]
  (refine callG_use (cmpNaN_int b) rfl ?_; rintro _ rfl)
  try simp (maxSteps := 1000000) only [go_skip, go_region, go_seq, go_cond, go_ops_nil, go_op, opK_none, contK_some, condK_f, callOf, fstep, gpre, fpre, fstep0, fbinA, fbin, fbin0, St.ev, St.put, List.getD_cons_zero, List.getD_cons_succ, List.set, true_and, Bool.true_and]
  (first | refine guardV_split ?_ ?_ | refine condK_split ?_ ?_ | refine drawV_split ?_ ?_ | refine condY_split ?_ ?_ | refine guardY_split ?_ ?_) <;> intro h
  · try simp (maxSteps := 1000000) only [go_region, go_seq, go_ret, go_ops_nil, go_op, opK_none, contK_some, condK_t, callOf, fstep, gpre, fpre, fstep0, St.ev, St.put, List.set, true_and, Bool.true_and]
    apply hK
    simp only [Try.results76, retK, ares, List.take_nil, Bool.and_true, Bool.true_and, AV.ofResults, St.trunc, truncVs, truncV, List.getD_cons_zero, List.getD_cons_succ, List.map_nil, true_and, and_true, List.cons.injEq, exists_eq_left']
    rw [cmpF, if_pos (by simpa using h)]
  · try simp (maxSteps := 1000000) only [go_skip, go_region, go_seq, go_cond, go_ops_nil, go_op, opK_none, contK_some, condK_f, callOf, fstep, gpre, fpre, fstep0, fbinA, fbin, fbin0, St.ev, St.put, List.getD_cons_zero, List.getD_cons_succ, List.set, true_and, Bool.true_and]
    (first | refine guardV_split ?_ ?_ | refine condK_split ?_ ?_ | refine drawV_split ?_ ?_ | refine condY_split ?_ ?_ | refine guardY_split ?_ ?_) <;> intro h2
    · try simp (maxSteps := 1000000) only [go_region, go_seq, go_ret, go_ops_nil, go_op, opK_none, contK_some, condK_t, callOf, fstep, gpre, fpre, fstep0, St.ev, St.put, List.set, true_and, Bool.true_and]
      apply hK
      simp only [Try.results76, retK, ares, List.take_nil, Bool.and_true, Bool.true_and, AV.ofResults, St.trunc, truncVs, truncV, List.getD_cons_zero, List.getD_cons_succ, List.map_nil, true_and, and_true, List.cons.injEq, exists_eq_left']
      rw [cmpF, if_neg (by simpa using h), if_pos (by simpa using h2)]
    · try simp (maxSteps := 1000000) only [go_skip, go_region, go_seq, go_ret, go_ops_nil, go_op, opK_none, contK_some, condK_f, callOf, fstep, gpre, fpre, fstep0, St.ev, St.put, List.set, true_and, Bool.true_and]
      apply hK
      simp only [Try.results76, retK, ares, List.take_nil, Bool.and_true, Bool.true_and, AV.ofResults, St.trunc, truncVs, truncV, List.getD_cons_zero, List.getD_cons_succ, List.map_nil, true_and, and_true, List.cons.injEq, exists_eq_left']
      rw [cmpF, if_neg (by simpa using h), if_neg (by simpa using h2)]
theorem find_cmp (s : Ses) (id : Int) : PCall P 75 [s.av, i64 id] (fun x => x = i64 (cmpF s.id id)) := by
  refine pcall_go tyOk Try.func75 rfl rfl ?_
  intro K hK
  simp only [Try.ntmps75, List.length_cons, List.length_nil, Nat.reduceAdd, Nat.reduceSub, List.replicate, List.cons_append, List.nil_append]
  try simp (maxSteps := 1000000) only [go_region, go_seq, go_ops_nil, go_op, opK_none, opK_some, contK_some, callOf, callK_eq, callJ_nil, callD_fn, fstep, gpre, gloadB, fpre, fstep0, fload, fcell, ffieldAddr, evs, T, TI.isAgg, St.ev, St.put, AV.cells, AV.known, AV.owners, ownersAll, List.getD_cons_zero, List.getD_cons_succ, List.set, List.length_cons, List.length_nil, List.drop_zero, List.headD_cons, List.nil_append, List.append_nil, List.getElem?_cons_zero, List.getElem?_toArray, true_and, Bool.true_and, Bool.false_eq_true, ↓reduceIte, reduceCtorEq, ne_eq, not_false_eq_true, Nat.reduceAdd, Nat.reduceLT, Nat.add_zero, Nat.zero_add, Ses.av]
  (refine callG_use (compare_int s.id id) rfl ?_; rintro _ rfl)
  try simp (maxSteps := 1000000) only [go_ret, go_ops_nil, go_op, opK_none, contK_some, callOf, fstep, gpre, fpre, fstep0, St.ev, St.put, List.getD_cons_zero, List.getD_cons_succ, List.set, true_and, Bool.true_and]
  apply hK
  simp only [Try.results75, retK, ares, Bool.and_true, Bool.true_and, AV.ofResults, St.trunc, truncVs, truncV, List.getD_cons_zero, List.getD_cons_succ, List.take_zero, List.map_nil, true_and, and_true, List.cons.injEq, exists_eq_left']
def ids (l : List Ses) : List Int := l.map Ses.id
theorem ids_len (l : List Ses) : (ids l).length = l.length := by simp [ids]
theorem ids_get {l : List Ses} {i : Nat} (h : i < l.length) : (ids l)[i]'(by rw [ids_len]; exact h) = l[i].id := by simp [ids]
theorem search_ses (l : List Ses) (hr : Rises ltI (ids l)) (k : Int) (hlen : l.length ≤ 1000000) :
    PCall P 74 [.sl 4 (avs l), i64 k, .fn 75 []] (fun x => x = .tup [i64 ((lb ltI (ids l) k : Nat) : Int), bool (hasAt ltI eqI (ids l) k)]) := by
  refine pcall_go tyOk Try.func74 rfl rfl ?_
  intro K hK
  simp only [Try.ntmps74, List.length_cons, List.length_nil, Nat.reduceAdd, Nat.reduceSub, List.replicate, List.cons_append, List.nil_append]
  try simp (maxSteps := 1000000) only [go_region, go_seq, go_block, go_loop, go_ops_nil, go_op, opK_none, contK_some, callOf, fstep, gpre, fpre, fstep0, flen, T, St.ev, St.put, List.getD_cons_zero, List.getD_cons_succ, List.set, true_and, Bool.true_and, avs_len]
  have hle := lb_le (lt := ltI) (ids l) k
  rw [ids_len] at hle
  refine loopK_rule tyOk (α := Nat × Nat) 0 [0, 1, 2, 6, 7, 8, 9, 10] (fun q => q.1 ≤ lb ltI (ids l) k ∧ lb ltI (ids l) k ≤ q.2 ∧ q.2 ≤ l.length)
    (fun q => ⟨[.sl 4 (avs l), i64 k, .fn 75 [], .any, .any, .any, i64 0, bool false, i64 l.length, i64 q.1, i64 q.2, .any, .any, .any, .any, .any, .any, .any, .any, .any, .any, .any, .any, .any, .any, .any, .any, .any, .any, .any, .any, .any, .any, .any, .any, .any, .any, .any, .any, .any, .any, .any, .any, .any, .any, .any, .any, .any, .any], []⟩)
    (fun q => q.2 - q.1) (0, l.length) (Nat.zero_le _) ⟨Nat.zero_le _, hle, Nat.le_refl _⟩ rfl ?_
  rintro ⟨i, j⟩ ⟨h1, h2, h3⟩
  simp only at h1 h2 h3
  try simp (maxSteps := 1000000) only [go_region, go_seq, go_cond, go_ops_nil, go_op, opK_none, contK_some, callOf, fstep, gpre, fpre, fstep0, fbinA, fbin, fbin0, St.ev, St.put, List.getD_cons_zero, List.getD_cons_succ, List.set, true_and, Bool.true_and]
  (first | refine guardV_split ?_ ?_ | refine condK_split ?_ ?_ | refine drawV_split ?_ ?_ | refine condY_split ?_ ?_ | refine guardY_split ?_ ?_) <;> intro hc <;> try simp (maxSteps := 1000000) only [go_skip, go_region, go_seq, go_block, go_exit, exitK_code, exitK_blk, exitK_nil, go_ops_nil, go_op, go_guard, opK_none, opK_some, contK_some, condK_t, condK_f, guardK_eq, callOf, callK_eq, fstep, gpre, gloadB, fpre, fstep0, fbinA, gbin, gbits, gnil, fbin, fbin0, fload, fcell, findexAddr, fconvA, fconvert, evs, T, TI.isAgg, St.ev, St.put, AV.cells, AV.known, AV.owners, ownersAll, Value.cells, List.getD_cons_zero, List.getD_cons_succ, List.set, List.append_nil, List.getElem?_cons_zero, List.getElem?_cons_succ, Option.bind_some, List.getElem?_toArray, true_and, Bool.true_and, ↓reduceIte, Int.reduceLE, loopX_exit]
  · have hij : i < j := by simpa using hc
    obtain ⟨hh, hlt, ew⟩ := half_idx (i := i) (j := j) (by omega) hij
    have hhn : (i + j) / 2 < l.length := by omega
    have eg := avs_get hhn
    have k1 : (0 : Int) ≤ (((i + j) / 2 : Nat) : Int) ∧ Int.toNat (((i + j) / 2 : Nat) : Int) < l.length := by omega
    have w1 : IntKind.i64.wrap ((((i + j) / 2 : Nat) : Int) + 1) = (((i + j) / 2 + 1 : Nat) : Int) := by rw [wrap_i64 (by omega) (by omega)]; rfl
    have hid := ids_get hhn
    try simp (maxSteps := 1000000) only [callJ_nil, callD_fn, evs, St.ev, AV.owners, ownersAll, List.getD_cons_zero, List.getD_cons_succ, List.length_cons, List.length_nil, List.take_succ_cons, List.take_zero, List.append_nil, true_and, and_true, Bool.and_true, Bool.true_and, Nat.reduceAdd, Nat.le_refl, Nat.zero_add, ew, eg, k1, avs_len, Ses.av]
    (refine callG_use (find_cmp l[(i + j) / 2] k) rfl ?_; rintro _ rfl)
    try simp (maxSteps := 1000000) only [go_cond, go_ops_nil, go_op, opK_none, contK_some, callOf, fstep, gpre, fpre, fstep0, fbinA, fbin, fbin0, St.ev, St.put, List.getD_cons_zero, List.getD_cons_succ, List.set, true_and, Bool.true_and, cmp_lt]
    cases hl : ltI l[(i + j) / 2].id k
    · try simp (maxSteps := 1000000) only [go_nil, go_region, go_blk, go_ops_nil, go_op, opK_none, contK_some, condK_f, callOf, fstep, gpre, fpre, fstep0, St.ev, St.put, List.getD_cons_zero, List.getD_cons_succ, List.set, true_and, Bool.true_and]
      simp only [loopX_normal, St.trunc, St.keep, truncVs, truncV, keepV, List.elem_cons, List.elem_nil, List.take_zero, List.map_nil, Nat.reduceAdd, Nat.reduceBEq, Nat.zero_add, Bool.false_eq_true, ↓reduceIte]
      refine ⟨(i, (i + j) / 2), ⟨h1, ?_, by omega⟩, by simp only; omega, rfl⟩
      apply Nat.le_of_not_lt
      intro hb
      have := lb_lt (lt := ltI) hb
      rw [hid, hl] at this; cases this
    · try simp (maxSteps := 1000000) only [go_nil, go_region, go_blk, go_ops_nil, go_op, opK_none, contK_some, condK_t, callOf, fstep, gpre, fpre, fstep0, fbinA, fbin, fbin0, St.ev, St.put, List.getD_cons_zero, List.getD_cons_succ, List.set, true_and, Bool.true_and, w1]
      simp only [loopX_normal, St.trunc, St.keep, truncVs, truncV, keepV, List.elem_cons, List.elem_nil, List.take_zero, List.map_nil, Nat.reduceAdd, Nat.reduceBEq, Nat.zero_add, Bool.false_eq_true, ↓reduceIte]
      refine ⟨((i + j) / 2 + 1, j), ⟨?_, h2, h3⟩, by simp only; omega, rfl⟩
      apply Nat.lt_of_not_le
      intro hb
      have := lb_ge ordI hr (by rw [ids_len]; exact hhn) hb
      rw [hid, hl] at this; cases this
  · have hij : ¬ i < j := by simpa using hc
    obtain rfl : i = lb ltI (ids l) k := by omega
    by_cases hn : lb ltI (ids l) k < l.length
    · have eg := avs_get hn
      have k1 : (0 : Int) ≤ ((lb ltI (ids l) k : Nat) : Int) ∧ Int.toNat ((lb ltI (ids l) k : Nat) : Int) < l.length := by omega
      have d1 : decide (((lb ltI (ids l) k : Nat) : Int) < (l.length : Int)) = true := decide_eq_true (by omega)
      have hh := hasAt_lt (eq := eqI) (show lb ltI (ids l) k < (ids l).length by rw [ids_len]; exact hn)
      rw [ids_get hn] at hh
      rw [hh] at hK
      try simp (maxSteps := 1000000) only [go_guard, opK_none, opK_some, contK_some, guardK_eq, guardV_tt, callOf, callK_eq, callJ_nil, callD_fn, fstep, gpre, gloadB, fpre, fstep0, fload, fcell, findexAddr, evs, T, TI.isAgg, St.ev, St.put, AV.cells, AV.known, AV.owners, ownersAll, List.getD_cons_zero, List.getD_cons_succ, List.set, List.length_cons, List.length_nil, List.take_succ_cons, List.take_zero, List.append_nil, List.getElem?_cons_zero, List.getElem?_cons_succ, Option.bind_some, List.getElem?_toArray, true_and, and_true, Bool.and_true, Bool.true_and, ↓reduceIte, Nat.reduceAdd, Nat.le_refl, Nat.zero_add, d1, eg, k1, avs_len, Ses.av]
      (refine callG_use (find_cmp l[lb ltI (ids l) k] k) rfl ?_; rintro _ rfl)
      try simp (maxSteps := 1000000) only [go_ret, go_ops_nil, go_op, go_guard, opK_none, contK_some, guardK_eq, guardV_tt, callOf, fstep, gpre, fpre, fstep0, fbinA, fbin, fbin0, fpick, St.ev, St.put, List.getD_cons_zero, List.getD_cons_succ, List.set, List.getElem?_cons_zero, List.getElem?_cons_succ, Option.bind_some, List.getElem?_toArray, true_and, Bool.true_and, cond_true, cmp_eq]
      apply hK
      simp only [Try.results74, retK, ares, List.take_nil, Bool.and_true, Bool.true_and, AV.ofResults, St.trunc, truncVs, truncV, List.getD_cons_zero, List.getD_cons_succ, List.map_nil, true_and, and_true, List.cons.injEq, exists_eq_left']
    · have d1 : decide (((lb ltI (ids l) k : Nat) : Int) < (l.length : Int)) = false := decide_eq_false (by omega)
      rw [hasAt_ge (by rw [ids_len]; omega)] at hK
      try simp (maxSteps := 1000000) only [go_ret, go_ops_nil, go_op, go_guard, opK_none, contK_some, guardK_eq, guardV_ft, undef, callOf, fstep, gpre, fpre, fstep0, fpick, St.ev, St.put, List.getD_cons_zero, List.getD_cons_succ, List.set, List.getElem?_cons_zero, List.getElem?_cons_succ, Option.bind_some, List.getElem?_toArray, true_and, Bool.true_and, Bool.false_eq_true, ↓reduceIte, d1]
      apply hK
      simp only [Try.results74, retK, ares, List.take_nil, Bool.and_true, Bool.true_and, AV.ofResults, St.trunc, truncVs, truncV, List.getD_cons_zero, List.getD_cons_succ, List.map_nil, true_and, and_true, List.cons.injEq, exists_eq_left']
theorem find_ses (l : List Ses) (hr : Rises ltI (ids l)) (k : Int) (hlen : l.length ≤ 1000000) :
    PCall P 54 [.sl 4 (avs l), i64 k] (fun x => x = .tup [i64 ((lb ltI (ids l) k : Nat) : Int), bool (hasAt ltI eqI (ids l) k)]) := by
  refine pcall_go tyOk Try.func54 rfl rfl ?_
  intro K hK
  simp only [Try.ntmps54, List.length_cons, List.length_nil, Nat.reduceAdd, Nat.reduceSub, List.replicate, List.cons_append, List.nil_append]
  try simp (maxSteps := 1000000) only [go_region, go_seq, go_ops_nil, go_op, opK_none, opK_some, contK_some, callOf, callK_eq, callJ_nil, callD_fn, fstep, gpre, fpre, fstep0, evs, St.ev, St.put, AV.owners, ownersAll, List.getD_cons_zero, List.getD_cons_succ, List.set, List.append_nil, true_and, Bool.true_and]
  (refine callG_use (search_ses l hr k hlen) rfl ?_; rintro _ rfl)
  try simp (maxSteps := 1000000) only [go_ret, go_ops_nil, go_op, opK_none, contK_some, callOf, fstep, gpre, fpre, fstep0, St.ev, St.put, List.getD_cons_zero, List.getD_cons_succ, List.set, List.length_cons, List.length_nil, true_and, Bool.true_and, Nat.reduceAdd, Nat.reduceLT, Nat.zero_add]
  apply hK
  simp only [Try.results54, retK, ares, List.take_nil, Bool.and_true, Bool.true_and, AV.ofResults, St.trunc, truncVs, truncV, List.getD_cons_zero, List.getD_cons_succ, List.map_nil, true_and, and_true, List.cons.injEq, exists_eq_left']

/-! ### Sets of sessions, plainly -/
theorem has_iff {l : List Ses} {id : Int} : has l id = true ↔ id ∈ ids l := by
  rw [has, List.any_eq_true, ids, List.mem_map]
  constructor
  · rintro ⟨s, h1, h2⟩; exact ⟨s, h1, by simpa using h2⟩
  · rintro ⟨s, h1, rfl⟩; exact ⟨s, h1, by simp⟩
theorem has_at {l : List Ses} (hr : Rises ltI (ids l)) (id : Int) : hasAt ltI eqI (ids l) id = has l id := by
  rw [Bool.eq_iff_iff, hasAt_iff ordI eqI_iff hr, has_iff]
abbrev Up (l : List Ses) : Prop := Rises ltI (ids l)
theorem up_iff {l : List Ses} : Up l ↔ l.Pairwise fun a b => a.id < b.id := by
  rw [Up, Rises, ids, List.pairwise_map]
  simp only [ltI, decide_eq_true_eq]
/-- A list with one put where it belongs. -/
def put (l : List Ses) (s : Ses) : List Ses := l.filter (fun x => decide (x.id < s.id)) ++ [s] ++ l.filter (fun x => decide (s.id < x.id))
def keyed (l : List Ses) : List (Int × Ses) := l.map fun s => (s.id, s)
theorem keyed_fst (l : List Ses) : (keyed l).map Prod.fst = ids l := by rw [keyed, ids, List.map_map]; rfl
theorem keyed_snd (l : List Ses) : (keyed l).map Prod.snd = l := by rw [keyed, List.map_map]; exact List.map_id _
theorem put_at {l : List Ses} (hr : Up l) (s : Ses) : (if has l s.id = true then l.set (lb ltI (ids l) s.id) s else l.take (lb ltI (ids l) s.id) ++ [s] ++ l.drop (lb ltI (ids l) s.id)) = put l s := by
  have h := congrArg (List.map Prod.snd) (with_eq ordI eqI_iff (m := keyed l) (by rw [RisesM, keyed_fst]; exact hr) s.id s)
  have f : ∀ p : Ses → Bool, ((keyed l).filter fun q => p q.2).map Prod.snd = l.filter p := by
    intro p
    rw [keyed, List.filter_map, List.map_map]
    exact List.map_id _
  have f1 : (keyed l).filter (fun p => ltI p.1 s.id) = (keyed l).filter (fun q => (fun x : Ses => decide (x.id < s.id)) q.2) := by
    rw [keyed, List.filter_map, List.filter_map]; rfl
  have f2 : (keyed l).filter (fun p => ltI s.id p.1) = (keyed l).filter (fun q => (fun x : Ses => decide (s.id < x.id)) q.2) := by
    rw [keyed, List.filter_map, List.filter_map]; rfl
  rw [f1, f2, List.map_append, List.map_append, f (fun x => decide (x.id < s.id)), f (fun x => decide (s.id < x.id))] at h
  unfold withG at h
  rw [keyed_fst, has_at hr] at h
  rw [put]
  refine Eq.trans ?_ h
  split
  · rw [List.map_set, keyed_snd]
  · rw [List.map_append, List.map_append, List.map_take, List.map_drop, keyed_snd]; rfl
theorem put_up {l : List Ses} (hr : Up l) (s : Ses) : Up (put l s) := by
  have h0 := up_iff.1 hr
  refine up_iff.2 ?_
  rw [put, List.append_assoc, List.pairwise_append]
  refine ⟨h0.sublist List.filter_sublist, ?_, ?_⟩
  · rw [List.cons_append, List.nil_append, List.pairwise_cons]
    exact ⟨fun y hy => by simpa using (List.mem_filter.1 hy).2, h0.sublist List.filter_sublist⟩
  · intro a ha b hb
    have ha : a.id < s.id := by simpa using (List.mem_filter.1 ha).2
    rcases List.mem_append.1 hb with hb | hb
    · obtain rfl : b = s := by simpa using hb
      exact ha
    · have hb : s.id < b.id := by simpa using (List.mem_filter.1 hb).2
      omega
theorem clear_up {l : List Ses} (hr : Up l) (id : Int) : Up (clear l id) := up_iff.2 ((up_iff.1 hr).sublist List.filter_sublist)
theorem lives_up {l : List Ses} (hr : Up l) (now : Int) : Up (lives now l) := up_iff.2 ((up_iff.1 hr).sublist List.filter_sublist)
theorem insF_put (s : Ses) (l : List Ses) : ∀ out, l.foldl (insStep s) (out, true) = (out ++ l, true) := by
  induction l with
  | nil => intro out; simp
  | cons x xs ih =>
    intro out
    have e : insStep s (out, true) x = (out ++ [x], true) := by simp [insStep]
    rw [List.foldl_cons, e, ih]
    simp
theorem insF_eq (s : Ses) (l : List Ses) (hr : Up l) (hn : ∀ x ∈ l, x.id ≠ s.id) : ∀ out, (fun o : List Ses × Bool => if o.2 = true then o.1 else o.1 ++ [s]) (l.foldl (insStep s) (out, false)) = out ++ put l s := by
  induction l with
  | nil => intro out; simp [put]
  | cons x xs ih =>
    intro out
    have hp := List.pairwise_cons.1 (up_iff.1 hr)
    have hx := hn x List.mem_cons_self
    by_cases hsx : s.id < x.id
    · have e : insStep s (out, false) x = (out ++ [s] ++ [x], true) := by simp [insStep, hsx]
      have f1 : xs.filter (fun y => decide (y.id < s.id)) = [] := List.filter_eq_nil_iff.2 fun y hy => by have := hp.1 y hy; simp; omega
      have f2 : xs.filter (fun y => decide (s.id < y.id)) = xs := List.filter_eq_self.2 fun y hy => by have := hp.1 y hy; simp; omega
      have d1 : decide (x.id < s.id) = false := by simp; omega
      have d2 : decide (s.id < x.id) = true := by simp; omega
      rw [List.foldl_cons, e, insF_put, put, List.filter_cons, List.filter_cons, d1, d2, f1, f2]
      simp
    · have e : insStep s (out, false) x = (out ++ [x], false) := by simp [insStep, hsx]
      have d1 : decide (x.id < s.id) = true := by simp; omega
      have d2 : decide (s.id < x.id) = false := by simp; omega
      rw [List.foldl_cons, e, ih (up_iff.2 hp.2) (fun y hy => hn y (List.mem_cons_of_mem _ hy)), put, put, List.filter_cons, List.filter_cons, d1, d2]
      simp
theorem ins_eq {l : List Ses} (hr : Up l) (s : Ses) : ins s (clear l s.id) = put l s := by
  have h := insF_eq s (clear l s.id) (clear_up hr _) (fun x hx => by simpa [clear] using (List.mem_filter.1 hx).2) []
  have e : put (clear l s.id) s = put l s := by
    rw [put, put, clear, List.filter_filter, List.filter_filter]
    congr 1
    · congr 1
      refine List.filter_congr fun x _ => ?_
      rw [Bool.eq_iff_iff]; simp; omega
    · refine List.filter_congr fun x _ => ?_
      rw [Bool.eq_iff_iff]; simp; omega
  rw [List.nil_append, e] at h
  rw [← h, ins, insF]
theorem sort_up : ∀ l : List Ses, Up (sortF l) := by
  refine snoc_ind (by exact List.Pairwise.nil) ?_
  intro l s h
  have e : sortF (l ++ [s]) = sortStep (sortF l) s := by rw [sortF, List.foldl_append]; rfl
  rw [e, sortStep]
  split
  · exact h
  · rw [ins_eq h]; exact put_up h s
end Go.Proofs.Ytfkpjdcjjfpigaa
