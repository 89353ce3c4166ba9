/- BookRoom. -/
import Derived.Test.YtljgfapbbhbbpaaBLaw
import Derived.Test.YtljgfapbbhbbpaaBFit
namespace Go.Proofs.Ytljgfapbbhbbpaa
open Go Go.Proofs.Ytljgfapbbhbbpaa.Sym
set_option maxRecDepth 100000
set_option linter.unusedSimpArgs false
set_option linter.unusedVariables false

def roomy (n : Int) (m : Bk) : Prop := ∀ p ∈ m, 0 < p.2.l.length ∧ (p.2.l.length : Int) ≤ n
theorem was_room {n : Int} {m : Bk} (hr : rises_se m) (h : roomy n m) (h0 : 0 ≤ n) (u : ByteArray) : ((wasOf m u).l.length : Int) ≤ n := by
  by_cases hk : u ∈ m.map Prod.fst
  · obtain ⟨⟨k, e⟩, hp, rfl⟩ := List.mem_map.1 hk
    rw [wasOf, get_mem ordS eqS_iff hr hp]
    exact (h _ hp).2
  · rw [wasOf, get_none ordS eqS_iff hr hk]
    exact h0
theorem setF_room {l : List Ses} (hr : Up l) (s : Ses) {n : Int} (h : (l.length : Int) ≤ n) : ((setF l s n).1.length : Int) ≤ n := by
  cases hh : has l s.id with
  | true => rw [set_has hr n hh, List.length_set]; exact h
  | false =>
    cases hm : decide (n ≤ l.length) with
    | true => rw [set_full hh hm]; exact h
    | false =>
      have hle : lb ltI (ids l) s.id ≤ l.length := by have := lb_le (lt := ltI) (ids l) s.id; rwa [ids_len] at this
      have : ¬ n ≤ l.length := by simpa using hm
      rw [set_new hr hh hm]
      simp only [List.length_append, List.length_take, List.length_drop, List.length_singleton]
      omega
theorem room_write {k : Nat} {n : Int} {m : Bk} (hk : bookOk k m) (h : roomy n m) (h0 : 0 ≤ n) (o : Opb) (now : Int) : roomy n (writeB m o now n) := by
  intro p hp
  rcases settle_mem hk.1 hp with hp | ⟨rfl, hne⟩
  · exact h p hp
  · refine ⟨by simp only; omega, ?_⟩
    have hw := was_room hk.1 h h0 o.u
    have hup := lives_up (was_ok hk o.u).1 now
    have hl : (lives now (wasOf m o.u).l).length ≤ (wasOf m o.u).l.length := List.length_filter_le _ _
    unfold writeL
    simp only
    split
    · exact setF_room hup _ (by omega)
    · split
      · rw [(beatF_ok hup _ _).2]; omega
      · split
        · have : (clear (lives now (wasOf m o.u).l) o.id).length ≤ _ := List.length_filter_le _ _
          simp only; omega
        · simp only; omega
theorem room_sweep {n : Int} {m : Bk} (hr : rises_se m) (h : roomy n m) (now : Int) : roomy n (sweepF m now).1 := by
  intro p hp
  rw [sweepF_eq hr] at hp
  obtain ⟨q, hq, rfl, hne⟩ := swept_mem hp
  have := h q hq
  have hl : (lives now q.2.l).length ≤ q.2.l.length := List.length_filter_le _ _
  exact ⟨by simp only; omega, by simp only; omega⟩
theorem room_made {n : Int} (h0 : 0 ≤ n) (l : List ActB) : roomy n (madeF l n).1 := by
  refine snoc_ind (p := fun l => roomy n (madeF l n).1) (fun p hp => by cases hp) ?_ l
  intro l a ih
  have e : madeF (l ++ [a]) n = madeStep n (madeF l n) a := by rw [madeF, List.foldl_append]; rfl
  have hok := made_ok l n
  rw [e, madeStep]
  simp only
  split
  · exact room_sweep hok.1 ih _
  · exact room_write hok ih h0 _ _

theorem law_room (l : List ActB) (most : Int) (hl : l.length ≤ maxLen) (h0 : 0 ≤ most ∧ most ≤ 255) : PCall P 11 [.sl 9 (bacts l), .v (.int .u8 most)] (fun x => x = .v (.bool true)) := by
  refine pcall_go tyOk Try.func11 rfl rfl ?_
  intro K hK
  simp only [Try.ntmps11, List.length_cons, List.length_nil, Nat.reduceAdd, Nat.reduceSub, List.replicate, List.cons_append, List.nil_append]
  have ewm : IntKind.i64.wrap most = most := wrap_i64 (by omega) (by omega)
  have hn1 := Int.tmod_nonneg 9 h0.1
  have hn2 := Int.tmod_lt_of_pos most (show (0 : Int) < 9 by decide)
  have ewn : IntKind.i64.wrap (most.tmod 9) = most.tmod 9 := wrap_i64 (by omega) (by omega)
  try simp (maxSteps := 1000000) only [go_region, go_seq, go_ops_nil, go_op, opK_none, opK_some, contK_some, callOf, callK_eq, callJ_nil, callD_fn, fstep, fpre, fstep0, evs, St.ev, St.put, ownersAll, List.set, List.append_nil, true_and, Bool.true_and]
  (refine callG_use law08_awake rfl ?_; rintro _ rfl)
  try simp (maxSteps := 1000000) only [go_op, go_guard, opK_none, opK_some, contK_some, guardK_eq, guardV_ff, callOf, callK_eq, callJ_nil, callD_fn, fstep, fpre, fstep0, funary, evs, St.ev, St.put, AV.owners, ownersAll, List.getD_cons_zero, List.getD_cons_succ, List.set, List.append_nil, List.getElem?_cons_zero, List.getElem?_cons_succ, Option.bind_some, List.getElem?_toArray, true_and, Bool.true_and, Bool.not_true]
  (refine callG_use (law08_long l hl) rfl ?_; rintro _ rfl)
  try simp (maxSteps := 1000000) only [go_cond, go_ops_nil, go_op, opK_none, contK_some, callOf, fstep, fpre, fstep0, fpick, St.ev, St.put, List.getD_cons_zero, List.getD_cons_succ, List.set, true_and, Bool.true_and, cond_false]
  (first | refine guardV_split ?_ ?_ | refine condK_split ?_ ?_ | refine drawV_split ?_ ?_ | refine condY_split ?_ ?_ | refine guardY_split ?_ ?_) <;> intro h0
  · try simp (maxSteps := 1000000) only [go_region, go_seq, go_op, opK_some, condK_t, callOf, callK_eq, callJ_nil, callD_fn, evs, St.ev, ownersAll, List.append_nil]
    (refine callG_use law08_awake rfl ?_; rintro _ rfl)
    try simp (maxSteps := 1000000) only [go_ret, go_ops_nil, go_op, opK_none, contK_some, callOf, fstep, fpre, fstep0, St.ev, St.put, List.getD_cons_zero, List.getD_cons_succ, List.set, true_and, Bool.true_and]
    apply hK
    simp only [Try.results11, retK, ares, List.take_nil, Bool.and_true, Bool.true_and, AV.ofResults, St.trunc, truncVs, truncV, List.getD_cons_zero, List.getD_cons_succ, List.map_nil, true_and, and_true, List.cons.injEq, exists_eq_left']
  have hlen := longB_few h0
  try simp (maxSteps := 1000000) only [go_skip, go_region, go_seq, go_ops_nil, go_op, opK_none, opK_some, contK_some, condK_f, callOf, callK_eq, callJ_nil, callD_fn, fstep, fpre, fstep0, fbinA, fbin, fbin0, fconvA, fconvert, evs, T, St.ev, St.put, AV.owners, ownersAll, List.getD_cons_zero, List.getD_cons_succ, List.set, List.append_nil, true_and, and_true, Bool.and_true, Bool.true_and, ne_eq, not_false_eq_true, Int.reduceEq, ewm]
  generalize most.tmod 9 = n at *
  (refine callG_use (made_call l n (by omega)) rfl ?_; rintro _ rfl)
  have hok := (made_ok l n).mono (show l.length ≤ 200 by omega)
  have hroom := room_made hn1 l
  obtain ⟨⟨M, now⟩, hM⟩ : ∃ s, madeF l n = s := ⟨_, rfl⟩
  rw [hM] at hok hroom ⊢
  simp only at hok hroom
  have hml := hok.2.1
  have hu := users_call M (by omega)
  have hst := stored_call M hok
  have hln := len_call_se M
  unfold map_se at hu hst hln
  try simp (maxSteps := 1000000) only [go_region, go_seq, go_ops_nil, go_op, opK_none, opK_some, contK_some, callOf, callK_eq, callJ_nil, callD_fn, fstep, fpre, fstep0, fload, fcell, fstore, evs, T, TI.isAgg, St.ev, St.put, splice, AV.cells, AV.known, AV.flat, AV.owners, ownersAll, List.getD_cons_zero, List.getD_cons_succ, List.set, List.map_cons, List.map_nil, List.length_cons, List.length_nil, List.all_cons, List.all_nil, List.drop_succ_cons, List.drop_zero, List.take_succ_cons, List.take_zero, List.nil_append, List.append_nil, List.getElem?_cons_zero, true_and, and_true, Bool.and_true, Bool.true_and, Bool.and_self, ↓reduceIte, Nat.reduceAdd, Nat.reduceLT, Nat.le_refl, Nat.zero_add, map_se]
  (refine callG_use hu rfl ?_; rintro _ rfl)
  try simp (maxSteps := 1000000) only [go_region, go_seq, go_block, go_loop, go_ops_nil, go_op, opK_none, contK_some, callOf, fstep, fpre, fstep0, St.ev, St.put, List.getD_cons_zero, List.getD_cons_succ, List.set, true_and, Bool.true_and]
  refine loopK_rule tyOk (α := Nat) 1 [0, 1, 5, 6, 8, 9, 10] (fun i => i ≤ M.length)
    (fun i => ⟨[.sl 9 (bacts l), .v (.int .u8 most), .any, .any, .any, i64 n, .ptr 0 0, .any, .sl 5 (usrs M), i64 (sumL (M.take i) : Nat), i64 i, .any, .any, .any, .any, .any, .any, .any, .any, .any, .any, .any, .any, .any, .any, .any, .any, .any, .any, .any, .any, .any, .any, .any, .any, .any, .any, .any, .any, .any, .any, .any, .any, .any, .any, .any, .any, .any, .any, .any, .any, .any, .any, .any, .any, .any, .any, .any, .any, .any, .any, .any, .any, .any, .any, .any, .any, .any, .any, .any, .any], [ebox M]⟩)
    (fun i => M.length - i) 0 (Nat.zero_le _) (Nat.zero_le _) rfl ?_
  intro i hi
  try simp (maxSteps := 1000000) only [go_region, go_seq, go_cond, go_ops_nil, go_op, opK_none, contK_some, callOf, fstep, fpre, fstep0, fbinA, fbin, fbin0, flen, T, St.ev, St.put, List.getD_cons_zero, List.getD_cons_succ, List.set, true_and, Bool.true_and, usrs_len]
  (first | refine guardV_split ?_ ?_ | refine condK_split ?_ ?_ | refine drawV_split ?_ ?_ | refine condY_split ?_ ?_ | refine guardY_split ?_ ?_) <;> intro h
  · have hlt : i < M.length := by simpa using h
    have eg : (usrs M).getD (Int.toNat (i : Int)) .any = .agg [str M[i].1, .sl 4 (avs M[i].2.l), i64 M[i].2.t.st, i64 M[i].2.t.pr, i64 M[i].2.t.n] := at_map hlt
    have ew : IntKind.i64.wrap ((i : Int) + 1) = ((i + 1 : Nat) : Int) := by rw [wrap_i64 (by omega) (by omega)]; rfl
    have c1 : (0 : Int) ≤ (i : Int) ∧ Int.toNat (i : Int) < M.length := by omega
    have hr := hroom _ (List.getElem_mem hlt)
    have hs := sum_le hok i
    have hnx := sum_next hlt
    have hel := (hok.2.2 _ (List.getElem_mem hlt)).2
    generalize M[i] = p at *
    have ew2 : IntKind.i64.wrap (((sumL (M.take i) : Nat) : Int) + ((p.2.l.length : Nat) : Int)) = ((sumL (M.take i) + p.2.l.length : Nat) : Int) := by
      have : 200 * i ≤ 200 * 200 := Nat.mul_le_mul_left _ (by omega)
      rw [wrap_i64 (by omega) (by omega)]; rfl
    have d1 : decide (n < ((p.2.l.length : Nat) : Int)) = false := by simp; omega
    have d2 : (((p.2.l.length : Nat) : Int) == 0) = false := by rw [beq_eq_false_iff_ne]; omega
    try simp (maxSteps := 1000000) only [go_nil, go_skip, go_region, go_seq, go_cond, go_block, go_blk, go_ops_nil, go_op, go_guard, opK_none, contK_some, condK_t, condK_f, guardK_eq, guardV_ff, callOf, fstep, fpre, fstep0, fbinA, fbin, fbin0, fload, fcell, ffieldAddr, findexAddr, flen, fpick, T, TI.isAgg, St.ev, St.put, AV.cells, AV.known, List.getD_cons_zero, List.getD_cons_succ, List.set, List.length_cons, List.length_nil, List.drop_succ_cons, List.drop_zero, List.headD_cons, List.getElem?_cons_zero, List.getElem?_cons_succ, Option.bind_some, List.getElem?_toArray, true_and, and_true, Bool.and_true, Bool.true_and, Bool.false_eq_true, ↓reduceIte, reduceCtorEq, ne_eq, not_false_eq_true, Nat.reduceAdd, Nat.reduceLT, Nat.zero_add, cond_false, eg, c1, usrs_len, avs_len, d1, d2, ew2, ew]
    simp only [loopX_normal, St.trunc, St.keep, truncVs, truncV, AB.trunc, keepV, List.elem_cons, List.elem_nil, List.take_succ_cons, List.take_zero, List.map_cons, List.map_nil, Nat.reduceAdd, Nat.reduceBEq, Nat.reduceLeDiff, Nat.zero_add, Bool.false_eq_true, ↓reduceIte]
    exact ⟨i + 1, hlt, by omega, by rw [hnx]⟩
  · obtain rfl := at_end hi h
    rw [List.take_length]
    try simp (maxSteps := 1000000) only [go_region, go_seq, go_exit, exitK_code, exitK_blk, exitK_nil, go_op, opK_none, opK_some, contK_some, condK_f, callOf, callK_eq, callJ_nil, callD_fn, fstep, fpre, fstep0, fload, fcell, evs, T, TI.isAgg, St.ev, St.put, AV.owners, ownersAll, List.getD_cons_zero, List.getD_cons_succ, List.set, List.length_cons, List.length_nil, List.drop_zero, List.take_succ_cons, List.take_zero, List.append_nil, List.getElem?_cons_zero, true_and, Bool.true_and, ↓reduceIte, Nat.reduceAdd, Nat.le_refl, Nat.zero_add, loopX_exit]
    (refine callG_use hst rfl ?_; rintro _ rfl)
    try simp (maxSteps := 1000000) only [go_op, go_guard, opK_none, opK_some, contK_some, guardK_eq, guardV_tt, callOf, callK_eq, callJ_nil, callD_fn, fstep, fpre, fstep0, fbinA, fbin, fbin0, fload, fcell, evs, T, TI.isAgg, St.ev, St.put, AV.owners, ownersAll, List.getD_cons_zero, List.getD_cons_succ, List.set, List.length_cons, List.length_nil, List.drop_zero, List.take_succ_cons, List.take_zero, List.append_nil, List.getElem?_cons_zero, List.getElem?_cons_succ, Option.bind_some, List.getElem?_toArray, true_and, Bool.true_and, ↓reduceIte, Nat.reduceAdd, Nat.le_refl, Nat.zero_add, beq_self_eq_true]
    (refine callG_use hln rfl ?_; rintro _ rfl)
    try simp (maxSteps := 1000000) only [go_ret, go_ops_nil, go_op, go_guard, opK_none, contK_some, guardK_eq, guardV_tt, callOf, fstep, fpre, fstep0, fbinA, fbin, fbin0, flen, fpick, T, St.ev, St.put, List.getD_cons_zero, List.getD_cons_succ, List.set, List.getElem?_cons_zero, List.getElem?_cons_succ, Option.bind_some, List.getElem?_toArray, true_and, Bool.true_and, cond_true, beq_self_eq_true, usrs_len]
    apply hK
    simp only [Try.results11, retK, ares, Bool.and_true, Bool.true_and, AV.ofResults, St.trunc, truncVs, truncV, List.getD_cons_zero, List.getD_cons_succ, List.take_zero, List.map_nil, true_and, and_true, List.cons.injEq, exists_eq_left']
def shapesBookRoom : List (Bool × List Lf) := [(false, [.sl 9 true [.bool, .int .i64, .str, .int .i64, .int .i64, .int .i64, .int .u64, .sl 1 false [.str], .int .u64]]), (false, [.int .u8])]
theorem shapesBookRoom_ok : argShapes T 6 [65, 5] = some shapesBookRoom := by kernel_rfl

theorem law_BookRoom (xs : List AV) (h : argsFit shapesBookRoom xs) : PCall P 11 xs (fun x => x = .v (.bool true)) := by
  obtain ⟨_, _, rfl, ⟨_, _, rfl, ⟨ys, rfl, hlen, hys⟩, rfl⟩, _, _, rfl, ⟨_, _, rfl, ⟨most, rfl, hm⟩, rfl⟩, rfl⟩ := h
  obtain ⟨l, rfl⟩ := fits_bacts hys
  rw [bacts_len] at hlen
  exact law_room l most hlen (lit_u8 hm)
end Go.Proofs.Ytljgfapbbhbbpaa
