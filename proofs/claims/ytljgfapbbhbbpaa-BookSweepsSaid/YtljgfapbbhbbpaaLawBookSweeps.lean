/- BookSweeps. -/
import Derived.Test.YtljgfapbbhbbpaaBSame
namespace Go.Proofs.Ytljgfapbbhbbpaa
open Go Go.Proofs.Ytljgfapbbhbbpaa.Sym
set_option maxRecDepth 100000
set_option linter.unusedSimpArgs false
set_option linter.unusedVariables false

theorem lives_late {now earlier : Int} (h : earlier ≤ now) (l : List Ses) : lives now (lives earlier l) = lives now l := by
  rw [lives, lives, lives, List.filter_filter]
  refine List.filter_congr fun x _ => ?_
  simp only [Ses.lives]
  rw [Bool.eq_iff_iff]
  simp
  omega
theorem filterMap_all {α : Type} {f : α → Option α} {l : List α} (h : ∀ x ∈ l, f x = some x) : l.filterMap f = l := by
  induction l with
  | nil => rfl
  | cons x xs ih => rw [List.filterMap_cons, h x List.mem_cons_self, ih (fun y hy => h y (List.mem_cons_of_mem _ hy))]
def SweptP (now : Int) (p : ByteArray × En) : Prop := p.2.l.length ≠ 0 ∧ lives now p.2.l = p.2.l ∧ p.2.t = ofP p.2.l now
theorem swept_all {m : Bk} (hr : rises_se m) (now : Int) : ∀ p ∈ (sweepF m now).1, SweptP now p := by
  intro p hp
  rw [sweepF_eq hr] at hp
  obtain ⟨q, hq, rfl, hn⟩ := swept_mem hp
  exact ⟨hn, lives_late (Int.le_refl _) _, rfl⟩
theorem swept_again {c : Bk} {now : Int} (hr : rises_se c) (h : ∀ p ∈ c, SweptP now p) : sweepF c now = (c, []) := by
  have h1 : (sweepF c now).1 = c := by
    rw [sweepF_eq hr]
    refine filterMap_all fun p hp => ?_
    obtain ⟨a1, a2, a3⟩ := h p hp
    unfold sweptE
    rw [a2, if_neg a1, ← a3]
  have h2 : ∀ i, (sweepTo c now i).2 = [] := by
    intro i
    induction i with
    | zero => rfl
    | succ i ih =>
      by_cases hi : i < c.length
      · obtain ⟨a1, a2, a3⟩ := h _ (List.getElem_mem hi)
        have hrs := (sweep_ok hr now i).1
        have e := sweepTo_eq hr now i
        rw [List.drop_eq_getElem_cons hi] at e
        have hw : wasOf (sweepTo c now i).1 c[i].1 = c[i].2 := by
          rw [wasOf, get_mem ordS eqS_iff hrs (k := c[i].1) (v := c[i].2) (by rw [e]; exact List.mem_append_right _ List.mem_cons_self)]
        rw [sweep_next hi, sweepStep]
        simp only
        rw [ih, settleC, hw, a2, ← a3, if_pos rfl]
        rfl
      · have e : sweepTo c now (i + 1) = sweepTo c now i := by
          rw [sweepTo, sweepTo, List.take_of_length_le (by omega), List.take_of_length_le (by omega)]
        rw [e, ih]
  have h3 := h2 c.length
  rw [sweepTo, List.take_length] at h3
  exact Prod.ext h1 h3
theorem swept_was {m : Bk} (hr : rises_se m) (now : Int) (u : ByteArray) : (wasOf (sweepF m now).1 u).l = lives now (wasOf m u).l := by
  have hr2 := (sweep_ok hr now m.length).1
  rw [show sweepTo m now m.length = sweepF m now by rw [sweepTo, List.take_length, sweepF]] at hr2
  by_cases hc : u ∈ (sweepF m now).1.map Prod.fst
  · obtain ⟨p, hp, rfl⟩ := List.mem_map.1 hc
    have hw : wasOf (sweepF m now).1 p.1 = p.2 := by
      rw [wasOf, get_mem ordS eqS_iff hr2 (k := p.1) (v := p.2) hp]
    rw [hw]
    rw [sweepF_eq hr] at hp
    obtain ⟨q, hq, rfl, hn⟩ := swept_mem hp
    have hw2 : wasOf m q.1 = q.2 := by rw [wasOf, get_mem ordS eqS_iff hr (k := q.1) (v := q.2) hq]
    simp only [hw2]
  · have hw : wasOf (sweepF m now).1 u = nilEn := by rw [wasOf, get_none ordS eqS_iff hr2 hc]
    rw [hw]
    by_cases hm : u ∈ m.map Prod.fst
    · obtain ⟨q, hq, rfl⟩ := List.mem_map.1 hm
      have hw2 : wasOf m q.1 = q.2 := by rw [wasOf, get_mem ordS eqS_iff hr (k := q.1) (v := q.2) hq]
      rw [hw2]
      by_cases hl : (lives now q.2.l).length = 0
      · rw [List.eq_nil_of_length_eq_zero hl]; rfl
      · exfalso
        refine hc (List.mem_map.2 ⟨(q.1, ⟨lives now q.2.l, ofP (lives now q.2.l) now⟩), ?_, rfl⟩)
        rw [sweepF_eq hr]
        exact List.mem_filterMap.2 ⟨q, hq, by unfold sweptE; rw [if_neg hl]⟩
    · have hw2 : wasOf m u = nilEn := by rw [wasOf, get_none ordS eqS_iff hr hm]
      rw [hw2]; rfl
theorem ofP_late {now then_ : Int} (h : now ≤ then_) (l : List Ses) : ofP (lives now l) then_ = ofP l then_ := by
  rw [ofP, ofP, lives_late h]
theorem addW_ge {a b : Int} (ha : 0 ≤ a ∧ a ≤ 18446744073709551615) (hb : 0 ≤ b ∧ b ≤ 18446744073709551615) : a ≤ addW a b := by
  unfold addW
  rw [wrap_u64 (n := 18446744073709551615 - a) (by omega) (by omega)]
  split
  · omega
  · rw [wrap_u64 (by omega) (by omega)]; omega
theorem sum_swept (m : Bk) (now : Int) : sumL (m.filterMap (sweptE now)) ≤ sumL m := by
  induction m with
  | nil => exact Nat.le_refl _
  | cons p m ih =>
    have hl : (lives now p.2.l).length ≤ p.2.l.length := List.length_filter_le _ _
    have e : sumL (p :: m) = p.2.l.length + sumL m := by simp [sumL]
    rw [e, List.filterMap_cons]
    unfold sweptE
    by_cases h : (lives now p.2.l).length = 0
    · rw [if_pos h]
      simp only
      exact Nat.le_trans ih (Nat.le_add_left _ _)
    · rw [if_neg h]
      simp only
      have e2 : ∀ (x : ByteArray × En) (k : Bk), sumL (x :: k) = x.2.l.length + sumL k := fun x k => by simp [sumL]
      rw [e2]
      have := ih
      unfold sweptE at this
      simp only
      omega
theorem swept_n {now : Int} {p : ByteArray × En} (h : SweptP now p) : p.2.t.n = (p.2.l.length : Int) := by
  obtain ⟨_, a2, a3⟩ := h
  rw [a3, ofP]
  simp only
  rw [bestF_count, a2]

set_option maxHeartbeats 2000000 in
theorem law_sweeps (l : List ActB) (most : Int) (user : ByteArray) (by_ : Int) (hl : l.length ≤ maxLen) (hby : ∀ a ∈ l, 0 ≤ a.by_ ∧ a.by_ ≤ 18446744073709551615) (hb : 0 ≤ by_ ∧ by_ ≤ 18446744073709551615) :
    PCall P 14 [.sl 9 (bacts l), i64 most, str user, u64 by_] (fun x => x = .v (.bool true)) := by
  refine pcall_go tyOk Try.func14 rfl rfl ?_
  intro K hK
  simp only [Try.ntmps14, List.length_cons, List.length_nil, Nat.reduceAdd, Nat.reduceSub, List.replicate, List.cons_append, List.nil_append]
  try simp (maxSteps := 1000000) only [go_region, go_seq, go_ops_nil, go_op, opK_none, opK_some, contK_some, callOf, callK_eq, callJ_nil, callD_fn, fstep, fpre, fstep0, evs, St.ev, St.put, ownersAll, List.set, List.append_nil, true_and, Bool.true_and]
  (refine callG_use law08_awake rfl ?_; rintro _ rfl)
  try simp (maxSteps := 1000000) only [go_op, go_guard, opK_none, opK_some, contK_some, guardK_eq, guardV_ff, callOf, callK_eq, callJ_nil, callD_fn, fstep, fpre, fstep0, funary, evs, St.ev, St.put, AV.owners, ownersAll, List.getD_cons_zero, List.getD_cons_succ, List.set, List.append_nil, List.getElem?_cons_zero, List.getElem?_cons_succ, Option.bind_some, List.getElem?_toArray, true_and, Bool.true_and, Bool.not_true]
  (refine callG_use (law08_long l hl) rfl ?_; rintro _ rfl)
  try simp (maxSteps := 1000000) only [go_op, go_guard, opK_none, contK_some, guardK_eq, callOf, fstep, fpre, fstep0, fpick, St.ev, St.put, List.getD_cons_zero, List.getD_cons_succ, List.set, List.getElem?_cons_zero, List.getElem?_cons_succ, Option.bind_some, List.getElem?_toArray, true_and, Bool.true_and, cond_false]
  (first | refine guardV_split ?_ ?_ | refine condK_split ?_ ?_ | refine drawV_split ?_ ?_ | refine condY_split ?_ ?_ | refine guardY_split ?_ ?_) <;> intro h0
  · try simp (maxSteps := 1000000) only [go_region, go_seq, go_cond, go_ops_nil, go_op, go_guard, opK_none, opK_some, contK_some, condK_t, guardK_eq, guardV_tf, undef, callOf, callK_eq, callJ_nil, callD_fn, fstep, fpre, fstep0, evs, fpick, St.ev, St.put, ownersAll, List.getD_cons_zero, List.getD_cons_succ, List.set, List.append_nil, List.getElem?_cons_zero, List.getElem?_cons_succ, Option.bind_some, List.getElem?_toArray, true_and, Bool.true_and, ↓reduceIte]
    (refine callG_use law08_awake rfl ?_; rintro _ rfl)
    try simp (maxSteps := 1000000) only [go_ret, go_ops_nil, go_op, opK_none, contK_some, callOf, fstep, fpre, fstep0, St.ev, St.put, List.getD_cons_zero, List.getD_cons_succ, List.set, true_and, Bool.true_and]
    apply hK
    simp only [Try.results14, retK, ares, List.take_nil, Bool.and_true, Bool.true_and, AV.ofResults, St.trunc, truncVs, truncV, List.getD_cons_zero, List.getD_cons_succ, List.map_nil, true_and, and_true, List.cons.injEq, exists_eq_left']
  try simp (maxSteps := 1000000) only [go_cond, go_ops_nil, go_op, go_guard, opK_none, contK_some, guardK_eq, guardV_ff, callOf, fstep, fpre, fstep0, fbinA, fbin, fbin0, flen, fpick, T, St.ev, St.put, List.getD_cons_zero, List.getD_cons_succ, List.set, List.getElem?_cons_zero, List.getElem?_cons_succ, Option.bind_some, List.getElem?_toArray, true_and, Bool.true_and, cond_false]
  (first | refine guardV_split ?_ ?_ | refine condK_split ?_ ?_ | refine drawV_split ?_ ?_ | refine condY_split ?_ ?_ | refine guardY_split ?_ ?_) <;> intro h1
  · try simp (maxSteps := 1000000) only [go_region, go_seq, go_op, opK_some, condK_t, callOf, callK_eq, callJ_nil, callD_fn, evs, St.ev, ownersAll, List.append_nil]
    (refine callG_use law08_awake rfl ?_; rintro _ rfl)
    try simp (maxSteps := 1000000) only [go_ret, go_ops_nil, go_op, opK_none, contK_some, callOf, fstep, fpre, fstep0, St.ev, St.put, List.getD_cons_zero, List.getD_cons_succ, List.set, true_and, Bool.true_and]
    apply hK
    simp only [Try.results14, retK, ares, List.take_nil, Bool.and_true, Bool.true_and, AV.ofResults, St.trunc, truncVs, truncV, List.getD_cons_zero, List.getD_cons_succ, List.map_nil, true_and, and_true, List.cons.injEq, exists_eq_left']
  have hlen := longB_few h0
  have hmade := made_call l most (by omega)
  have hok := (made_ok l most).mono (show l.length ≤ 200 by omega)
  have hnow := made_now l most hby
  obtain ⟨⟨M, now⟩, hM⟩ : ∃ s, madeF l most = s := ⟨_, rfl⟩
  rw [hM] at hok hnow hmade
  simp only at hok hnow hmade
  have hS1 := sweep_call 200 M now hok (by omega)
  have hCok := book_sweep hok now
  have hall := swept_all hok.1 now
  have hwas := swept_was hok.1 now user
  have hsum : sumL (sweepF M now).1 ≤ sumL M := by rw [sweepF_eq hok.1]; exact sum_swept M now
  obtain ⟨⟨C, ch⟩, hC⟩ : ∃ s, sweepF M now = s := ⟨_, rfl⟩
  rw [hC] at hS1 hCok hall hwas hsum
  simp only at hS1 hCok hall hwas hsum
  have hS2 := sweep_call 200 C now hCok (by omega)
  rw [swept_again hCok.1 hall] at hS2
  simp only at hS2
  have hge := addW_ge hnow hb
  have hp1 := presence_call 200 M user (addW now by_) hok (by omega)
  have hp2 := presence_call 200 C user (addW now by_) hCok (by omega)
  rw [hwas, ofP_late hge] at hp2
  have hsame := same_call C C (hCok.mono (by omega)) (hCok.mono (by omega))
  rw [decide_eq_true rfl] at hsame
  have hu := users_call C (by have := hCok.2.1; omega)
  have hst1 := stored_call M hok
  have hst2 := stored_call C hCok
  have hlat := law_later now by_
  generalize addW now by_ = th at *
  have c0 : (((0 : Nat) : Int) != 0) = false := by decide
  have d9 : decide (((sumL C : Nat) : Int) ≤ ((sumL M : Nat) : Int)) = true := by simp; omega
  unfold map_se at hmade hS1 hS2 hp1 hp2 hsame hu hst1 hst2
  have hCl := hCok.2.1
  try simp (maxSteps := 1000000) only [go_skip, go_region, go_seq, go_op, opK_none, opK_some, contK_some, condK_f, callOf, callK_eq, callJ_nil, callD_fn, fstep, fpre, fstep0, evs, St.ev, St.put, AV.owners, ownersAll, List.getD_cons_zero, List.getD_cons_succ, List.set, List.append_nil, true_and, Bool.true_and]
  (refine callG_use hmade rfl ?_; rintro _ rfl)
  try simp (maxSteps := 1000000) only [go_region, go_seq, go_ops_nil, go_op, opK_none, opK_some, contK_some, callOf, callK_eq, callJ_nil, callD_fn, fstep, fpre, fstep0, fload, fcell, fstore, evs, T, TI.isAgg, St.ev, St.put, splice, AV.cells, AV.known, AV.flat, AV.owners, ownersAll, List.getD_cons_zero, List.getD_cons_succ, List.set, List.map_cons, List.map_nil, List.length_cons, List.length_nil, List.all_cons, List.all_nil, List.drop_succ_cons, List.drop_zero, List.take_succ_cons, List.take_zero, List.nil_append, List.append_nil, List.getElem?_cons_zero, true_and, and_true, Bool.and_true, Bool.true_and, Bool.and_self, ↓reduceIte, Nat.reduceAdd, Nat.reduceLT, Nat.le_refl, Nat.zero_add]
  (refine callG_use hS1 rfl ?_; rintro _ rfl)
  try simp (maxSteps := 1000000) only [go_region, go_seq, go_ops_nil, go_op, opK_none, opK_some, contK_some, callOf, callK_eq, callJ_nil, callD_fn, fstep, fpre, fstep0, fload, fcell, fstore, evs, T, TI.isAgg, St.ev, St.put, splice, AV.cells, AV.known, AV.flat, AV.owners, ownersAll, List.getD_cons_zero, List.getD_cons_succ, List.set, List.map_cons, List.map_nil, List.length_cons, List.length_nil, List.all_cons, List.all_nil, List.drop_succ_cons, List.drop_zero, List.take_succ_cons, List.take_zero, List.cons_append, List.nil_append, List.append_nil, List.getElem?_cons_zero, List.getElem?_cons_succ, true_and, and_true, Bool.and_true, Bool.true_and, Bool.and_self, ↓reduceIte, Nat.reduceAdd, Nat.reduceLT, Nat.le_refl, Nat.zero_add]
  (refine callG_use hS2 rfl ?_; rintro _ rfl)
  try simp (maxSteps := 1000000) only [go_region, go_seq, go_ops_nil, go_op, opK_none, opK_some, contK_some, callOf, callK_eq, callJ_nil, callD_fn, fstep, fpre, fstep0, fstore, evs, T, St.ev, St.put, splice, AV.cells, AV.known, AV.flat, AV.owners, ownersAll, List.getD_cons_zero, List.getD_cons_succ, List.set, List.map_cons, List.map_nil, List.length_cons, List.length_nil, List.all_cons, List.all_nil, List.drop_succ_cons, List.drop_zero, List.take_zero, List.cons_append, List.nil_append, List.append_nil, List.getElem?_cons_zero, List.getElem?_cons_succ, true_and, and_true, Bool.and_true, Bool.true_and, Bool.and_self, Nat.reduceAdd, Nat.reduceLT, Nat.le_refl, Nat.zero_add]
  (refine callG_use hlat rfl ?_; rintro _ rfl)
  try simp (maxSteps := 1000000) only [go_seq, go_draws, go_ops_nil, go_op, opK_none, contK_some, callOf, fstep, fpre, fstep0, St.ev, St.put, List.getD_cons_zero, List.getD_cons_succ, List.set, true_and, Bool.true_and]
  refine draw_rule tyOk (by rfl) (by simp only [List.length_cons, List.length_nil, Nat.reduceAdd, Nat.zero_le]) (by kernel_rfl) rfl ?_
  try simp (maxSteps := 1000000) only [callOf, fstep0, newF, fload, fcell, evs, T, TI.isAgg, St.ev, St.put, List.getD_cons_zero, List.getD_cons_succ, List.set, List.length_cons, List.length_nil, List.drop_zero, List.take_succ_cons, List.take_zero, List.append_nil, List.getElem?_cons_zero, List.replicate, true_and, Bool.true_and, Bool.or_false, Bool.false_eq_true, ↓reduceIte, Nat.reduceAdd, Nat.le_refl, Nat.add_zero, Nat.zero_add, Nat.reduceBEq, newCount, drawR_op, drawP_none, drawP_some, drawQ_some, drawH_fn, dstep, isFree, St.app, bump, isNew]
  refine drawCall_use hp1 rfl ?_
  try simp (maxSteps := 1000000) only [callOf, fstep0, newF, fload, fcell, evs, T, TI.isAgg, St.ev, St.put, List.getD_cons_zero, List.getD_cons_succ, List.set, List.length_cons, List.length_nil, List.drop_zero, List.take_succ_cons, List.take_zero, List.append_nil, List.getElem?_cons_zero, List.getElem?_cons_succ, true_and, Bool.true_and, Bool.or_false, Bool.false_eq_true, ↓reduceIte, Nat.reduceAdd, Nat.le_refl, Nat.zero_add, Nat.reduceBEq, drawR_op, drawP_none, drawP_some, drawQ_some, drawH_fn, dstep, isFree, St.app, bump, isNew]
  refine drawCall_use hp2 rfl ?_
  try simp (maxSteps := 1000000) only [callOf, fstep0, fbinA, newF, fbin, fbinS, eqVs, eqV, kOks, kOk, fload, fcell, evs, T, TI.isAgg, St.ev, St.put, List.getD_cons_zero, List.getD_cons_succ, List.set, List.length_cons, List.length_nil, List.drop_zero, List.take_succ_cons, List.take_zero, List.append_nil, List.getElem?_cons_zero, List.getElem?_cons_succ, Option.bind_some, List.getElem?_toArray, true_and, Bool.true_and, Bool.and_self, Bool.or_false, Bool.not_true, Bool.false_eq_true, ↓reduceIte, decide_true, Nat.reduceAdd, Nat.le_refl, Nat.zero_add, Nat.reduceBEq, beq_self_eq_true, drawR_op, drawR_guard, drawW_some, drawV_ff, drawP_none, drawP_some, drawQ_some, drawH_fn, dstep, isFree, St.app, bump, isNew, eqc28]
  refine drawCall_use hsame rfl ?_
  try simp (maxSteps := 1000000) only [go_skip, go_region, go_seq, go_cond, go_op, opK_none, opK_some, contK_some, condK_f, callOf, callK_eq, callJ_nil, callD_fn, fstep, fpre, fstep0, fbinA, newF, fbin, fbin0, fload, fcell, funary, flen, evs, fpick, T, TI.isAgg, St.ev, St.put, AV.owners, ownersAll, List.getD_cons_zero, List.getD_cons_succ, List.set, List.map_nil, List.length_cons, List.length_nil, List.drop_zero, List.take_succ_cons, List.take_zero, List.append_nil, List.getElem?_cons_zero, List.getElem?_cons_succ, Option.bind_some, List.getElem?_toArray, true_and, Bool.true_and, Bool.or_false, Bool.not_true, Bool.false_eq_true, ↓reduceIte, Nat.reduceAdd, Nat.le_refl, Nat.zero_add, Nat.reduceBEq, cond_false, drawR_nil, drawR_op, drawR_guard, drawW_some, drawV_ff, drawP_none, drawQ_some, dstep, isFree, St.app, bump, isNew, chgs, c0]
  refine ⟨by kernel_rfl, ?_⟩
  skip
  (refine callG_use hu rfl ?_; rintro _ rfl)
  try simp (maxSteps := 1000000) only [go_region, go_seq, go_block, go_loop, go_ops_nil, go_op, opK_none, contK_some, callOf, fstep, fpre, fstep0, St.ev, St.put, List.getD_cons_zero, List.getD_cons_succ, List.set, true_and, Bool.true_and]
  refine loopK_rule tyOk (α := Nat) 3 [9, 10, 11, 16, 17] (fun i => i ≤ C.length)
    (fun i => ⟨[.any, .any, .any, .any, .any, .any, .any, .any, .any, .ptr 0 0, u64 now, .ptr 1 0, .any, .any, .any, .any, .sl 5 (usrs C), i64 i, .any, .any, .any, .any, .any, .any, .any, .any, .any, .any, .any, .any, .any, .any, .any, .any, .any, .any, .any, .any, .any, .any, .any, .any, .any, .any, .any, .any, .any, .any, .any, .any, .any, .any, .any, .any, .any, .any, .any, .any, .any, .any, .any, .any, .any, .any, .any, .any, .any, .any, .any, .any, .any, .any, .any, .any, .any, .any, .any, .any, .any, .any, .any, .any, .any, .any, .any, .any, .any, .any, .any, .any, .any, .any, .any, .any, .any, .any, .any, .any, .any, .any, .any, .any, .any, .any, .any, .any, .any, .any, .any, .any, .any, .any, .any, .any, .any, .any, .any, .any, .any, .any, .any, .any, .any, .any, .any, .any, .any, .any], [ebox M, ebox C, ebox C]⟩)
    (fun i => C.length - i) 0 (Nat.zero_le _) (Nat.zero_le _) rfl ?_
  intro i hi
  try simp (maxSteps := 1000000) only [go_region, go_seq, go_cond, go_ops_nil, go_op, opK_none, contK_some, callOf, fstep, fpre, fstep0, fbinA, fbin, fbin0, flen, T, St.ev, St.put, List.getD_cons_zero, List.getD_cons_succ, List.set, true_and, Bool.true_and, usrs_len]
  (first | refine guardV_split ?_ ?_ | refine condK_split ?_ ?_ | refine drawV_split ?_ ?_ | refine condY_split ?_ ?_ | refine guardY_split ?_ ?_) <;> intro h2
  · have hlt : i < C.length := by simpa using h2
    have eg : (usrs C).getD (Int.toNat (i : Int)) .any = .agg [str C[i].1, .sl 4 (avs C[i].2.l), i64 C[i].2.t.st, i64 C[i].2.t.pr, i64 C[i].2.t.n] := at_map hlt
    have ew : IntKind.i64.wrap ((i : Int) + 1) = ((i + 1 : Nat) : Int) := by rw [wrap_i64 (by omega) (by omega)]; rfl
    have c1 : (0 : Int) ≤ (i : Int) ∧ Int.toNat (i : Int) < C.length := by omega
    have hsw := hall _ (List.getElem_mem hlt)
    have hel := (hCok.2.2 _ (List.getElem_mem hlt)).2
    have hn := swept_n hsw
    generalize C[i] = p at *
    have d0 : (((p.2.l.length : Nat) : Int) == 0) = false := by rw [beq_eq_false_iff_ne]; have := hsw.1; omega
    try simp (maxSteps := 1000000) only [go_skip, go_region, go_seq, go_block, go_loop, go_ops_nil, go_op, opK_none, contK_some, condK_t, callOf, fstep, fpre, fstep0, St.ev, St.put, List.set, true_and, Bool.true_and]
    refine loopK_rule tyOk (α := Nat) 3 [9, 10, 11, 16, 17, 18] (fun k => k ≤ p.2.l.length)
      (fun k => ⟨[.any, .any, .any, .any, .any, .any, .any, .any, .any, .ptr 0 0, u64 now, .ptr 1 0, .any, .any, .any, .any, .sl 5 (usrs C), i64 i, i64 k, .any, .any, .any, .any, .any, .any, .any, .any, .any, .any, .any, .any, .any, .any, .any, .any, .any, .any, .any, .any, .any, .any, .any, .any, .any, .any, .any, .any, .any, .any, .any, .any, .any, .any, .any, .any, .any, .any, .any, .any, .any, .any, .any, .any, .any, .any, .any, .any, .any, .any, .any, .any, .any, .any, .any, .any, .any, .any, .any, .any, .any, .any, .any, .any, .any, .any, .any, .any, .any, .any, .any, .any, .any, .any, .any, .any, .any, .any, .any, .any, .any, .any, .any, .any, .any, .any, .any, .any, .any, .any, .any, .any, .any, .any, .any, .any, .any, .any, .any, .any, .any, .any, .any, .any, .any, .any, .any, .any, .any], [ebox M, ebox C, ebox C]⟩)
      (fun k => p.2.l.length - k) 0 (Nat.zero_le _) (Nat.zero_le _) rfl ?_
    intro k hk
    try simp (maxSteps := 1000000) only [go_region, go_seq, go_cond, go_ops_nil, go_op, opK_none, contK_some, callOf, fstep, fpre, fstep0, fbinA, fbin, fbin0, fload, fcell, ffieldAddr, findexAddr, flen, T, TI.isAgg, St.ev, St.put, AV.cells, AV.known, List.getD_cons_zero, List.getD_cons_succ, List.set, List.length_cons, List.length_nil, List.drop_succ_cons, List.drop_zero, List.headD_cons, List.getElem?_cons_zero, List.getElem?_cons_succ, List.getElem?_toArray, true_and, and_true, Bool.and_true, Bool.true_and, Bool.false_eq_true, ↓reduceIte, reduceCtorEq, ne_eq, not_false_eq_true, Nat.reduceAdd, Nat.reduceLT, Nat.zero_add, eg, c1, usrs_len, avs_len]
    (first | refine guardV_split ?_ ?_ | refine condK_split ?_ ?_ | refine drawV_split ?_ ?_ | refine condY_split ?_ ?_ | refine guardY_split ?_ ?_) <;> intro h3
    · obtain ⟨hlt3, eg3, ew3, c3⟩ := at_idx (by omega) h3
      have d3 : decide (p.2.l[k].un ≤ now) = false := by
        have hm : p.2.l[k] ∈ lives now p.2.l := by rw [hsw.2.1]; exact List.getElem_mem _
        have := (List.mem_filter.1 hm).2
        simp only [Ses.lives, Bool.not_eq_true'] at this
        exact this
      try simp (maxSteps := 1000000) only [go_nil, go_skip, go_region, go_seq, go_cond, go_block, go_blk, go_ops_nil, go_op, opK_none, contK_some, condK_t, condK_f, callOf, fstep, fpre, fstep0, fbinA, fbin, fbin0, fload, fcell, ffieldAddr, findexAddr, T, TI.isAgg, St.ev, St.put, AV.cells, AV.known, List.getD_cons_zero, List.getD_cons_succ, List.set, List.length_cons, List.length_nil, List.drop_succ_cons, List.drop_zero, List.headD_cons, List.getElem?_cons_zero, List.getElem?_cons_succ, List.getElem?_toArray, true_and, and_true, Bool.and_true, Bool.true_and, Bool.false_eq_true, ↓reduceIte, reduceCtorEq, ne_eq, not_false_eq_true, Nat.reduceAdd, Nat.reduceLT, Nat.zero_add, eg, c1, usrs_len, avs_len, eg3, c3, d3, ew3]
      simp only [loopX_normal, St.trunc, St.keep, truncVs, truncV, AB.trunc, keepV, List.elem_cons, List.elem_nil, List.take_succ_cons, List.take_zero, List.map_cons, List.map_nil, Nat.reduceAdd, Nat.reduceBEq, Nat.reduceLeDiff, Nat.zero_add, Bool.false_eq_true, ↓reduceIte]
      exact ⟨k + 1, hlt3, by omega, rfl⟩
    · try simp (maxSteps := 1000000) only [go_seq, go_exit, go_draws, exitK_code, exitK_blk, exitK_nil, condK_f, ↓reduceIte, loopX_exit]
      refine draw_rule tyOk (by rfl) (by simp only [List.length_cons, List.length_nil, Nat.reduceAdd, Nat.zero_le]) (by kernel_rfl) rfl ?_
      try simp (maxSteps := 1000000) only [go_nil, go_skip, go_region, go_cond, go_blk, go_ops_nil, go_op, opK_none, contK_some, condK_f, callOf, fstep, fpre, fstep0, fbinA, fbin, fbin0, fload, fcell, ffieldAddr, findexAddr, flen, fpick, T, TI.isAgg, St.ev, St.put, AV.cells, AV.known, List.getD_cons_zero, List.getD_cons_succ, List.set, List.length_cons, List.length_nil, List.drop_succ_cons, List.drop_zero, List.headD_cons, List.append_nil, List.getElem?_cons_zero, List.getElem?_cons_succ, List.replicate, Option.bind_some, List.getElem?_toArray, true_and, and_true, Bool.and_true, Bool.true_and, Bool.false_eq_true, ↓reduceIte, reduceCtorEq, ne_eq, not_false_eq_true, Nat.reduceAdd, Nat.reduceLT, Nat.add_zero, Nat.zero_add, cond_false, bne_self_eq_false, newCount, drawR_nil, drawR_op, drawR_guard, drawW_some, drawV_ff, drawP_none, drawQ_some, dstep, isFree, St.app, bump, isNew, eg, c1, usrs_len, avs_len, d0, hn]
      refine ⟨by kernel_rfl, ?_⟩
      try simp (maxSteps := 1000000) only [ew]
      simp only [loopX_normal, St.trunc, St.keep, truncVs, truncV, AB.trunc, keepV, List.elem_cons, List.elem_nil, List.take_succ_cons, List.take_zero, List.map_cons, List.map_nil, Nat.reduceAdd, Nat.reduceBEq, Nat.reduceLeDiff, Nat.zero_add, Bool.false_eq_true, ↓reduceIte]
      exact ⟨i + 1, hlt, by omega, rfl⟩
  · try simp (maxSteps := 1000000) only [go_seq, go_exit, go_draws, exitK_code, exitK_blk, exitK_nil, condK_f, ↓reduceIte, loopX_exit]
    refine draw_rule tyOk (by rfl) (by simp only [List.length_cons, List.length_nil, Nat.reduceAdd, Nat.zero_le]) (by kernel_rfl) rfl ?_
    try simp (maxSteps := 1000000) only [callOf, newF, fload, fcell, evs, T, TI.isAgg, St.ev, St.put, List.getD_cons_zero, List.getD_cons_succ, List.set, List.length_cons, List.length_nil, List.drop_zero, List.take_succ_cons, List.take_zero, List.append_nil, List.getElem?_cons_zero, List.getElem?_cons_succ, List.replicate, true_and, Bool.true_and, Bool.or_false, Bool.false_eq_true, ↓reduceIte, Nat.reduceAdd, Nat.le_refl, Nat.add_zero, Nat.zero_add, Nat.reduceBEq, newCount, drawR_op, drawP_none, drawP_some, drawQ_some, drawH_fn, dstep, isFree, St.app, bump, isNew]
    refine drawCall_use hst2 rfl ?_
    try simp (maxSteps := 1000000) only [callOf, newF, fload, fcell, evs, T, TI.isAgg, St.ev, St.put, List.getD_cons_zero, List.getD_cons_succ, List.set, List.length_cons, List.length_nil, List.drop_zero, List.take_succ_cons, List.take_zero, List.append_nil, List.getElem?_cons_zero, true_and, Bool.true_and, Bool.or_false, Bool.false_eq_true, ↓reduceIte, Nat.reduceAdd, Nat.le_refl, Nat.zero_add, Nat.reduceBEq, drawR_op, drawP_none, drawP_some, drawQ_some, drawH_fn, dstep, isFree, St.app, bump, isNew]
    refine drawCall_use hst1 rfl ?_
    try simp (maxSteps := 1000000) only [go_ret, callOf, fstep0, fbinA, newF, fbin, fbin0, St.ev, St.put, List.getD_cons_zero, List.getD_cons_succ, List.set, true_and, Bool.true_and, Bool.or_false, Bool.false_eq_true, ↓reduceIte, Nat.reduceAdd, Nat.reduceBEq, drawR_nil, drawR_op, drawP_none, drawQ_some, dstep, isFree, St.app, bump, isNew, d9]
    refine ⟨by kernel_rfl, ?_⟩
    skip
    apply hK
    simp only [Try.results14, retK, ares, Bool.and_true, Bool.true_and, AV.ofResults, St.trunc, truncVs, truncV, List.getD_cons_zero, List.getD_cons_succ, List.take_zero, List.map_nil, true_and, and_true, List.cons.injEq, exists_eq_left']
def shapesBookSweeps : List (Bool × List Lf) := [(false, [.sl 9 true [.bool, .int .i64, .str, .int .i64, .int .i64, .int .i64, .int .u64, .sl 1 false [.str], .int .u64]]), (false, [.int .i64]), (false, [.str]), (false, [.int .u64])]
theorem shapesBookSweeps_ok : argShapes T 6 [65, 3, 9, 32] = some shapesBookSweeps := by kernel_rfl
theorem law_BookSweeps (xs : List AV) (h : argsFit shapesBookSweeps xs) : PCall P 14 xs (fun x => x = .v (.bool true)) := by
  obtain ⟨_, _, rfl, ⟨_, _, rfl, ⟨ys, rfl, hlen, hys⟩, rfl⟩, _, _, rfl, ⟨_, _, rfl, ⟨most, rfl, _⟩, rfl⟩, _, _, rfl, ⟨_, _, rfl, ⟨u, rfl, _⟩, rfl⟩, _, _, rfl, ⟨_, _, rfl, ⟨b, rfl, hb⟩, rfl⟩, rfl⟩ := h
  obtain ⟨l, rfl, hby⟩ := fits_bacts2 hys
  rw [bacts_len] at hlen
  exact law_sweeps l most u b hlen hby (lit_u64 hb)
end Go.Proofs.Ytljgfapbbhbbpaa
