/- BookOnly. -/
import Derived.Test.YtljgfapbbhbbpaaBLaw
import Derived.Test.YtljgfapbbhbbpaaBFit2
namespace Go.Proofs.Ytljgfapbbhbbpaa
open Go Go.Proofs.Ytljgfapbbhbbpaa.Sym
set_option maxRecDepth 100000
set_option linter.unusedSimpArgs false
set_option linter.unusedVariables false

theorem clear_no {l : List Ses} {id : Int} {s : Ses} (h : s ∈ clear l id) : s.id ≠ id := by simpa using (List.mem_filter.1 h).2
theorem writeL_set {m : Bk} {o : Opb} {now most : Int} (h : o.kind = 1) : writeL m o now most = setF (lives now (wasOf m o.u).l) ⟨o.id, o.st, o.pr, addW now o.ttl⟩ most := by
  unfold writeL; simp only [h, if_true]
theorem writeL_clear {m : Bk} {o : Opb} {now most : Int} (h : o.kind = 3) : writeL m o now most = (clear (lives now (wasOf m o.u).l) o.id, if has (lives now (wasOf m o.u).l) o.id = true then 0 else 3) := by
  unfold writeL
  simp only [h]
  rw [if_neg (by decide), if_neg (by decide), if_pos trivial]
theorem setF_code (l : List Ses) (s : Ses) (most : Int) : ((setF l s most).2 = 0 ∧ (setF l s most).1 = ins s (clear l s.id)) ∨ (setF l s most).2 = 2 := by
  unfold setF
  split
  · exact .inr rfl
  · exact .inl ⟨rfl, rfl⟩
theorem addW_late {a b : Int} (ha : 0 ≤ a ∧ a ≤ 18446744073709551615) (hb : 0 ≤ b ∧ b ≤ 18446744073709551615) (h : addW a b ≤ a) : b = 0 ∨ a = 18446744073709551615 := by
  unfold addW at h
  rw [wrap_u64 (n := 18446744073709551615 - a) (by omega) (by omega)] at h
  split at h
  · right; omega
  · rw [wrap_u64 (by omega) (by omega)] at h
    left; omega
/-- What was set is there, if it doesn't end at once. -/
theorem set_clear {n : Nat} {m : Bk} (hok : bookOk n m) {o : Opb} {now : Int} (hn : 0 ≤ now ∧ now ≤ 18446744073709551615) (ht : 0 ≤ o.ttl ∧ o.ttl ≤ 18446744073709551615) (hk : o.kind = 1) (he : (writeL m o now 4).2 = 0)
    (hh : has (lives now (wasOf (writeB m o now 4) o.u).l) o.id = false) : o.ttl = 0 ∨ now = 18446744073709551615 := by
  have hw := writeL_set (m := m) (now := now) (most := 4) hk
  rw [writeB, was_settle hok.1, hw] at hh
  rw [hw] at he
  have hup := lives_up (was_ok hok o.u).1 now
  rcases setF_code (lives now (wasOf m o.u).l) ⟨o.id, o.st, o.pr, addW now o.ttl⟩ 4 with ⟨_, h⟩ | h
  · rw [h, ins_eq hup] at hh
    by_cases hl : addW now o.ttl ≤ now
    · exact addW_late hn ht hl
    · exfalso
      have hm : (⟨o.id, o.st, o.pr, addW now o.ttl⟩ : Ses) ∈ lives now (put (lives now (wasOf m o.u).l) ⟨o.id, o.st, o.pr, addW now o.ttl⟩) := by
        refine List.mem_filter.2 ⟨by simp [put], ?_⟩
        simp only [Ses.lives]
        simpa using hl
      have : has (lives now (put (lives now (wasOf m o.u).l) ⟨o.id, o.st, o.pr, addW now o.ttl⟩)) o.id = true := by
        rw [has, List.any_eq_true]
        exact ⟨_, hm, by simp⟩
      rw [this] at hh; cases hh
  · rw [h] at he; cases he

set_option maxHeartbeats 2000000 in
theorem law_only (l : List ActB) (x : Opb) (user : ByteArray) (hl : l.length ≤ maxLen) (hby : ∀ a ∈ l, 0 ≤ a.by_ ∧ a.by_ ≤ 18446744073709551615) (ht : 0 ≤ x.ttl ∧ x.ttl ≤ 18446744073709551615) :
    PCall P 10 [.sl 9 (bacts l), x.av, str user] (fun x => x = .v (.bool true)) := by
  refine pcall_go tyOk Try.func10 rfl rfl ?_
  intro K hK
  simp only [Try.ntmps10, List.length_cons, List.length_nil, Nat.reduceAdd, Nat.reduceSub, List.replicate, List.cons_append, List.nil_append]
  try simp (maxSteps := 1000000) only [go_region, go_seq, go_ops_nil, go_op, opK_none, opK_some, contK_some, callOf, callK_eq, callJ_nil, callD_fn, fstep, fpre, fstep0, evs, St.ev, St.put, AV.cells, AV.known, ownersAll, List.getD_cons_zero, List.getD_cons_succ, List.set, List.length_nil, List.nil_append, List.append_nil, true_and, Bool.true_and, Opb.av]
  (refine callG_use law08_awake rfl ?_; rintro _ rfl)
  try simp (maxSteps := 1000000) only [go_op, go_guard, opK_none, opK_some, contK_some, guardK_eq, guardV_ff, callOf, callK_eq, callJ_nil, callD_fn, fstep, fpre, fstep0, funary, evs, St.ev, St.put, AV.owners, ownersAll, List.getD_cons_zero, List.getD_cons_succ, List.set, List.append_nil, List.getElem?_cons_zero, List.getElem?_cons_succ, Option.bind_some, List.getElem?_toArray, true_and, Bool.true_and, Bool.not_true]
  (refine callG_use (law08_long l hl) rfl ?_; rintro _ rfl)
  try simp (maxSteps := 1000000) only [go_op, go_guard, opK_none, contK_some, guardK_eq, callOf, fstep, fpre, fstep0, fpick, St.ev, St.put, List.getD_cons_zero, List.getD_cons_succ, List.set, List.getElem?_cons_zero, List.getElem?_cons_succ, Option.bind_some, List.getElem?_toArray, true_and, Bool.true_and, cond_false]
  (first | refine guardV_split ?_ ?_ | refine condK_split ?_ ?_ | refine drawV_split ?_ ?_ | refine condY_split ?_ ?_ | refine guardY_split ?_ ?_) <;> intro h0
  · try simp (maxSteps := 1000000) only [go_region, go_seq, go_cond, go_ops_nil, go_op, go_guard, opK_none, opK_some, contK_some, condK_t, guardK_eq, guardV_tf, undef, callOf, callK_eq, callJ_nil, callD_fn, fstep, fpre, fstep0, evs, fpick, St.ev, St.put, ownersAll, List.getD_cons_zero, List.getD_cons_succ, List.set, List.append_nil, List.getElem?_cons_zero, List.getElem?_cons_succ, Option.bind_some, List.getElem?_toArray, true_and, Bool.true_and, ↓reduceIte]
    (refine callG_use law08_awake rfl ?_; rintro _ rfl)
    try simp (maxSteps := 1000000) only [go_ret, go_ops_nil, go_op, opK_none, contK_some, callOf, fstep, fpre, fstep0, St.ev, St.put, List.getD_cons_zero, List.getD_cons_succ, List.set, true_and, Bool.true_and]
    apply hK
    simp only [Try.results10, retK, ares, Bool.and_true, Bool.true_and, AV.ofResults, St.trunc, truncVs, truncV, List.getD_cons_zero, List.getD_cons_succ, List.take_zero, List.map_nil, true_and, and_true, List.cons.injEq, exists_eq_left']
  try simp (maxSteps := 1000000) only [go_op, go_guard, opK_none, contK_some, guardK_eq, guardV_ff, callOf, fstep, fpre, fstep0, fbinA, fbin, fbin0, flen, fpick, T, St.ev, St.put, List.getD_cons_zero, List.getD_cons_succ, List.set, List.getElem?_cons_zero, List.getElem?_cons_succ, Option.bind_some, List.getElem?_toArray, true_and, Bool.true_and, cond_false]
  (first | refine guardV_split ?_ ?_ | refine condK_split ?_ ?_ | refine drawV_split ?_ ?_ | refine condY_split ?_ ?_ | refine guardY_split ?_ ?_) <;> intro h1
  · try simp (maxSteps := 1000000) only [go_region, go_seq, go_cond, go_ops_nil, go_op, go_guard, opK_none, opK_some, contK_some, condK_t, guardK_eq, guardV_tf, undef, callOf, callK_eq, callJ_nil, callD_fn, fstep, fpre, fstep0, evs, fpick, St.ev, St.put, ownersAll, List.getD_cons_zero, List.getD_cons_succ, List.set, List.append_nil, List.getElem?_cons_zero, List.getElem?_cons_succ, Option.bind_some, List.getElem?_toArray, true_and, Bool.true_and, ↓reduceIte]
    (refine callG_use law08_awake rfl ?_; rintro _ rfl)
    try simp (maxSteps := 1000000) only [go_ret, go_ops_nil, go_op, opK_none, contK_some, callOf, fstep, fpre, fstep0, St.ev, St.put, List.getD_cons_zero, List.getD_cons_succ, List.set, true_and, Bool.true_and]
    apply hK
    simp only [Try.results10, retK, ares, Bool.and_true, Bool.true_and, AV.ofResults, St.trunc, truncVs, truncV, List.getD_cons_zero, List.getD_cons_succ, List.take_zero, List.map_nil, true_and, and_true, List.cons.injEq, exists_eq_left']
  try simp (maxSteps := 1000000) only [go_cond, go_ops_nil, go_op, go_guard, opK_none, contK_some, guardK_eq, guardV_ff, callOf, fstep, fpre, fstep0, fbinA, fbin, fbin0, fload, fcell, ffieldAddr, flen, fpick, T, TI.isAgg, St.ev, St.put, List.getD_cons_zero, List.getD_cons_succ, List.set, List.length_cons, List.length_nil, List.drop_succ_cons, List.drop_zero, List.headD_cons, List.getElem?_cons_zero, List.getElem?_cons_succ, Option.bind_some, List.getElem?_toArray, true_and, Bool.true_and, Bool.false_eq_true, ↓reduceIte, reduceCtorEq, ne_eq, not_false_eq_true, Nat.reduceAdd, Nat.reduceLT, Nat.zero_add, cond_false]
  (first | refine guardV_split ?_ ?_ | refine condK_split ?_ ?_ | refine drawV_split ?_ ?_ | refine condY_split ?_ ?_ | refine guardY_split ?_ ?_) <;> intro h2
  · try simp (maxSteps := 1000000) only [go_region, go_seq, go_op, opK_some, condK_t, callOf, callK_eq, callJ_nil, callD_fn, evs, St.ev, ownersAll, List.append_nil]
    (refine callG_use law08_awake rfl ?_; rintro _ rfl)
    try simp (maxSteps := 1000000) only [go_ret, go_ops_nil, go_op, opK_none, contK_some, callOf, fstep, fpre, fstep0, St.ev, St.put, List.getD_cons_zero, List.getD_cons_succ, List.set, true_and, Bool.true_and]
    apply hK
    simp only [Try.results10, retK, ares, Bool.and_true, Bool.true_and, AV.ofResults, St.trunc, truncVs, truncV, List.getD_cons_zero, List.getD_cons_succ, List.take_zero, List.map_nil, true_and, and_true, List.cons.injEq, exists_eq_left']
  have hlen := longB_few h0
  try simp (maxSteps := 1000000) only [go_skip, go_region, go_seq, go_op, opK_none, opK_some, contK_some, condK_f, callOf, callK_eq, callJ_nil, callD_fn, fstep, fpre, fstep0, evs, St.ev, St.put, AV.owners, ownersAll, List.getD_cons_zero, List.getD_cons_succ, List.set, List.append_nil, true_and, Bool.true_and]
  (refine callG_use (made_call l 4 (by omega)) rfl ?_; rintro _ rfl)
  have hok := (made_ok l 4).mono (show l.length ≤ 200 by omega)
  have hnow := made_now l 4 hby
  obtain ⟨⟨M, now⟩, hM⟩ : ∃ s, madeF l 4 = s := ⟨_, rfl⟩
  rw [hM] at hok hnow ⊢
  simp only at hok hnow
  have hC := write_call 200 M x now 4 hok (by omega)
  have hD := write_call 200 M (Opb.mk 1 x.u x.id x.st x.pr x.ttl x.us) now 4 hok (by omega)
  have hDok := book_write hok (Opb.mk 1 x.u x.id x.st x.pr x.ttl x.us) now 4
  have hsc := fun he hh => set_clear hok (o := Opb.mk 1 x.u x.id x.st x.pr x.ttl x.us) hnow ht rfl he hh
  have hCok := book_write hok x now 4
  have hp1 := presence_call 201 M user now (hok.mono (by omega)) (by omega)
  have hp2 := presence_call 201 (writeB M x now 4) user now hCok (by omega)
  have hpe : ¬ user = x.u → wasOf (writeB M x now 4) user = wasOf M user := fun hne => was_other hok.1 hne
  generalize hCC : writeB M x now 4 = C at *
  generalize hDD : writeB M (Opb.mk 1 x.u x.id x.st x.pr x.ttl x.us) now 4 = D at *
  have hF := write_call 201 D (Opb.mk 3 x.u x.id x.st x.pr x.ttl x.us) now 4 hDok (by omega)
  have hFok := book_write hDok (Opb.mk 3 x.u x.id x.st x.pr x.ttl x.us) now 4
  have hyl : (wasOf (writeB D (Opb.mk 3 x.u x.id x.st x.pr x.ttl x.us) now 4) x.u).l = clear (lives now (wasOf D x.u).l) x.id := by
    rw [writeB, was_settle hDok.1, writeL_clear rfl]
  have hg : (writeL D (Opb.mk 3 x.u x.id x.st x.pr x.ttl x.us) now 4).2 = 0 ∨ ((writeL D (Opb.mk 3 x.u x.id x.st x.pr x.ttl x.us) now 4).2 = 3 ∧ ((writeL M (Opb.mk 1 x.u x.id x.st x.pr x.ttl x.us) now 4).2 = 0 → x.ttl = 0 ∨ now = 18446744073709551615)) := by
    rw [writeL_clear rfl]
    cases hh : has (lives now (wasOf D x.u).l) x.id
    · exact .inr ⟨by simp [hh], fun he => hsc he hh⟩
    · exact .inl (by simp [hh])
  have hclr : ∀ s ∈ (wasOf (writeB D (Opb.mk 3 x.u x.id x.st x.pr x.ttl x.us) now 4) x.u).l, s.id ≠ x.id := fun s hs => by rw [hyl] at hs; exact clear_no hs
  have hG := get_open (writeB D (Opb.mk 3 x.u x.id x.st x.pr x.ttl x.us) now 4) x.u hFok.1 (by have := hFok.2.1; omega)
  generalize hFF : writeB D (Opb.mk 3 x.u x.id x.st x.pr x.ttl x.us) now 4 = F at *
  dsimp only [Opb.av] at hC hD hF
  unfold map_se at hC hD hF hG hp1 hp2
  try simp (maxSteps := 1000000) only [go_region, go_seq, go_ops_nil, go_op, opK_none, opK_some, contK_some, callOf, callK_eq, callJ_nil, callD_fn, fstep, fpre, fstep0, fload, fcell, fstore, evs, T, TI.isAgg, St.ev, St.put, splice, AV.cells, AV.known, AV.flat, AV.owners, ownersAll, List.getD_cons_zero, List.getD_cons_succ, List.set, List.map_cons, List.map_nil, List.length_cons, List.length_nil, List.all_cons, List.all_nil, List.drop_succ_cons, List.drop_zero, List.take_succ_cons, List.take_zero, List.cons_append, List.nil_append, List.append_nil, List.getElem?_cons_zero, List.getElem?_cons_succ, true_and, and_true, Bool.and_true, Bool.true_and, Bool.and_self, ↓reduceIte, Nat.reduceAdd, Nat.reduceLT, Nat.le_refl, Nat.zero_add, map_se]
  (refine callG_use hC rfl ?_; rintro _ rfl)
  try simp (maxSteps := 1000000) only [go_seq, go_draws, go_ops_nil, go_op, opK_none, contK_some, callOf, fstep, fpre, fstep0, fstore, T, St.ev, St.put, splice, AV.cells, AV.known, AV.flat, List.getD_cons_zero, List.getD_cons_succ, List.set, List.map_cons, List.map_nil, List.length_cons, List.length_nil, List.all_cons, List.all_nil, List.drop_succ_cons, List.drop_zero, List.take_zero, List.cons_append, List.nil_append, List.append_nil, List.getElem?_cons_zero, List.getElem?_cons_succ, true_and, and_true, Bool.and_true, Bool.true_and, Bool.and_self, Nat.reduceAdd, Nat.reduceLT, Nat.le_refl, Nat.zero_add]
  refine draw_rule tyOk (by rfl) (by simp only [List.length_cons, List.length_nil, Nat.reduceAdd, Nat.zero_le]) (by kernel_rfl) rfl ?_
  try simp (maxSteps := 1000000) only [callOf, fstep0, fbinA, newF, fbin, fbin0, fload, fcell, ffieldAddr, T, TI.isAgg, St.ev, St.put, List.getD_cons_zero, List.getD_cons_succ, List.set, List.length_cons, List.length_nil, List.drop_succ_cons, List.drop_zero, List.headD_cons, List.append_nil, List.getElem?_cons_zero, List.getElem?_cons_succ, List.replicate, Option.bind_some, List.getElem?_toArray, true_and, Bool.true_and, Bool.or_false, Bool.false_eq_true, ↓reduceIte, reduceCtorEq, ne_eq, not_false_eq_true, Nat.reduceAdd, Nat.reduceLT, Nat.add_zero, Nat.zero_add, Nat.reduceBEq, newCount, drawR_op, drawR_guard, drawW_some, drawP_none, drawQ_some, dstep, isFree, St.app, bump, isNew]
  (first | refine guardV_split ?_ ?_ | refine condK_split ?_ ?_ | refine drawV_split ?_ ?_ | refine condY_split ?_ ?_ | refine guardY_split ?_ ?_) <;> intro hu
  · have hne : ¬ user = x.u := by
      intro h; rw [h] at hu; simp at hu
    rw [hpe hne] at hp2
    try simp (maxSteps := 1000000) only [callOf, fstep0, fload, fcell, evs, T, TI.isAgg, St.ev, St.put, List.getD_cons_zero, List.getD_cons_succ, List.set, List.length_cons, List.length_nil, List.drop_zero, List.take_succ_cons, List.take_zero, List.append_nil, List.getElem?_cons_zero, List.getElem?_cons_succ, Option.bind_some, List.getElem?_toArray, true_and, Bool.true_and, Bool.false_eq_true, ↓reduceIte, Nat.reduceAdd, Nat.le_refl, Nat.zero_add, drawR_guard, drawW_some, drawV_tt, drawP_none, drawP_some, drawQ_some, drawH_fn, dstep, isFree, St.app, bump, isNew]
    refine drawCall_use hp1 rfl ?_
    try simp (maxSteps := 1000000) only [callOf, fstep0, newF, fload, fcell, evs, T, TI.isAgg, St.ev, St.put, List.getD_cons_zero, List.getD_cons_succ, List.set, List.length_cons, List.length_nil, List.drop_zero, List.take_succ_cons, List.take_zero, List.append_nil, List.getElem?_cons_zero, List.getElem?_cons_succ, Option.bind_some, List.getElem?_toArray, true_and, Bool.true_and, Bool.or_false, Bool.false_eq_true, ↓reduceIte, Nat.reduceAdd, Nat.le_refl, Nat.zero_add, Nat.reduceBEq, drawR_guard, drawW_some, drawV_tt, drawP_none, drawP_some, drawQ_some, drawH_fn, dstep, isFree, St.app, bump, isNew]
    refine drawCall_use hp2 rfl ?_
    try simp (maxSteps := 1000000) only [go_skip, go_seq, go_cond, go_draws, condK_f, callOf, fstep0, fbinA, newF, fbin, fbinS, eqVs, eqV, kOks, kOk, fpick, St.ev, St.put, List.getD_cons_zero, List.getD_cons_succ, List.set, List.getElem?_cons_zero, List.getElem?_cons_succ, Option.bind_some, List.getElem?_toArray, true_and, Bool.true_and, Bool.and_self, Bool.or_false, Bool.not_true, Bool.false_eq_true, ↓reduceIte, decide_true, Nat.reduceAdd, Nat.reduceBEq, cond_true, beq_self_eq_true, drawR_nil, drawR_op, drawR_guard, drawW_some, drawV_tt, drawP_none, drawQ_some, dstep, isFree, St.app, bump, isNew, eqc28]
    refine ⟨by kernel_rfl, ?_⟩
    skip
    refine draw_rule tyOk (by rfl) (by simp only [List.length_cons, List.length_nil, Nat.reduceAdd, Nat.zero_le]) (by kernel_rfl) rfl ?_
    try simp (maxSteps := 1000000) only [go_region, go_seq, go_ops_nil, go_op, opK_none, opK_some, contK_some, callOf, callK_eq, callJ_nil, callD_fn, fstep, fpre, fstep0, fload, fcell, fstore, ffieldAddr, evs, T, TI.isAgg, St.ev, St.put, St.rehome, killV, killVs, AB.kill, splice, AV.cells, AV.known, AV.flat, AV.owners, ownersAll, Value.cells, Value.oneCell', List.getD_cons_zero, List.getD_cons_succ, List.set, List.map_cons, List.map_nil, List.length_cons, List.length_nil, List.all_cons, List.all_nil, List.drop_succ_cons, List.drop_zero, List.take_succ_cons, List.take_zero, List.cons_append, List.nil_append, List.append_nil, List.getElem?_cons_zero, List.getElem?_cons_succ, List.replicate, List.getElem?_toArray, true_and, and_true, Bool.and_true, Bool.true_and, Bool.and_self, Bool.false_eq_true, ↓reduceIte, reduceCtorEq, ne_eq, not_false_eq_true, Nat.reduceAdd, Nat.reduceLeDiff, Nat.reduceEqDiff, Nat.le_refl, Nat.add_zero, Nat.zero_add, newCount, drawR_nil, drawR_op, drawP_none, drawQ_some, dstep, isFree, dstore, St.app, bump, isNew]
    refine ⟨by kernel_rfl, ?_⟩
    skip
    (refine callG_use hD rfl ?_; rintro _ rfl)
    rcases setF_code (lives now (wasOf M x.u).l) ⟨x.id, x.st, x.pr, addW now x.ttl⟩ 4 with ⟨he, _⟩ | he
    · rw [← writeL_set (o := Opb.mk 1 x.u x.id x.st x.pr x.ttl x.us) rfl] at he
      simp only [he]
      try simp (maxSteps := 1000000) only [go_skip, go_region, go_seq, go_cond, go_ops_nil, go_op, opK_none, opK_some, contK_some, condK_f, callOf, callK_eq, callJ_nil, callD_fn, fstep, fpre, fstep0, fbinA, fbin, fbin0, fload, fcell, fstore, evs, T, TI.isAgg, St.ev, St.put, splice, AV.cells, AV.known, AV.flat, AV.owners, ownersAll, List.getD_cons_zero, List.getD_cons_succ, List.set, List.map_cons, List.map_nil, List.length_cons, List.length_nil, List.all_cons, List.all_nil, List.drop_succ_cons, List.drop_zero, List.take_succ_cons, List.take_zero, List.cons_append, List.nil_append, List.append_nil, List.getElem?_cons_zero, List.getElem?_cons_succ, true_and, and_true, Bool.and_true, Bool.true_and, Bool.and_self, ↓reduceIte, Nat.reduceAdd, Nat.reduceLT, Nat.le_refl, Nat.zero_add, bne_self_eq_false]
      (refine callG_use hF rfl ?_; rintro _ rfl)
      try simp (maxSteps := 1000000) only [go_region, go_seq, go_ops_nil, go_op, opK_none, opK_some, contK_some, callOf, callK_eq, callJ_nil, callD_fn, fstep, fpre, fstep0, fload, fcell, fstore, ffieldAddr, evs, T, TI.isAgg, St.ev, St.put, splice, AV.cells, AV.known, AV.flat, AV.owners, ownersAll, List.getD_cons_zero, List.getD_cons_succ, List.set, List.map_cons, List.map_nil, List.length_cons, List.length_nil, List.all_cons, List.all_nil, List.drop_succ_cons, List.drop_zero, List.take_succ_cons, List.take_zero, List.headD_cons, List.cons_append, List.nil_append, List.append_nil, List.getElem?_cons_zero, List.getElem?_cons_succ, List.getElem?_toArray, true_and, and_true, Bool.and_true, Bool.true_and, Bool.and_self, Bool.false_eq_true, ↓reduceIte, reduceCtorEq, ne_eq, not_false_eq_true, Nat.reduceAdd, Nat.reduceLT, Nat.le_refl, Nat.zero_add]
      (refine callG_use hG rfl ?_; rintro _ rfl)
      try simp (maxSteps := 1000000) only [go_region, go_seq, go_block, go_loop, go_ops_nil, go_op, opK_none, contK_some, callOf, fstep, fpre, fstep0, fstore, T, St.ev, St.put, splice, AV.cells, AV.known, AV.flat, Value.oneCell', List.getD_cons_zero, List.getD_cons_succ, List.set, List.map_cons, List.map_nil, List.length_cons, List.length_nil, List.all_cons, List.all_nil, List.drop_succ_cons, List.drop_zero, List.take_zero, List.cons_append, List.nil_append, List.append_nil, List.getElem?_cons_zero, List.getElem?_cons_succ, true_and, and_true, Bool.and_true, Bool.true_and, Bool.and_self, Nat.reduceAdd, Nat.reduceLT, Nat.le_refl, Nat.zero_add]
      have hyl := (was_ok hFok x.u).2
      refine loopK_rule tyOk (α := Nat) 8 [4, 8, 19, 20, 22] (fun i => i ≤ (wasOf F x.u).l.length)
        (fun i => ⟨[.any, .any, .any, .any, .ptr 0 0, .any, .any, .any, u64 now, .any, .any, .any, .any, .any, .any, .any, .any, .any, .any, i64 (writeL D (Opb.mk 3 x.u x.id x.st x.pr x.ttl x.us) now 4).2, .ptr 7 0, .any, i64 i, .any, .any, .any, .any, .any, .any, .any, .any, .any, .any, .any, .any, .any, .any, .any, .any, .any, .any, .any, .any, .any, .any, .any, .any, .any, .any, .any, .any, .any, .any, .any, .any, .any, .any, .any, .any, .any, .any, .any, .any, .any, .any, .any, .any, .any, .any, .any, .any, .any, .any, .any, .any, .any, .any, .any, .any, .any, .any, .any, .any, .any, .any, .any, .any, .any, .any, .any, .any, .any, .any, .any, .any, .any, .any, .any, .any, .any, .any, .any, .any, .any, .any, .any, .any, .any, .any, .any, .any, .any, .any, .any, .any, .any, .any, .any, .any, .any, .any, .any, .any, .any, .any, .any, .any, .any, .any, .any, .any], [.box [i64 x.kind, str x.u, i64 x.id, i64 x.st, i64 x.pr, u64 x.ttl, .sl 1 (x.us.map fun x => str x)], ebox M, ebox C, .box [i64 1, str x.u, i64 x.id, i64 x.st, i64 x.pr, u64 x.ttl, .sl 1 (x.us.map fun x => str x)], .box [i64 3, str x.u, i64 x.id, i64 x.st, i64 x.pr, u64 x.ttl, .sl 1 (x.us.map fun x => str x)], ebox D, ebox F, .box [.sl 4 (avs (wasOf F x.u).l), i64 (wasOf F x.u).t.st, i64 (wasOf F x.u).t.pr, i64 (wasOf F x.u).t.n]]⟩)
        (fun i => (wasOf F x.u).l.length - i) 0 (Nat.zero_le _) (Nat.zero_le _) rfl ?_
      intro i hi
      try simp (maxSteps := 1000000) only [go_region, go_seq, go_cond, go_ops_nil, go_op, opK_none, contK_some, callOf, fstep, fpre, fstep0, fbinA, fbin, fbin0, fload, fcell, ffieldAddr, flen, T, TI.isAgg, St.ev, St.put, List.getD_cons_zero, List.getD_cons_succ, List.set, List.length_cons, List.length_nil, List.drop_zero, List.headD_cons, List.getElem?_cons_zero, List.getElem?_cons_succ, List.getElem?_toArray, true_and, Bool.true_and, Bool.false_eq_true, ↓reduceIte, reduceCtorEq, ne_eq, not_false_eq_true, Nat.reduceAdd, Nat.reduceLT, Nat.add_zero, Nat.zero_add, avs_len]
      (first | refine guardV_split ?_ ?_ | refine condK_split ?_ ?_ | refine drawV_split ?_ ?_ | refine condY_split ?_ ?_ | refine guardY_split ?_ ?_) <;> intro h3
      · obtain ⟨hlt, eg, ew, c1⟩ := at_idx (by omega) h3
        have hno : ((wasOf F x.u).l[i].id == x.id) = false := by
          rw [beq_eq_false_iff_ne]
          have hm : (wasOf F x.u).l[i] ∈ (wasOf F x.u).l := List.getElem_mem _
          exact hclr _ hm
        try simp (maxSteps := 1000000) only [go_skip, go_seq, go_block, go_draws, condK_t]
        refine draw_rule tyOk (by rfl) (by simp only [List.length_cons, List.length_nil, Nat.reduceAdd, Nat.zero_le]) (by kernel_rfl) rfl ?_
        try simp (maxSteps := 1000000) only [go_cond, callOf, fstep0, fbinA, fbin, fbin0, fload, fcell, ffieldAddr, findexAddr, T, TI.isAgg, St.ev, St.put, AV.cells, AV.known, List.getD_cons_zero, List.getD_cons_succ, List.set, List.length_cons, List.length_nil, List.drop_succ_cons, List.drop_zero, List.headD_cons, List.append_nil, List.getElem?_cons_zero, List.getElem?_cons_succ, List.replicate, List.getElem?_toArray, true_and, and_true, Bool.and_true, Bool.true_and, Bool.false_eq_true, ↓reduceIte, reduceCtorEq, ne_eq, not_false_eq_true, Nat.reduceAdd, Nat.reduceLT, Nat.add_zero, Nat.zero_add, newCount, drawR_nil, drawR_op, drawP_none, drawQ_some, dstep, isFree, St.app, bump, isNew, eg, c1, avs_len]
        refine ⟨by kernel_rfl, ?_⟩
        try simp (maxSteps := 1000000) only [go_nil, go_skip, go_region, go_blk, go_ops_nil, go_op, opK_none, contK_some, condK_f, callOf, fstep, fpre, fstep0, fbinA, fbin, fbin0, St.ev, St.put, List.getD_cons_zero, List.getD_cons_succ, List.set, true_and, Bool.true_and, hno, ew]
        simp only [loopX_normal, St.trunc, St.keep, truncVs, truncV, AB.trunc, keepV, List.elem_cons, List.elem_nil, List.take_succ_cons, List.take_zero, List.map_cons, List.map_nil, Nat.reduceAdd, Nat.reduceBEq, Nat.reduceLeDiff, Nat.zero_add, Bool.false_eq_true, ↓reduceIte]
        exact ⟨i + 1, hlt, by omega, rfl⟩
      · rcases hg with hg | ⟨hg, hz⟩
        · rw [hg]
          try simp (maxSteps := 1000000) only [go_region, go_seq, go_exit, go_ret, exitK_code, exitK_blk, exitK_nil, go_ops_nil, go_op, go_guard, opK_none, contK_some, condK_f, guardK_eq, guardV_tf, guardV_u, undef, callOf, fstep, fpre, fstep0, fbinA, fbin, fbin0, fpick, St.ev, St.put, List.getD_cons_zero, List.getD_cons_succ, List.set, List.getElem?_cons_zero, List.getElem?_cons_succ, Option.bind_some, List.getElem?_toArray, true_and, Bool.true_and, ↓reduceIte, beq_self_eq_true, loopX_exit]
          apply hK
          simp only [Try.results10, retK, ares, Bool.and_true, Bool.true_and, AV.ofResults, St.trunc, truncVs, truncV, List.getD_cons_zero, List.getD_cons_succ, List.take_zero, List.map_nil, true_and, and_true, List.cons.injEq, exists_eq_left']
        · rw [hg]
          by_cases hz0 : x.ttl = 0
          · have d1 : (x.ttl == 0) = true := by rw [hz0]; rfl
            try simp (maxSteps := 1000000) only [go_region, go_seq, go_exit, go_ret, exitK_code, exitK_blk, exitK_nil, go_ops_nil, go_op, go_guard, opK_none, contK_some, condK_f, guardK_eq, guardV_tt, guardV_tf, guardV_ff, undef, callOf, fstep, fpre, fstep0, fbinA, fbin, fbin0, fload, fcell, ffieldAddr, fpick, T, TI.isAgg, St.ev, St.put, List.getD_cons_zero, List.getD_cons_succ, List.set, List.length_cons, List.length_nil, List.drop_succ_cons, List.drop_zero, List.headD_cons, List.getElem?_cons_zero, List.getElem?_cons_succ, Option.bind_some, List.getElem?_toArray, true_and, Bool.true_and, Bool.false_eq_true, ↓reduceIte, reduceCtorEq, ne_eq, not_false_eq_true, Nat.reduceAdd, Nat.reduceLT, Nat.zero_add, cond_true, cond_false, Int.reduceBEq, beq_self_eq_true, loopX_exit, d1]
            apply hK
            simp only [Try.results10, retK, ares, Bool.and_true, Bool.true_and, AV.ofResults, St.trunc, truncVs, truncV, List.getD_cons_zero, List.getD_cons_succ, List.take_zero, List.map_nil, true_and, and_true, List.cons.injEq, exists_eq_left']
          · have d1 : (x.ttl == 0) = false := by simpa using hz0
            have d2 : (now == 18446744073709551615) = true := by
              rcases hz he with h | h
              · exact absurd h hz0
              · rw [h]; rfl
            try simp (maxSteps := 1000000) only [go_region, go_seq, go_exit, go_ret, exitK_code, exitK_blk, exitK_nil, go_ops_nil, go_op, go_guard, opK_none, contK_some, condK_f, guardK_eq, guardV_tt, guardV_ff, callOf, fstep, fpre, fstep0, fbinA, fbin, fbin0, fload, fcell, ffieldAddr, fpick, T, TI.isAgg, St.ev, St.put, List.getD_cons_zero, List.getD_cons_succ, List.set, List.length_cons, List.length_nil, List.drop_succ_cons, List.drop_zero, List.headD_cons, List.getElem?_cons_zero, List.getElem?_cons_succ, Option.bind_some, List.getElem?_toArray, true_and, Bool.true_and, Bool.false_eq_true, ↓reduceIte, reduceCtorEq, ne_eq, not_false_eq_true, Nat.reduceAdd, Nat.reduceLT, Nat.zero_add, cond_true, cond_false, Int.reduceBEq, beq_self_eq_true, loopX_exit, d1, d2]
            apply hK
            simp only [Try.results10, retK, ares, Bool.and_true, Bool.true_and, AV.ofResults, St.trunc, truncVs, truncV, List.getD_cons_zero, List.getD_cons_succ, List.take_zero, List.map_nil, true_and, and_true, List.cons.injEq, exists_eq_left']
    · rw [← writeL_set (o := Opb.mk 1 x.u x.id x.st x.pr x.ttl x.us) rfl] at he
      simp only [he]
      try simp (maxSteps := 1000000) only [go_region, go_seq, go_cond, go_ret, go_ops_nil, go_op, opK_none, contK_some, condK_t, callOf, fstep, fpre, fstep0, fbinA, fbin, fbin0, fstore, T, St.ev, St.put, splice, AV.cells, AV.known, AV.flat, List.getD_cons_zero, List.getD_cons_succ, List.set, List.map_cons, List.map_nil, List.length_cons, List.length_nil, List.all_cons, List.all_nil, List.drop_succ_cons, List.drop_zero, List.take_zero, List.cons_append, List.nil_append, List.append_nil, List.getElem?_cons_zero, List.getElem?_cons_succ, true_and, and_true, Bool.and_true, Bool.true_and, Bool.and_self, Nat.reduceAdd, Nat.reduceLT, Nat.le_refl, Nat.zero_add, Int.reduceBNe, beq_self_eq_true]
      apply hK
      simp only [Try.results10, retK, ares, Bool.and_true, Bool.true_and, AV.ofResults, St.trunc, truncVs, truncV, List.getD_cons_zero, List.getD_cons_succ, List.take_zero, List.map_nil, true_and, and_true, List.cons.injEq, exists_eq_left']
  · try simp (maxSteps := 1000000) only [go_skip, go_seq, go_cond, go_draws, condK_f, undef, callOf, fstep0, newF, fpick, St.ev, St.put, List.getD_cons_zero, List.getD_cons_succ, List.set, List.getElem?_cons_zero, List.getElem?_cons_succ, Option.bind_some, List.getElem?_toArray, true_and, Bool.true_and, Bool.or_false, Bool.false_eq_true, ↓reduceIte, Nat.reduceAdd, Nat.reduceBEq, drawR_nil, drawR_op, drawR_guard, drawW_some, drawV_ft, drawP_none, drawQ_some, dstep, isFree, St.app, bump, isNew]
    refine ⟨by kernel_rfl, ?_⟩
    skip
    refine draw_rule tyOk (by rfl) (by simp only [List.length_cons, List.length_nil, Nat.reduceAdd, Nat.zero_le]) (by kernel_rfl) rfl ?_
    try simp (maxSteps := 1000000) only [go_region, go_seq, go_ops_nil, go_op, opK_none, opK_some, contK_some, callOf, callK_eq, callJ_nil, callD_fn, fstep, fpre, fstep0, fload, fcell, fstore, ffieldAddr, evs, T, TI.isAgg, St.ev, St.put, St.rehome, killV, killVs, AB.kill, splice, AV.cells, AV.known, AV.flat, AV.owners, ownersAll, Value.cells, Value.oneCell', List.getD_cons_zero, List.getD_cons_succ, List.set, List.map_cons, List.map_nil, List.length_cons, List.length_nil, List.all_cons, List.all_nil, List.drop_succ_cons, List.drop_zero, List.take_succ_cons, List.take_zero, List.cons_append, List.nil_append, List.append_nil, List.getElem?_cons_zero, List.getElem?_cons_succ, List.replicate, List.getElem?_toArray, true_and, and_true, Bool.and_true, Bool.true_and, Bool.and_self, Bool.false_eq_true, ↓reduceIte, reduceCtorEq, ne_eq, not_false_eq_true, Nat.reduceAdd, Nat.reduceLeDiff, Nat.reduceEqDiff, Nat.le_refl, Nat.add_zero, Nat.zero_add, newCount, drawR_nil, drawR_op, drawP_none, drawQ_some, dstep, isFree, dstore, St.app, bump, isNew]
    refine ⟨by kernel_rfl, ?_⟩
    skip
    (refine callG_use hD rfl ?_; rintro _ rfl)
    rcases setF_code (lives now (wasOf M x.u).l) ⟨x.id, x.st, x.pr, addW now x.ttl⟩ 4 with ⟨he, _⟩ | he
    · rw [← writeL_set (o := Opb.mk 1 x.u x.id x.st x.pr x.ttl x.us) rfl] at he
      simp only [he]
      try simp (maxSteps := 1000000) only [go_skip, go_region, go_seq, go_cond, go_ops_nil, go_op, opK_none, opK_some, contK_some, condK_f, callOf, callK_eq, callJ_nil, callD_fn, fstep, fpre, fstep0, fbinA, fbin, fbin0, fload, fcell, fstore, evs, T, TI.isAgg, St.ev, St.put, splice, AV.cells, AV.known, AV.flat, AV.owners, ownersAll, List.getD_cons_zero, List.getD_cons_succ, List.set, List.map_cons, List.map_nil, List.length_cons, List.length_nil, List.all_cons, List.all_nil, List.drop_succ_cons, List.drop_zero, List.take_succ_cons, List.take_zero, List.cons_append, List.nil_append, List.append_nil, List.getElem?_cons_zero, List.getElem?_cons_succ, true_and, and_true, Bool.and_true, Bool.true_and, Bool.and_self, ↓reduceIte, Nat.reduceAdd, Nat.reduceLT, Nat.le_refl, Nat.zero_add, bne_self_eq_false]
      (refine callG_use hF rfl ?_; rintro _ rfl)
      try simp (maxSteps := 1000000) only [go_region, go_seq, go_ops_nil, go_op, opK_none, opK_some, contK_some, callOf, callK_eq, callJ_nil, callD_fn, fstep, fpre, fstep0, fload, fcell, fstore, ffieldAddr, evs, T, TI.isAgg, St.ev, St.put, splice, AV.cells, AV.known, AV.flat, AV.owners, ownersAll, List.getD_cons_zero, List.getD_cons_succ, List.set, List.map_cons, List.map_nil, List.length_cons, List.length_nil, List.all_cons, List.all_nil, List.drop_succ_cons, List.drop_zero, List.take_succ_cons, List.take_zero, List.headD_cons, List.cons_append, List.nil_append, List.append_nil, List.getElem?_cons_zero, List.getElem?_cons_succ, List.getElem?_toArray, true_and, and_true, Bool.and_true, Bool.true_and, Bool.and_self, Bool.false_eq_true, ↓reduceIte, reduceCtorEq, ne_eq, not_false_eq_true, Nat.reduceAdd, Nat.reduceLT, Nat.le_refl, Nat.zero_add]
      (refine callG_use hG rfl ?_; rintro _ rfl)
      try simp (maxSteps := 1000000) only [go_region, go_seq, go_block, go_loop, go_ops_nil, go_op, opK_none, contK_some, callOf, fstep, fpre, fstep0, fstore, T, St.ev, St.put, splice, AV.cells, AV.known, AV.flat, Value.oneCell', List.getD_cons_zero, List.getD_cons_succ, List.set, List.map_cons, List.map_nil, List.length_cons, List.length_nil, List.all_cons, List.all_nil, List.drop_succ_cons, List.drop_zero, List.take_zero, List.cons_append, List.nil_append, List.append_nil, List.getElem?_cons_zero, List.getElem?_cons_succ, true_and, and_true, Bool.and_true, Bool.true_and, Bool.and_self, Nat.reduceAdd, Nat.reduceLT, Nat.le_refl, Nat.zero_add]
      have hyl := (was_ok hFok x.u).2
      refine loopK_rule tyOk (α := Nat) 8 [4, 8, 19, 20, 22] (fun i => i ≤ (wasOf F x.u).l.length)
        (fun i => ⟨[.any, .any, .any, .any, .ptr 0 0, .any, .any, .any, u64 now, .any, .any, .any, .any, .any, .any, .any, .any, .any, .any, i64 (writeL D (Opb.mk 3 x.u x.id x.st x.pr x.ttl x.us) now 4).2, .ptr 7 0, .any, i64 i, .any, .any, .any, .any, .any, .any, .any, .any, .any, .any, .any, .any, .any, .any, .any, .any, .any, .any, .any, .any, .any, .any, .any, .any, .any, .any, .any, .any, .any, .any, .any, .any, .any, .any, .any, .any, .any, .any, .any, .any, .any, .any, .any, .any, .any, .any, .any, .any, .any, .any, .any, .any, .any, .any, .any, .any, .any, .any, .any, .any, .any, .any, .any, .any, .any, .any, .any, .any, .any, .any, .any, .any, .any, .any, .any, .any, .any, .any, .any, .any, .any, .any, .any, .any, .any, .any, .any, .any, .any, .any, .any, .any, .any, .any, .any, .any, .any, .any, .any, .any, .any, .any, .any, .any, .any, .any, .any, .any], [.box [i64 x.kind, str x.u, i64 x.id, i64 x.st, i64 x.pr, u64 x.ttl, .sl 1 (x.us.map fun x => str x)], ebox M, ebox C, .box [i64 1, str x.u, i64 x.id, i64 x.st, i64 x.pr, u64 x.ttl, .sl 1 (x.us.map fun x => str x)], .box [i64 3, str x.u, i64 x.id, i64 x.st, i64 x.pr, u64 x.ttl, .sl 1 (x.us.map fun x => str x)], ebox D, ebox F, .box [.sl 4 (avs (wasOf F x.u).l), i64 (wasOf F x.u).t.st, i64 (wasOf F x.u).t.pr, i64 (wasOf F x.u).t.n]]⟩)
        (fun i => (wasOf F x.u).l.length - i) 0 (Nat.zero_le _) (Nat.zero_le _) rfl ?_
      intro i hi
      try simp (maxSteps := 1000000) only [go_region, go_seq, go_cond, go_ops_nil, go_op, opK_none, contK_some, callOf, fstep, fpre, fstep0, fbinA, fbin, fbin0, fload, fcell, ffieldAddr, flen, T, TI.isAgg, St.ev, St.put, List.getD_cons_zero, List.getD_cons_succ, List.set, List.length_cons, List.length_nil, List.drop_zero, List.headD_cons, List.getElem?_cons_zero, List.getElem?_cons_succ, List.getElem?_toArray, true_and, Bool.true_and, Bool.false_eq_true, ↓reduceIte, reduceCtorEq, ne_eq, not_false_eq_true, Nat.reduceAdd, Nat.reduceLT, Nat.add_zero, Nat.zero_add, avs_len]
      (first | refine guardV_split ?_ ?_ | refine condK_split ?_ ?_ | refine drawV_split ?_ ?_ | refine condY_split ?_ ?_ | refine guardY_split ?_ ?_) <;> intro h3
      · obtain ⟨hlt, eg, ew, c1⟩ := at_idx (by omega) h3
        have hno : ((wasOf F x.u).l[i].id == x.id) = false := by
          rw [beq_eq_false_iff_ne]
          have hm : (wasOf F x.u).l[i] ∈ (wasOf F x.u).l := List.getElem_mem _
          exact hclr _ hm
        try simp (maxSteps := 1000000) only [go_skip, go_seq, go_block, go_draws, condK_t]
        refine draw_rule tyOk (by rfl) (by simp only [List.length_cons, List.length_nil, Nat.reduceAdd, Nat.zero_le]) (by kernel_rfl) rfl ?_
        try simp (maxSteps := 1000000) only [go_cond, callOf, fstep0, fbinA, fbin, fbin0, fload, fcell, ffieldAddr, findexAddr, T, TI.isAgg, St.ev, St.put, AV.cells, AV.known, List.getD_cons_zero, List.getD_cons_succ, List.set, List.length_cons, List.length_nil, List.drop_succ_cons, List.drop_zero, List.headD_cons, List.append_nil, List.getElem?_cons_zero, List.getElem?_cons_succ, List.replicate, List.getElem?_toArray, true_and, and_true, Bool.and_true, Bool.true_and, Bool.false_eq_true, ↓reduceIte, reduceCtorEq, ne_eq, not_false_eq_true, Nat.reduceAdd, Nat.reduceLT, Nat.add_zero, Nat.zero_add, newCount, drawR_nil, drawR_op, drawP_none, drawQ_some, dstep, isFree, St.app, bump, isNew, eg, c1, avs_len]
        refine ⟨by kernel_rfl, ?_⟩
        try simp (maxSteps := 1000000) only [go_nil, go_skip, go_region, go_blk, go_ops_nil, go_op, opK_none, contK_some, condK_f, callOf, fstep, fpre, fstep0, fbinA, fbin, fbin0, St.ev, St.put, List.getD_cons_zero, List.getD_cons_succ, List.set, true_and, Bool.true_and, hno, ew]
        simp only [loopX_normal, St.trunc, St.keep, truncVs, truncV, AB.trunc, keepV, List.elem_cons, List.elem_nil, List.take_succ_cons, List.take_zero, List.map_cons, List.map_nil, Nat.reduceAdd, Nat.reduceBEq, Nat.reduceLeDiff, Nat.zero_add, Bool.false_eq_true, ↓reduceIte]
        exact ⟨i + 1, hlt, by omega, rfl⟩
      · rcases hg with hg | ⟨hg, hz⟩
        · rw [hg]
          try simp (maxSteps := 1000000) only [go_region, go_seq, go_exit, go_ret, exitK_code, exitK_blk, exitK_nil, go_ops_nil, go_op, go_guard, opK_none, contK_some, condK_f, guardK_eq, guardV_tf, guardV_u, undef, callOf, fstep, fpre, fstep0, fbinA, fbin, fbin0, fpick, St.ev, St.put, List.getD_cons_zero, List.getD_cons_succ, List.set, List.getElem?_cons_zero, List.getElem?_cons_succ, Option.bind_some, List.getElem?_toArray, true_and, Bool.true_and, ↓reduceIte, beq_self_eq_true, loopX_exit]
          apply hK
          simp only [Try.results10, retK, ares, Bool.and_true, Bool.true_and, AV.ofResults, St.trunc, truncVs, truncV, List.getD_cons_zero, List.getD_cons_succ, List.take_zero, List.map_nil, true_and, and_true, List.cons.injEq, exists_eq_left']
        · rw [hg]
          by_cases hz0 : x.ttl = 0
          · have d1 : (x.ttl == 0) = true := by rw [hz0]; rfl
            try simp (maxSteps := 1000000) only [go_region, go_seq, go_exit, go_ret, exitK_code, exitK_blk, exitK_nil, go_ops_nil, go_op, go_guard, opK_none, contK_some, condK_f, guardK_eq, guardV_tt, guardV_tf, guardV_ff, undef, callOf, fstep, fpre, fstep0, fbinA, fbin, fbin0, fload, fcell, ffieldAddr, fpick, T, TI.isAgg, St.ev, St.put, List.getD_cons_zero, List.getD_cons_succ, List.set, List.length_cons, List.length_nil, List.drop_succ_cons, List.drop_zero, List.headD_cons, List.getElem?_cons_zero, List.getElem?_cons_succ, Option.bind_some, List.getElem?_toArray, true_and, Bool.true_and, Bool.false_eq_true, ↓reduceIte, reduceCtorEq, ne_eq, not_false_eq_true, Nat.reduceAdd, Nat.reduceLT, Nat.zero_add, cond_true, cond_false, Int.reduceBEq, beq_self_eq_true, loopX_exit, d1]
            apply hK
            simp only [Try.results10, retK, ares, Bool.and_true, Bool.true_and, AV.ofResults, St.trunc, truncVs, truncV, List.getD_cons_zero, List.getD_cons_succ, List.take_zero, List.map_nil, true_and, and_true, List.cons.injEq, exists_eq_left']
          · have d1 : (x.ttl == 0) = false := by simpa using hz0
            have d2 : (now == 18446744073709551615) = true := by
              rcases hz he with h | h
              · exact absurd h hz0
              · rw [h]; rfl
            try simp (maxSteps := 1000000) only [go_region, go_seq, go_exit, go_ret, exitK_code, exitK_blk, exitK_nil, go_ops_nil, go_op, go_guard, opK_none, contK_some, condK_f, guardK_eq, guardV_tt, guardV_ff, callOf, fstep, fpre, fstep0, fbinA, fbin, fbin0, fload, fcell, ffieldAddr, fpick, T, TI.isAgg, St.ev, St.put, List.getD_cons_zero, List.getD_cons_succ, List.set, List.length_cons, List.length_nil, List.drop_succ_cons, List.drop_zero, List.headD_cons, List.getElem?_cons_zero, List.getElem?_cons_succ, Option.bind_some, List.getElem?_toArray, true_and, Bool.true_and, Bool.false_eq_true, ↓reduceIte, reduceCtorEq, ne_eq, not_false_eq_true, Nat.reduceAdd, Nat.reduceLT, Nat.zero_add, cond_true, cond_false, Int.reduceBEq, beq_self_eq_true, loopX_exit, d1, d2]
            apply hK
            simp only [Try.results10, retK, ares, Bool.and_true, Bool.true_and, AV.ofResults, St.trunc, truncVs, truncV, List.getD_cons_zero, List.getD_cons_succ, List.take_zero, List.map_nil, true_and, and_true, List.cons.injEq, exists_eq_left']
    · rw [← writeL_set (o := Opb.mk 1 x.u x.id x.st x.pr x.ttl x.us) rfl] at he
      simp only [he]
      try simp (maxSteps := 1000000) only [go_region, go_seq, go_cond, go_ret, go_ops_nil, go_op, opK_none, contK_some, condK_t, callOf, fstep, fpre, fstep0, fbinA, fbin, fbin0, fstore, T, St.ev, St.put, splice, AV.cells, AV.known, AV.flat, List.getD_cons_zero, List.getD_cons_succ, List.set, List.map_cons, List.map_nil, List.length_cons, List.length_nil, List.all_cons, List.all_nil, List.drop_succ_cons, List.drop_zero, List.take_zero, List.cons_append, List.nil_append, List.append_nil, List.getElem?_cons_zero, List.getElem?_cons_succ, true_and, and_true, Bool.and_true, Bool.true_and, Bool.and_self, Nat.reduceAdd, Nat.reduceLT, Nat.le_refl, Nat.zero_add, Int.reduceBNe, beq_self_eq_true]
      apply hK
      simp only [Try.results10, retK, ares, Bool.and_true, Bool.true_and, AV.ofResults, St.trunc, truncVs, truncV, List.getD_cons_zero, List.getD_cons_succ, List.take_zero, List.map_nil, true_and, and_true, List.cons.injEq, exists_eq_left']
def shapesBookOnly : List (Bool × List Lf) := [(false, [.sl 9 true [.bool, .int .i64, .str, .int .i64, .int .i64, .int .i64, .int .u64, .sl 1 false [.str], .int .u64]]), (true, [.int .i64, .str, .int .i64, .int .i64, .int .i64, .int .u64, .sl 1 false [.str]]), (false, [.str])]
theorem shapesBookOnly_ok : argShapes T 6 [65, 73, 9] = some shapesBookOnly := by kernel_rfl
theorem law_BookOnly (xs : List AV) (h : argsFit shapesBookOnly xs) : PCall P 10 xs (fun x => x = .v (.bool true)) := by
  obtain ⟨_, _, rfl, ⟨_, _, rfl, ⟨ys, rfl, hlen, hys⟩, rfl⟩, x, _, rfl, hx, _, _, rfl, ⟨_, _, rfl, ⟨u, rfl, _⟩, rfl⟩, rfl⟩ := h
  obtain ⟨l, rfl, hby⟩ := fits_bacts2 hys
  obtain ⟨o, ho, ht⟩ := fits_op2 hx
  rw [bacts_len] at hlen
  have := law_only l o u hlen hby ht
  rw [← ho] at this
  exact this
end Go.Proofs.Ytljgfapbbhbbpaa
