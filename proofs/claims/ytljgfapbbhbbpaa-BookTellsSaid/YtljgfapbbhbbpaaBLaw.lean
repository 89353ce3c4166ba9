/- What the statements of the layer book use alike. -/
import Derived.Test.YtljgfapbbhbbpaaBMade
namespace Go.Proofs.Ytljgfapbbhbbpaa
open Go Go.Proofs.Ytljgfapbbhbbpaa.Sym
set_option maxRecDepth 100000
set_option linter.unusedSimpArgs false
set_option linter.unusedVariables false

def annOp : Opb := ⟨1, ⟨#[97, 110, 110]⟩, 1, 3, 0, 5, []⟩
def annBk : Bk := [(⟨#[97, 110, 110]⟩, ⟨[⟨1, 3, 0, 15⟩], ⟨3, 0, 1⟩⟩)]
theorem ann_B : writeB [] annOp 10 4 = annBk := by rfl
theorem ann_C : writeC [] annOp 10 4 = [⟨⟨#[97, 110, 110]⟩, ⟨0, 0, 0⟩, ⟨3, 0, 1⟩⟩] := by rfl
theorem ann_E : (writeL [] annOp 10 4).2 = 0 := by rfl
theorem ann_ok : bookOk 1 annBk := by
  have := book_write (n := 0) (m := []) ⟨List.Pairwise.nil, Nat.le_refl _, fun p hp => by cases hp⟩ annOp 10 4
  rwa [ann_B] at this
theorem ann_S : sweepF annBk 15 = ([], [⟨⟨#[97, 110, 110]⟩, ⟨3, 0, 1⟩, ⟨0, 0, 0⟩⟩]) := by
  have hl : lives 15 [(⟨1, 3, 0, 15⟩ : Ses)] = [] := by rfl
  have h1 : settleB annBk ⟨#[97, 110, 110]⟩ (lives 15 [⟨1, 3, 0, 15⟩]) 15 = [] := by
    rw [hl, settleB, if_pos (show ([] : List Ses).length = 0 from rfl)]
    exact without_mid (A := []) (D := []) ordS eqS_iff ann_ok.1
  have h2 : settleC annBk ⟨#[97, 110, 110]⟩ (lives 15 [⟨1, 3, 0, 15⟩]) 15 = [⟨⟨#[97, 110, 110]⟩, ⟨3, 0, 1⟩, ⟨0, 0, 0⟩⟩] := by
    have hw : wasOf annBk ⟨#[97, 110, 110]⟩ = ⟨[⟨1, 3, 0, 15⟩], ⟨3, 0, 1⟩⟩ := by
      rw [wasOf, get_mem ordS eqS_iff ann_ok.1 (k := ⟨#[97, 110, 110]⟩) (v := ⟨[⟨1, 3, 0, 15⟩], ⟨3, 0, 1⟩⟩) (by simp [annBk])]
    rw [settleC, hw, hl]; rfl
  show (settleB annBk ⟨#[97, 110, 110]⟩ (lives 15 [⟨1, 3, 0, 15⟩]) 15, [] ++ settleC annBk ⟨#[97, 110, 110]⟩ (lives 15 [⟨1, 3, 0, 15⟩]) 15) = _
  rw [h1, h2]; rfl
theorem law08_awake : PCall P 33 [] (fun x => x = bool true) := by
  refine pcall_go tyOk Try.func33 rfl rfl ?_
  intro K hK
  simp only [Try.ntmps33, List.length_nil, Nat.reduceSub, List.replicate, List.nil_append]
  have w0 := write_call 0 [] annOp 10 4 ⟨List.Pairwise.nil, Nat.le_refl _, fun p hp => by cases hp⟩ (by decide)
  rw [ann_B, ann_C, ann_E] at w0
  have w1 : PCall P 37 [.agg [.v (.slice none 0 0), .v (.slice none 0 0)], .agg [i64 1, str ⟨#[97, 110, 110]⟩, i64 1, i64 3, i64 0, u64 5, .v (.slice none 0 0)], u64 10, i64 4]
      (fun x => x = .tup [.agg [.sl 1 [str ⟨#[97, 110, 110]⟩], .sl 4 [.agg [.sl 4 (avs [⟨1, 3, 0, 15⟩]), i64 3, i64 0, i64 1]]], .sl 7 [.agg [str ⟨#[97, 110, 110]⟩, i64 0, i64 0, i64 0, i64 3, i64 0, i64 1]], i64 0]) :=
    PCall.weakArgs w0 ⟨_, _, rfl, nil_se, _, _, rfl, .inr ⟨_, rfl, _, _, rfl, weak_refl _, _, _, rfl, weak_refl _, _, _, rfl, weak_refl _, _, _, rfl, weak_refl _, _, _, rfl, weak_refl _, _, _, rfl, weak_refl _, _, _, rfl, weak_nil 1, rfl⟩, weaks_refl _⟩
  have s0 := sweep_call 1 annBk 15 ann_ok (by decide)
  rw [ann_S] at s0
  have s1 : PCall P 36 [.agg [.sl 1 [str ⟨#[97, 110, 110]⟩], .sl 4 [.agg [.sl 4 (avs [⟨1, 3, 0, 15⟩]), i64 3, i64 0, i64 1]]], u64 15]
      (fun x => x = .tup [.agg [.sl 1 [], .sl 4 []], .sl 7 [.agg [str ⟨#[97, 110, 110]⟩, i64 3, i64 0, i64 1, i64 0, i64 0, i64 0]]]) := s0
  have hlen : PCall P 43 [.agg [.sl 1 [], .sl 4 []]] (fun x => x = i64 ((0 : Nat) : Int)) := len_call_se []
  have c0 : (((0 : Nat) : Int) == 0) = true := by decide
  have c1 : (((1 : Nat) : Int) == 1) = true := by decide
  have c2 : ((1 : Int) == 1) = true := by decide
  have c3 : ((3 : Int) == 3) = true := by decide
  have c4 : ((0 : Int) == 0) = true := by decide
  have g0 : ∀ x : AV, [x].getD (Int.toNat 0) .any = x := fun x => rfl
  have l0 : Int.toNat 0 < 1 := by decide
  try simp (maxSteps := 1000000) only [go_region, go_seq, go_ops_nil, go_op, opK_none, opK_some, contK_some, callOf, callK_eq, callJ_nil, callD_fn, fstep, fpre, fstep0, fload, fcell, ffill, fieldPlaces, fieldsOk, fbuild, evParts, evs, T, TI.isAgg, St.ev, St.put, splice, AV.cells, AV.known, AV.owners, ownersAll, Value.cells, List.getD_cons_zero, List.getD_cons_succ, List.set, List.map_cons, List.map_nil, List.length_cons, List.length_nil, List.drop_succ_cons, List.drop_zero, List.take_succ_cons, List.take_zero, List.cons_append, List.nil_append, List.append_nil, List.getElem?_cons_zero, List.getElem?_cons_succ, Option.isSome_some, List.getElem?_toArray, true_and, and_true, Bool.and_true, Bool.true_and, Bool.and_self, ↓reduceIte, Nat.reduceAdd, Nat.reduceLeDiff, Nat.le_refl, Nat.zero_add]
  (refine callG_use w1 rfl ?_; rintro _ rfl)
  try simp (maxSteps := 1000000) only [go_region, go_seq, go_ops_nil, go_op, opK_none, opK_some, contK_some, callOf, callK_eq, callJ_nil, callD_fn, fstep, fpre, fstep0, fload, fcell, fstore, evs, T, TI.isAgg, St.ev, St.put, splice, AV.cells, AV.known, AV.flat, AV.owners, ownersAll, List.getD_cons_zero, List.getD_cons_succ, List.set, List.map_cons, List.map_nil, List.length_cons, List.length_nil, List.all_cons, List.all_nil, List.drop_succ_cons, List.drop_zero, List.take_succ_cons, List.take_zero, List.cons_append, List.nil_append, List.append_nil, List.getElem?_cons_zero, List.getElem?_cons_succ, true_and, and_true, Bool.and_true, Bool.true_and, Bool.and_self, ↓reduceIte, Nat.reduceAdd, Nat.reduceLT, Nat.le_refl, Nat.zero_add]
  (refine callG_use s1 rfl ?_; rintro _ rfl)
  try simp (maxSteps := 1000000) only [go_region, go_seq, go_ops_nil, go_op, go_guard, opK_none, opK_some, contK_some, guardK_eq, guardV_tt, callOf, callK_eq, callJ_nil, callD_fn, fstep, fpre, fstep0, fbinA, fbin, fbin0, fload, fcell, fstore, ffieldAddr, findexAddr, flen, evs, fpick, T, TI.isAgg, St.ev, St.put, splice, AV.cells, AV.known, AV.flat, AV.owners, ownersAll, List.getD_cons_zero, List.getD_cons_succ, List.set, List.map_cons, List.map_nil, List.length_cons, List.length_nil, List.all_cons, List.all_nil, List.drop_succ_cons, List.drop_zero, List.take_succ_cons, List.take_zero, List.headD_cons, List.cons_append, List.nil_append, List.append_nil, List.getElem?_cons_zero, List.getElem?_cons_succ, Option.bind_some, List.getElem?_toArray, true_and, and_true, Bool.and_true, Bool.true_and, Bool.and_self, Bool.false_eq_true, ↓reduceIte, reduceCtorEq, ne_eq, not_false_eq_true, Nat.reduceAdd, Nat.reduceLT, Nat.le_refl, Nat.zero_add, cond_true, Int.reduceLE, beq_self_eq_true, c1, g0, l0]
  (refine callG_use hlen rfl ?_; rintro _ rfl)
  try simp (maxSteps := 1000000) only [go_ret, go_ops_nil, go_op, go_guard, opK_none, contK_some, guardK_eq, guardV_tt, callOf, fstep, fpre, fstep0, fbinA, fbin, fbin0, fpick, St.ev, St.put, List.getD_cons_zero, List.getD_cons_succ, List.set, List.getElem?_cons_zero, List.getElem?_cons_succ, Option.bind_some, List.getElem?_toArray, true_and, Bool.true_and, cond_true, c0]
  apply hK
  simp only [Try.results33, retK, ares, Bool.and_true, Bool.true_and, AV.ofResults, St.trunc, truncVs, truncV, List.getD_cons_zero, List.take_zero, List.map_nil, true_and, and_true, List.cons.injEq, exists_eq_left']
  try exact congrArg bool c0

def longB (l : List ActB) : Bool := decide (120 < l.length) || l.any (fun a => decide (100 < (a.op.u.size : Int)))
theorem longB_few {l : List ActB} (h : longB l = false) : l.length ≤ 120 := by
  simp only [longB, Bool.or_eq_false_iff, decide_eq_false_iff_not] at h
  omega
theorem law08_long (l : List ActB) (hl : l.length ≤ maxLen) : PCall P 34 [.sl 9 (bacts l)] (fun x => x = bool (longB l)) := by
  simp only [maxLen] at hl
  refine pcall_go tyOk Try.func34 rfl rfl ?_
  intro K hK
  simp only [Try.ntmps34, List.length_cons, List.length_nil, Nat.reduceAdd, Nat.reduceSub, List.replicate, List.cons_append, List.nil_append]
  try simp (maxSteps := 1000000) only [go_region, go_seq, go_cond, go_ops_nil, go_op, opK_none, contK_some, callOf, fstep, fpre, fstep0, fbinA, fbin, fbin0, flen, T, St.ev, St.put, List.getD_cons_zero, List.getD_cons_succ, List.set, true_and, Bool.true_and, bacts_len]
  (first | refine guardV_split ?_ ?_ | refine condK_split ?_ ?_ | refine drawV_split ?_ ?_ | refine condY_split ?_ ?_ | refine guardY_split ?_ ?_) <;> intro h0
  · have h0' : decide (120 < l.length) = true := by simp at h0 ⊢; omega
    try simp (maxSteps := 1000000) only [go_region, go_seq, go_ret, go_ops_nil, go_op, opK_none, contK_some, condK_t, callOf, fstep, fpre, fstep0, St.ev, St.put, List.set, true_and, Bool.true_and]
    apply hK
    simp only [Try.results34, retK, ares, List.take_nil, Bool.and_true, Bool.true_and, AV.ofResults, St.trunc, truncVs, truncV, List.getD_cons_zero, List.getD_cons_succ, List.map_nil, true_and, and_true, List.cons.injEq, exists_eq_left']
    rw [longB, h0', Bool.true_or]
  · have h0' : decide (120 < l.length) = false := by simp at h0 ⊢; omega
    try simp (maxSteps := 1000000) only [go_skip, go_region, go_seq, go_block, go_loop, go_ops_nil, go_op, opK_none, contK_some, condK_f, callOf, fstep, fpre, fstep0, St.ev, St.put, List.set, true_and, Bool.true_and]
    refine loopK_rule tyOk (α := Nat) 0 [0, 3] (fun i => i ≤ l.length ∧ (l.take i).any (fun a => decide (100 < (a.op.u.size : Int))) = false)
      (fun i => ⟨[.sl 9 (bacts l), .any, .any, i64 i, .any, .any, .any, .any, .any, .any, .any, .any, .any, .any, .any, .any, .any, .any, .any, .any, .any], []⟩)
      (fun i => l.length - i) 0 (Nat.zero_le _) ⟨Nat.zero_le _, rfl⟩ rfl ?_
    rintro i ⟨hi, ha⟩
    try simp (maxSteps := 1000000) only [go_region, go_seq, go_cond, go_ops_nil, go_op, opK_none, contK_some, callOf, fstep, fpre, fstep0, fbinA, fbin, fbin0, flen, T, St.ev, St.put, List.getD_cons_zero, List.getD_cons_succ, List.set, true_and, Bool.true_and, bacts_len]
    (first | refine guardV_split ?_ ?_ | refine condK_split ?_ ?_ | refine drawV_split ?_ ?_ | refine condY_split ?_ ?_ | refine guardY_split ?_ ?_) <;> intro h <;> try simp (maxSteps := 1000000) only [go_skip, go_region, go_seq, go_block, go_exit, go_ret, exitK_code, exitK_blk, exitK_nil, go_ops_nil, go_op, opK_none, contK_some, condK_t, condK_f, callOf, fstep, fpre, fpost, fstep0, fload, fcell, ffieldAddr, findexAddr, flen, T, TI.isAgg, St.ev, St.put, AV.cells, AV.known, Value.cells, List.getD_cons_zero, List.getD_cons_succ, List.set, List.getElem?_cons_zero, List.getElem?_cons_succ, List.getElem?_toArray, true_and, Bool.true_and, Bool.false_eq_true, ↓reduceIte, reduceCtorEq, ne_eq, not_false_eq_true, loopX_exit]
    · obtain ⟨hlt, eg, ew, c1⟩ := act_idx (by omega) h
      try simp (maxSteps := 1000000) only [go_cond, go_ops_nil, go_op, opK_none, contK_some, callOf, fstep, fpre, fstep0, fbinA, fbin, fbin0, St.ev, St.put, List.getD_cons_zero, List.getD_cons_succ, List.set, List.length_cons, List.length_nil, List.drop_succ_cons, List.drop_zero, List.headD_cons, true_and, and_true, Bool.and_true, Bool.true_and, Nat.reduceAdd, Nat.reduceLT, Nat.zero_add, eg, c1, bacts_len]
      (first | refine guardV_split ?_ ?_ | refine condK_split ?_ ?_ | refine drawV_split ?_ ?_ | refine condY_split ?_ ?_ | refine guardY_split ?_ ?_) <;> intro h2
      · try simp (maxSteps := 1000000) only [go_region, go_seq, go_ret, go_ops_nil, go_op, opK_none, contK_some, condK_t, callOf, fstep, fpre, fstep0, St.ev, St.put, List.set, true_and, Bool.true_and, loopX_ret]
        apply hK
        simp only [Try.results34, retK, ares, List.take_nil, Bool.and_true, Bool.true_and, AV.ofResults, St.trunc, truncVs, truncV, List.getD_cons_zero, List.getD_cons_succ, List.map_nil, true_and, and_true, List.cons.injEq, exists_eq_left']
        have : l.any (fun a => decide (100 < (a.op.u.size : Int))) = true := List.any_eq_true.2 ⟨l[i], List.getElem_mem _, h2⟩
        rw [longB, this, Bool.or_true]
      · try simp (maxSteps := 1000000) only [go_nil, go_skip, go_region, go_blk, go_ops_nil, go_op, opK_none, contK_some, condK_f, callOf, fstep, fpre, fstep0, fbinA, fbin, fbin0, St.ev, St.put, List.getD_cons_zero, List.getD_cons_succ, List.set, true_and, Bool.true_and, ew]
        simp only [loopX_normal, St.trunc, St.keep, truncVs, truncV, keepV, List.elem_cons, List.elem_nil, List.take_zero, List.map_nil, Nat.reduceAdd, Nat.reduceBEq, Nat.zero_add, Bool.false_eq_true, ↓reduceIte]
        refine ⟨i + 1, ⟨hlt, ?_⟩, by omega, rfl⟩
        rw [take_one hlt, List.any_append, ha]
        simpa using h2
    · obtain rfl := at_end hi h
      rw [List.take_length] at ha
      apply hK
      simp only [Try.results34, retK, ares, List.take_nil, Bool.and_true, Bool.true_and, AV.ofResults, St.trunc, truncVs, truncV, List.getD_cons_zero, List.getD_cons_succ, List.map_nil, true_and, and_true, List.cons.injEq, exists_eq_left']
      rw [longB, h0', ha]; rfl

def usr (p : ByteArray × En) : AV := .agg [str p.1, .sl 4 (avs p.2.l), i64 p.2.t.st, i64 p.2.t.pr, i64 p.2.t.n]
def usrs (m : Bk) : List AV := m.map usr
theorem usrs_len (m : Bk) : (usrs m).length = m.length := by simp [usrs]
theorem usrs_snoc (m : Bk) (p : ByteArray × En) : usrs m ++ [usr p] = usrs (m ++ [p]) := by simp [usrs]
theorem users_yield (M g : Bk) (p : ByteArray × En) (hg : g.length ≤ 10000) :
    ACallN P 2 67 [ebox M, .box [.own 2 5 0 g.length], .row 96 5 (usrs g)] [str p.1, En.av p.2, .ptr 1 0]
      (fun r m' => r = bool true ∧ m' = [ebox M, .box [.own 2 5 0 (g ++ [p]).length], .row 96 5 (usrs (g ++ [p]))]) := by
  refine acallN_go tyOk Try.func67 rfl rfl (by simp) ?_
  intro K hK
  simp only [Try.ntmps67, List.length_cons, List.length_nil, Nat.reduceAdd, Nat.reduceSub, List.replicate, List.cons_append, List.nil_append]
  have ev0 : En.av p.2 = .agg [.sl 4 (avs p.2.l), i64 p.2.t.st, i64 p.2.t.pr, i64 p.2.t.n] := rfl
  try simp (maxSteps := 1000000) only [go_region, go_seq, go_ret, go_ops_nil, go_op, opK_none, contK_some, callOf, fstep, fpre, fstep0, fload, fcell, fstore, ffieldAddr, ffill, fieldPlaces, fieldsOk, fbuild, evParts, evOwners, fbuildSlice, felems, fappend, T, TI.isAgg, TI.zeroOk, TI.zav, setParts, partsOk, St.ev, St.put, St.shutAll, St.rehome, killV, killVs, AB.kill, splice, AV.cells, AV.known, AV.flat, AV.pure, pureAll, AV.owners, ownersAll, Value.cells, Value.oneCell', List.getD_cons_zero, List.getD_cons_succ, List.set, List.map_cons, List.map_nil, List.length_cons, List.length_nil, List.all_cons, List.all_nil, List.drop_succ_cons, List.drop_zero, List.take_succ_cons, List.take_zero, List.headD_cons, List.cons_append, List.nil_append, List.append_nil, List.getElem?_cons_zero, List.getElem?_cons_succ, List.replicate, Option.isSome_some, List.getElem?_toArray, true_and, and_true, Bool.and_true, Bool.true_and, Bool.and_self, Bool.or_false, Bool.false_eq_true, ↓reduceIte, decide_true, decide_false, reduceCtorEq, ne_eq, not_false_eq_true, Nat.reduceAdd, Nat.reduceMul, Nat.reduceLeDiff, Nat.reduceEqDiff, Nat.reduceLT, Nat.le_refl, Nat.add_zero, Nat.zero_add, ev0, usrs_len]
  refine ⟨⟨by simp only [maxLen]; omega, by omega⟩, ?_⟩
  apply hK
  simp only [Try.results67, retK, ares, Bool.and_true, Bool.true_and, AV.ofResults, St.trunc, truncVs, truncV, AB.trunc, List.getD_cons_zero, List.getD_cons_succ, List.take_zero, List.take_succ_cons, List.map_nil, List.map_cons, List.length_cons, List.length_nil, Nat.reduceAdd, Nat.reduceLeDiff, true_and, and_true, ↓reduceIte, List.cons.injEq, exists_eq_left']
  rw [← usrs_snoc, List.length_append]; exact ⟨rfl, rfl⟩
theorem users_call (m : Bk) (hm : m.length ≤ 1000) : PCall P 41 [map_se m] (fun x => x = .sl 5 (usrs m)) := by
  refine pcall_go tyOk Try.func41 rfl rfl ?_
  intro K hK
  simp only [Try.ntmps41, List.length_cons, List.length_nil, Nat.reduceAdd, Nat.reduceSub, List.replicate, List.cons_append, List.nil_append]
  have hall := all_call_se m
  unfold map_se at hall
  try simp (maxSteps := 1000000) only [go_region, go_seq, go_ops_nil, go_op, opK_none, opK_some, contK_some, callOf, callK_eq, callJ_nil, callD_fn, fstep, fpre, fstep0, fload, fcell, evs, T, TI.isAgg, St.ev, St.put, AV.cells, AV.known, AV.owners, ownersAll, List.getD_cons_zero, List.getD_cons_succ, List.set, List.map_cons, List.map_nil, List.length_cons, List.length_nil, List.drop_zero, List.take_succ_cons, List.take_zero, List.cons_append, List.nil_append, List.append_nil, List.getElem?_cons_zero, true_and, Bool.true_and, ↓reduceIte, Nat.reduceAdd, Nat.le_refl, Nat.zero_add, map_se]
  (refine callG_use hall rfl ?_; rintro _ rfl)
  try simp (maxSteps := 1000000) only [go_op, opK_none, opK_some, contK_some, callOf, callK_eq, callJ_nil, callD_fn, fstep, fpre, fstep0, evs, St.ev, St.put, AV.owners, ownersAll, List.getD_cons_zero, List.getD_cons_succ, List.set, List.length_nil, List.cons_append, List.nil_append, List.append_nil, List.size_toArray, true_and, Bool.true_and]
  refine callG_turnN (N := 2) (Nat.zero_le _) (Turns.adoptIn (s := ⟨_, _⟩) (b := 1) (c := 0) 96 5 rfl rfl) ?_
  refine acall_iter (seq_se m (by omega)) (fun xs (i : Nat) => i = xs.length) (fun i => [ebox m, .box [.own 2 5 0 (m.take i).length], .row 96 5 (usrs (m.take i))]) (fun _ _ => False) 0 rfl rfl rfl rfl ?_ ?_ ?_
  · rintro xs x _ hpre rfl
    obtain ⟨hi, _, rfl⟩ := prefix_next hpre
    refine (users_yield m (m.take xs.length) m[xs.length] (by rw [List.length_take]; omega)).mono ?_
    rintro r m' ⟨rfl, rfl⟩
    exact .inl ⟨rfl, xs.length + 1, by simp, by rw [take_one hi]⟩
  · rintro _ rfl
    have e1 : (pairs_se m).length = m.length := by simp [pairs_se]
    rw [e1, List.take_length]
    try simp (maxSteps := 1000000) only [go_region, go_seq, go_ret, go_ops_nil, go_op, opK_none, contK_some, callOf, fstep, fpre, fstep0, fload, fcell, T, TI.isAgg, St.ev, St.put, cutVs, cutV, bks, bksAll, List.getD_cons_zero, List.getD_cons_succ, List.set, List.length_cons, List.length_nil, List.all_cons, List.all_nil, List.drop_zero, List.headD_cons, List.append_nil, List.getElem?_cons_zero, List.getElem?_cons_succ, true_and, Bool.true_and, Bool.and_self, Bool.false_eq_true, ↓reduceIte, decide_true, Nat.reduceLT, Nat.zero_add]
    apply hK
    simp only [Try.results41, retK, ares, Bool.and_true, Bool.true_and, AV.ofResults, St.trunc, truncVs, truncV, List.getD_cons_zero, List.getD_cons_succ, List.take_zero, List.drop_zero, List.map_nil, List.getElem?_cons_zero, List.getElem?_cons_succ, Nat.reduceLeDiff, true_and, and_true, ↓reduceIte, List.cons.injEq, exists_eq_left']
    rw [sl_full (usrs_len m)]
  · intro xs m' _ h; exact h.elim

def sumL (m : Bk) : Nat := (m.map fun p => p.2.l.length).sum
theorem sum_next {m : Bk} {i : Nat} (h : i < m.length) : sumL (m.take (i + 1)) = sumL (m.take i) + m[i].2.l.length := by
  rw [take_one h, sumL, List.map_append, List.sum_append]; simp [sumL]
theorem sum_le {n : Nat} {m : Bk} (h : bookOk n m) : ∀ i, sumL (m.take i) ≤ n * i := by
  intro i
  induction i with
  | zero => simp [sumL]
  | succ i ih =>
    by_cases hi : i < m.length
    · rw [sum_next hi, Nat.mul_succ]
      have := (h.2.2 _ (List.getElem_mem hi)).2
      omega
    · rw [List.take_of_length_le (by omega)]
      rw [List.take_of_length_le (by omega)] at ih
      rw [Nat.mul_succ]; omega
theorem stored_call (m : Bk) (h : bookOk 200 m) : PCall P 42 [map_se m] (fun x => x = i64 (sumL m : Nat)) := by
  refine pcall_goY tyOk Try.func42 rfl rfl ?_
  intro K hK
  simp only [Try.ntmps42, List.length_cons, List.length_nil, Nat.reduceAdd, Nat.reduceSub, List.replicate, List.cons_append, List.nil_append]
  have hml := h.2.1
  have hall := all_call_se m
  unfold map_se at hall
  try simp (maxSteps := 1000000) only [go_nil, go_region, go_ops_nil, go_op, opK_none, opK_some, contK_some, callOf, callK_eq, callJ_nil, callD_fn, fstep, fpre, fstep0, fload, fcell, fstore, evs, T, TI.isAgg, St.ev, St.put, splice, AV.cells, AV.known, AV.flat, AV.owners, ownersAll, Value.cells, Value.oneCell', List.getD_cons_zero, List.getD_cons_succ, List.set, List.map_cons, List.map_nil, List.length_cons, List.length_nil, List.all_cons, List.all_nil, List.drop_succ_cons, List.drop_zero, List.take_succ_cons, List.take_zero, List.cons_append, List.nil_append, List.append_nil, List.getElem?_cons_zero, List.getElem?_cons_succ, true_and, and_true, Bool.and_true, Bool.true_and, Bool.and_self, ↓reduceIte, Nat.reduceAdd, Nat.le_refl, Nat.zero_add, goY_region, goY_seq, yK_normal, map_se]
  (refine callG_use hall rfl ?_; rintro _ rfl)
  try simp (maxSteps := 1000000) only [go_nil, go_ops_nil, St.put, List.set, goY_block, goY_range, yK_normal]
  refine range_rule tyOk (seq_se m (by omega)) (α := Nat) 2 2 [1, 3] ([.any, .ptr 0 0, .any, .ptr 1 0, .any, .any, .any, .any, .any, .any, .any, .any, .any, .any, .any, .any]) (fun xs i => i = xs.length ∧ i ≤ m.length)
    (fun i => [ebox m, .box [i64 (sumL (m.take i) : Nat)]]) 0 rfl rfl
    (fun x hx => by simp only [pairs_se, List.mem_map] at hx; obtain ⟨p, _, rfl⟩ := hx; rfl) (Nat.zero_le _) (by decide) (by rfl) ⟨rfl, Nat.zero_le _⟩ rfl ?_ ?_
  · rintro xs x _ hpre ⟨rfl, hle⟩
    obtain ⟨hi, _, rfl⟩ := prefix_next hpre
    have hn := sum_next hi
    have hs := sum_le h xs.length
    have hel := (h.2.2 _ (List.getElem_mem hi)).2
    generalize m[xs.length] = p at *
    have ev0 : En.av p.2 = .agg [.sl 4 (avs p.2.l), i64 p.2.t.st, i64 p.2.t.pr, i64 p.2.t.n] := rfl
    have ew : IntKind.i64.wrap (((sumL (m.take xs.length) : Nat) : Int) + ((p.2.l.length : Nat) : Int)) = ((sumL (m.take xs.length) + p.2.l.length : Nat) : Int) := by
      have : 200 * xs.length ≤ 200 * 200 := Nat.mul_le_mul_left _ (by omega)
      rw [wrap_i64 (by omega) (by omega)]; rfl
    try simp (maxSteps := 1000000) only [go_nil, go_region, go_block, go_blk, go_ops_nil, go_op, opK_none, contK_some, callOf, fstep, fpre, fstep0, fbinA, fbin, fbin0, fload, fcell, fstore, ffieldAddr, flen, T, TI.isAgg, St.ev, St.put, splice, AV.cells, AV.known, AV.flat, Value.cells, Value.oneCell', List.getD_cons_zero, List.getD_cons_succ, List.set, List.map_cons, List.map_nil, List.length_cons, List.length_nil, List.all_cons, List.all_nil, List.drop_succ_cons, List.drop_zero, List.take_zero, List.headD_cons, List.cons_append, List.nil_append, List.append_nil, List.getElem?_cons_zero, List.getElem?_cons_succ, List.getElem?_toArray, true_and, and_true, Bool.and_true, Bool.true_and, Bool.and_self, Bool.false_eq_true, ↓reduceIte, reduceCtorEq, ne_eq, not_false_eq_true, Nat.reduceAdd, Nat.reduceLT, Nat.le_refl, Nat.add_zero, Nat.zero_add, List.length_append, setPs, roundA_normal, ev0, avs_len, ew]
    simp only [roundX_normal, St.trunc, truncVs, truncV, AB.trunc, pureAll, AV.pure, Bool.and_self, List.drop_zero, List.take_succ_cons, List.take_zero, List.map_cons, List.map_nil, List.getElem?_cons_zero, List.getElem?_cons_succ, Nat.reduceLeDiff, Nat.le_refl, ↓reduceIte]
    exact ⟨xs.length + 1, ⟨by first | rfl | simp, by omega⟩, by rw [hn]⟩
  · rintro _ ⟨rfl, hle⟩
    have e1 : (pairs_se m).length = m.length := by simp [pairs_se]
    rw [e1, List.take_length]
    try simp (maxSteps := 1000000) only [go_nil, go_region, go_ops_nil, go_op, opK_none, contK_some, callOf, fstep, fpre, fstep0, fload, fcell, T, TI.isAgg, St.ev, St.put, List.getD_cons_zero, List.getD_cons_succ, List.set, List.length_cons, List.length_nil, List.drop_zero, List.headD_cons, List.getElem?_cons_zero, List.getElem?_cons_succ, true_and, Bool.true_and, Bool.false_eq_true, ↓reduceIte, Nat.reduceLT, Nat.zero_add, goY_region, goY_seq, goY_blk, goY_ret, yK_normal]
    apply hK
    simp only [Try.results42, retK, ares, Bool.and_true, Bool.true_and, AV.ofResults, St.trunc, truncVs, truncV, List.getD_cons_zero, List.getD_cons_succ, List.take_zero, List.map_nil, true_and, and_true, List.cons.injEq, exists_eq_left']
end Go.Proofs.Ytljgfapbbhbbpaa
