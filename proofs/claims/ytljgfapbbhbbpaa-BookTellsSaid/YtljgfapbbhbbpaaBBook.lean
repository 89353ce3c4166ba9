/- The functions of the layer book. -/
import Derived.Test.YtljgfapbbhbbpaaBMap
namespace Go.Proofs.Ytljgfapbbhbbpaa
open Go Go.Proofs.Ytljgfapbbhbbpaa.Sym
set_option maxRecDepth 100000
set_option linter.unusedSimpArgs false
set_option linter.unusedVariables false

def addW (a b : Int) : Int := if IntKind.u64.wrap (18446744073709551615 - a) < b then 18446744073709551615 else IntKind.u64.wrap (a + b)
theorem tick_Add (a b : Int) : PCall P 61 [u64 a, u64 b] (fun x => x = u64 (addW a b)) := by
  refine pcall_go tyOk Try.func61 rfl rfl ?_
  intro K hK
  simp only [Try.ntmps61, List.length_cons, List.length_nil, Nat.reduceAdd, Nat.reduceSub, List.replicate, List.cons_append, List.nil_append]
  try simp (maxSteps := 1000000) only [go_region, go_seq, go_cond, go_ops_nil, go_op, opK_none, contK_some, callOf, fstep, fpre, fstep0, fbinA, fbin, fbin0, St.ev, St.put, List.getD_cons_zero, List.getD_cons_succ, List.set, true_and, Bool.true_and]
  (first | refine guardV_split ?_ ?_ | refine condK_split ?_ ?_ | refine drawV_split ?_ ?_ | refine condY_split ?_ ?_ | refine guardY_split ?_ ?_) <;> intro h <;> try simp (maxSteps := 1000000) only [go_skip, go_region, go_seq, go_ret, go_ops_nil, go_op, opK_none, contK_some, condK_t, condK_f, callOf, fstep, fpre, fstep0, fbinA, fbin, fbin0, St.ev, St.put, List.getD_cons_zero, List.getD_cons_succ, List.set, true_and, Bool.true_and]
  · apply hK
    simp only [Try.results61, retK, ares, List.take_nil, Bool.and_true, Bool.true_and, AV.ofResults, St.trunc, truncVs, truncV, List.getD_cons_zero, List.getD_cons_succ, List.map_nil, true_and, and_true, List.cons.injEq, exists_eq_left']
    rw [addW, if_pos (by simpa using h)]
  · apply hK
    simp only [Try.results61, retK, ares, List.take_nil, Bool.and_true, Bool.true_and, AV.ofResults, St.trunc, truncVs, truncV, List.getD_cons_zero, List.getD_cons_succ, List.map_nil, true_and, and_true, List.cons.injEq, exists_eq_left']
    rw [addW, if_neg (by simpa using h)]
theorem law_later (a b : Int) : PCall P 35 [u64 a, u64 b] (fun x => x = u64 (addW a b)) := by
  refine pcall_go tyOk Try.func35 rfl rfl ?_
  intro K hK
  simp only [Try.ntmps35, List.length_cons, List.length_nil, Nat.reduceAdd, Nat.reduceSub, List.replicate, List.cons_append, List.nil_append]
  try simp (maxSteps := 1000000) only [go_region, go_seq, go_cond, go_ops_nil, go_op, opK_none, contK_some, callOf, fstep, fpre, fstep0, fbinA, fbin, fbin0, St.ev, St.put, List.getD_cons_zero, List.getD_cons_succ, List.set, true_and, Bool.true_and]
  (first | refine guardV_split ?_ ?_ | refine condK_split ?_ ?_ | refine drawV_split ?_ ?_ | refine condY_split ?_ ?_ | refine guardY_split ?_ ?_) <;> intro h <;> try simp (maxSteps := 1000000) only [go_skip, go_region, go_seq, go_ret, go_ops_nil, go_op, opK_none, contK_some, condK_t, condK_f, callOf, fstep, fpre, fstep0, fbinA, fbin, fbin0, St.ev, St.put, List.getD_cons_zero, List.getD_cons_succ, List.set, true_and, Bool.true_and]
  · apply hK
    simp only [Try.results35, retK, ares, List.take_nil, Bool.and_true, Bool.true_and, AV.ofResults, St.trunc, truncVs, truncV, List.getD_cons_zero, List.getD_cons_succ, List.map_nil, true_and, and_true, List.cons.injEq, exists_eq_left']
    rw [addW, if_pos (by simpa using h)]
  · apply hK
    simp only [Try.results35, retK, ares, List.take_nil, Bool.and_true, Bool.true_and, AV.ofResults, St.trunc, truncVs, truncV, List.getD_cons_zero, List.getD_cons_succ, List.map_nil, true_and, and_true, List.cons.injEq, exists_eq_left']
    rw [addW, if_neg (by simpa using h)]

abbrev Bk := List (ByteArray × En)
/-- What a user's sessions come to. -/
def ofP (l : List Ses) (now : Int) : Pr := ⟨(bestF (lives now l)).1.st, (bestF (lives now l)).1.pr, (bestF (lives now l)).2⟩
def Pr.av (p : Pr) : AV := .agg [i64 p.st, i64 p.pr, i64 p.n]
structure Chg where
  u : ByteArray
  old : Pr
  new : Pr
  deriving DecidableEq
def Chg.av (c : Chg) : AV := .agg [str c.u, i64 c.old.st, i64 c.old.pr, i64 c.old.n, i64 c.new.st, i64 c.new.pr, i64 c.new.n]
def chgs (l : List Chg) : List AV := l.map Chg.av
theorem chgs_len (l : List Chg) : (chgs l).length = l.length := by simp [chgs]
def wasOf (m : Bk) (u : ByteArray) : En := (getG ltS eqS nilEn m u).1
def settleB (m : Bk) (u : ByteArray) (l : List Ses) (now : Int) : Bk := if l.length = 0 then withoutG ltS eqS m u else withG ltS eqS m u ⟨l, ofP l now⟩
def settleC (m : Bk) (u : ByteArray) (l : List Ses) (now : Int) : List Chg := if ofP l now = (wasOf m u).t then [] else [⟨u, (wasOf m u).t, ofP l now⟩]
theorem pr_beq (a b : Pr) : (a.st == b.st && (a.pr == b.pr && a.n == b.n)) = decide (a = b) := by
  cases a; cases b
  rw [Bool.eq_iff_iff]
  simp

theorem of_call (l : List Ses) (now : Int) (h : l.length ≤ 1000000) : PCall P 65 [.sl 4 (avs l), u64 now] (fun x => x = .agg [i64 (ofP l now).st, i64 (ofP l now).pr, i64 (ofP l now).n]) := aggr_Of l now (by omega)
theorem get_open (m : Bk) (u : ByteArray) (hr : rises_se m) (hlen : m.length ≤ 800000) : PCall P 40 [map_se m, str u]
    (fun x => x = .tup [.agg [.sl 4 (avs (wasOf m u).l), i64 (wasOf m u).t.st, i64 (wasOf m u).t.pr, i64 (wasOf m u).t.n], bool (getG ltS eqS nilEn m u).2]) := get_call_se m u hr (by omega)

theorem settle_raw (m : Bk) (u : ByteArray) (l : List Ses) (now : Int) (hr : rises_se m) (hlen : m.length ≤ 800000) (hl : l.length ≤ 800000) :
    PCall P 59 [map_se m, str u, .sl 4 (avs l), u64 now] (fun x => x = .tup [map_se (settleB m u l now), if settleC m u l now = [] then .v (.slice none 0 0) else .sl 7 (chgs (settleC m u l now))]) := by
  refine pcall_go tyOk Try.func59 rfl rfl ?_
  intro K hK
  simp only [Try.ntmps59, List.length_cons, List.length_nil, Nat.reduceAdd, Nat.reduceSub, List.replicate, List.cons_append, List.nil_append]
  try simp (maxSteps := 1000000) only [go_region, go_seq, go_ops_nil, go_op, opK_none, opK_some, contK_some, callOf, callK_eq, callJ_nil, callD_fn, fstep, fpre, fstep0, fload, fcell, evs, T, TI.isAgg, St.ev, St.put, AV.cells, AV.known, AV.owners, ownersAll, List.getD_cons_zero, List.getD_cons_succ, List.set, List.map_cons, List.map_nil, List.length_cons, List.length_nil, List.drop_zero, List.take_succ_cons, List.take_zero, List.cons_append, List.nil_append, List.append_nil, List.getElem?_cons_zero, true_and, Bool.true_and, ↓reduceIte, Nat.reduceAdd, Nat.le_refl, Nat.zero_add, map_se]
  (refine callG_use (get_open m u hr hlen) rfl ?_; rintro _ rfl)
  try simp (maxSteps := 1000000) only [go_region, go_seq, go_ops_nil, go_op, opK_none, opK_some, contK_some, callOf, callK_eq, callJ_nil, callD_fn, fstep, fpre, fstep0, fstore, evs, T, St.ev, St.put, splice, AV.cells, AV.known, AV.flat, AV.owners, ownersAll, Value.oneCell', List.getD_cons_zero, List.getD_cons_succ, List.set, List.map_cons, List.map_nil, List.length_cons, List.length_nil, List.all_cons, List.all_nil, List.drop_succ_cons, List.drop_zero, List.take_zero, List.cons_append, List.nil_append, List.append_nil, List.getElem?_cons_zero, List.getElem?_cons_succ, true_and, and_true, Bool.and_true, Bool.true_and, Bool.and_self, Nat.reduceAdd, Nat.reduceLT, Nat.le_refl, Nat.zero_add]
  (refine callG_use (of_call l now (by omega)) rfl ?_; rintro _ rfl)
  try simp (maxSteps := 1000000) only [go_region, go_seq, go_cond, go_ops_nil, go_op, opK_none, contK_some, callOf, fstep, fpre, fstep0, fbinA, fbin, fbinS, eqVs, eqV, kOks, kOk, fload, fcell, fstore, ffieldAddr, T, TI.isAgg, St.ev, St.put, splice, AV.cells, AV.known, AV.flat, Value.oneCell', List.getD_cons_zero, List.getD_cons_succ, List.set, List.map_cons, List.map_nil, List.length_cons, List.length_nil, List.all_cons, List.all_nil, List.drop_succ_cons, List.drop_zero, List.take_succ_cons, List.take_zero, List.cons_append, List.nil_append, List.append_nil, List.getElem?_cons_zero, List.getElem?_cons_succ, List.getElem?_toArray, true_and, and_true, Bool.and_true, Bool.true_and, Bool.and_self, ↓reduceIte, decide_true, reduceCtorEq, ne_eq, not_false_eq_true, Nat.reduceAdd, Nat.le_refl, Nat.zero_add, eqc28, pr_beq]
  (first | refine guardV_split ?_ ?_ | refine condK_split ?_ ?_ | refine drawV_split ?_ ?_ | refine condY_split ?_ ?_ | refine guardY_split ?_ ?_) <;> intro h
  · have hne : ¬ ofP l now = (wasOf m u).t := by simpa using h
    have hc : settleC m u l now = [⟨u, (wasOf m u).t, ofP l now⟩] := by rw [settleC, if_neg hne]
    try simp (maxSteps := 1000000) only [go_region, go_seq, go_cond, go_ops_nil, go_op, opK_none, contK_some, condK_t, callOf, fstep, fpre, fstep0, fbinA, fbin, fbin0, fload, fcell, ffieldAddr, ffill, fieldPlaces, fieldsOk, fbuild, evParts, evOwners, fbuildSlice, flen, T, TI.isAgg, TI.zeroOk, TI.zav, setParts, partsOk, St.ev, St.put, St.shutAll, splice, AV.cells, AV.known, AV.flat, AV.pure, pureAll, AV.owners, ownersAll, Value.cells, Value.oneCell', List.getD_cons_zero, List.getD_cons_succ, List.set, List.map_cons, List.map_nil, List.length_cons, List.length_nil, List.all_cons, List.all_nil, List.drop_succ_cons, List.drop_zero, List.take_succ_cons, List.take_zero, List.cons_append, List.nil_append, List.append_nil, List.getElem?_cons_zero, List.getElem?_cons_succ, List.replicate, Option.isSome_some, List.getElem?_toArray, true_and, and_true, Bool.and_true, Bool.true_and, Bool.and_self, Bool.or_false, ↓reduceIte, decide_true, decide_false, reduceCtorEq, ne_eq, not_false_eq_true, Nat.reduceAdd, Nat.reduceMul, Nat.reduceLeDiff, Nat.reduceEqDiff, Nat.reduceLT, Nat.zero_le, Nat.le_refl, Nat.zero_add, avs_len]
    (first | refine guardV_split ?_ ?_ | refine condK_split ?_ ?_ | refine drawV_split ?_ ?_ | refine condY_split ?_ ?_ | refine guardY_split ?_ ?_) <;> intro h2
    · have hl0 : l.length = 0 := by simpa using h2
      have hs : settleB m u l now = withoutG ltS eqS m u := by rw [settleB, if_pos hl0]
      try simp (maxSteps := 1000000) only [go_region, go_seq, go_op, opK_none, opK_some, contK_some, condK_t, callOf, callK_eq, callJ_nil, callD_fn, fstep, fpre, fstep0, fload, fcell, evs, T, TI.isAgg, St.ev, St.put, AV.owners, ownersAll, List.getD_cons_zero, List.getD_cons_succ, List.set, List.length_cons, List.length_nil, List.drop_zero, List.take_succ_cons, List.take_zero, List.append_nil, List.getElem?_cons_zero, true_and, Bool.true_and, ↓reduceIte, Nat.reduceAdd, Nat.le_refl, Nat.zero_add]
      (refine callG_use (without_call_se m u hr (by omega)) rfl ?_; rintro _ rfl)
      try simp (maxSteps := 1000000) only [go_ret, go_ops_nil, go_op, opK_none, contK_some, callOf, fstep, fpre, fstep0, fstore, T, St.ev, St.put, splice, AV.cells, AV.known, AV.flat, List.getD_cons_zero, List.getD_cons_succ, List.set, List.length_cons, List.length_nil, List.all_cons, List.all_nil, List.drop_succ_cons, List.drop_zero, List.take_zero, List.nil_append, List.append_nil, List.getElem?_cons_zero, List.getElem?_cons_succ, true_and, and_true, Bool.and_true, Bool.true_and, Bool.and_self, Nat.reduceAdd, Nat.le_refl, Nat.zero_add, map_se]
      apply hK
      simp only [Try.results59, retK, ares, List.take_nil, Bool.and_true, Bool.true_and, AV.ofResults, St.trunc, truncVs, truncV, aload, acell, T, TI.isAgg, List.getD_cons_zero, List.getD_cons_succ, List.take_zero, List.take_succ_cons, List.drop_zero, List.map_nil, List.getElem?_cons_zero, List.getElem?_cons_succ, List.length_cons, List.length_nil, Nat.reduceAdd, Nat.reduceLeDiff, Nat.le_refl, true_and, and_true, ↓reduceIte, List.cons.injEq, exists_eq_left']
      rw [hc, hs]
      try rfl
    · have hl0 : ¬ l.length = 0 := by simpa using h2
      have hs : settleB m u l now = withG ltS eqS m u ⟨l, ofP l now⟩ := by rw [settleB, if_neg hl0]
      have hw := with_call_se m u ⟨l, ofP l now⟩ hr (by omega)
      unfold En.av at hw
      try simp (maxSteps := 1000000) only [go_skip, go_region, go_seq, go_op, opK_none, opK_some, contK_some, condK_f, callOf, callK_eq, callJ_nil, callD_fn, fstep, fpre, fstep0, fload, fcell, ffill, fieldPlaces, fieldsOk, fbuild, evParts, evs, T, TI.isAgg, St.ev, St.put, splice, AV.cells, AV.known, AV.owners, ownersAll, List.getD_cons_zero, List.getD_cons_succ, List.set, List.map_cons, List.map_nil, List.length_cons, List.length_nil, List.drop_succ_cons, List.drop_zero, List.take_succ_cons, List.take_zero, List.cons_append, List.nil_append, List.append_nil, List.getElem?_cons_zero, List.getElem?_cons_succ, Option.isSome_some, List.getElem?_toArray, true_and, and_true, Bool.and_true, Bool.true_and, Bool.and_self, ↓reduceIte, Nat.reduceAdd, Nat.reduceLeDiff, Nat.le_refl, Nat.zero_add]
      (refine callG_use hw rfl ?_; rintro _ rfl)
      try simp (maxSteps := 1000000) only [go_ret, go_ops_nil, go_op, opK_none, contK_some, callOf, fstep, fpre, fstep0, fstore, T, St.ev, St.put, splice, AV.cells, AV.known, AV.flat, List.getD_cons_zero, List.getD_cons_succ, List.set, List.length_cons, List.length_nil, List.all_cons, List.all_nil, List.drop_succ_cons, List.drop_zero, List.take_zero, List.nil_append, List.append_nil, List.getElem?_cons_zero, List.getElem?_cons_succ, true_and, and_true, Bool.and_true, Bool.true_and, Bool.and_self, Nat.reduceAdd, Nat.le_refl, Nat.zero_add, map_se]
      apply hK
      simp only [Try.results59, retK, ares, List.take_nil, Bool.and_true, Bool.true_and, AV.ofResults, St.trunc, truncVs, truncV, aload, acell, T, TI.isAgg, List.getD_cons_zero, List.getD_cons_succ, List.take_zero, List.take_succ_cons, List.drop_zero, List.map_nil, List.getElem?_cons_zero, List.getElem?_cons_succ, List.length_cons, List.length_nil, Nat.reduceAdd, Nat.reduceLeDiff, Nat.le_refl, true_and, and_true, ↓reduceIte, List.cons.injEq, exists_eq_left']
      rw [hc, hs]
      try rfl
  · have hne : ofP l now = (wasOf m u).t := by simpa using h
    have hc : settleC m u l now = [] := by rw [settleC, if_pos hne]
    try simp (maxSteps := 1000000) only [go_skip, go_region, go_seq, go_cond, go_ops_nil, go_op, opK_none, contK_some, condK_f, callOf, fstep, fpre, fstep0, fbinA, fbin, fbin0, flen, T, St.ev, St.put, List.getD_cons_zero, List.getD_cons_succ, List.set, true_and, Bool.true_and, avs_len]
    (first | refine guardV_split ?_ ?_ | refine condK_split ?_ ?_ | refine drawV_split ?_ ?_ | refine condY_split ?_ ?_ | refine guardY_split ?_ ?_) <;> intro h2
    · have hl0 : l.length = 0 := by simpa using h2
      have hs : settleB m u l now = withoutG ltS eqS m u := by rw [settleB, if_pos hl0]
      try simp (maxSteps := 1000000) only [go_region, go_seq, go_op, opK_none, opK_some, contK_some, condK_t, callOf, callK_eq, callJ_nil, callD_fn, fstep, fpre, fstep0, fload, fcell, evs, T, TI.isAgg, St.ev, St.put, AV.owners, ownersAll, List.getD_cons_zero, List.getD_cons_succ, List.set, List.length_cons, List.length_nil, List.drop_zero, List.take_succ_cons, List.take_zero, List.append_nil, List.getElem?_cons_zero, true_and, Bool.true_and, ↓reduceIte, Nat.reduceAdd, Nat.le_refl, Nat.zero_add]
      (refine callG_use (without_call_se m u hr (by omega)) rfl ?_; rintro _ rfl)
      try simp (maxSteps := 1000000) only [go_ret, go_ops_nil, go_op, opK_none, contK_some, callOf, fstep, fpre, fstep0, fstore, T, St.ev, St.put, splice, AV.cells, AV.known, AV.flat, List.getD_cons_zero, List.getD_cons_succ, List.set, List.length_cons, List.length_nil, List.all_cons, List.all_nil, List.drop_succ_cons, List.drop_zero, List.take_zero, List.nil_append, List.append_nil, List.getElem?_cons_zero, List.getElem?_cons_succ, true_and, and_true, Bool.and_true, Bool.true_and, Bool.and_self, Nat.reduceAdd, Nat.le_refl, Nat.zero_add, map_se]
      apply hK
      simp only [Try.results59, retK, ares, List.take_nil, Bool.and_true, Bool.true_and, AV.ofResults, St.trunc, truncVs, truncV, aload, acell, T, TI.isAgg, List.getD_cons_zero, List.getD_cons_succ, List.take_zero, List.take_succ_cons, List.drop_zero, List.map_nil, List.getElem?_cons_zero, List.getElem?_cons_succ, List.length_cons, List.length_nil, Nat.reduceAdd, Nat.le_refl, true_and, and_true, ↓reduceIte, List.cons.injEq, exists_eq_left']
      rw [hc, hs]
      try rfl
    · have hl0 : ¬ l.length = 0 := by simpa using h2
      have hs : settleB m u l now = withG ltS eqS m u ⟨l, ofP l now⟩ := by rw [settleB, if_neg hl0]
      have hw := with_call_se m u ⟨l, ofP l now⟩ hr (by omega)
      unfold En.av at hw
      try simp (maxSteps := 1000000) only [go_skip, go_region, go_seq, go_op, opK_none, opK_some, contK_some, condK_f, callOf, callK_eq, callJ_nil, callD_fn, fstep, fpre, fstep0, fload, fcell, ffill, fieldPlaces, fieldsOk, fbuild, evParts, evs, T, TI.isAgg, St.ev, St.put, splice, AV.cells, AV.known, AV.owners, ownersAll, List.getD_cons_zero, List.getD_cons_succ, List.set, List.map_cons, List.map_nil, List.length_cons, List.length_nil, List.drop_succ_cons, List.drop_zero, List.take_succ_cons, List.take_zero, List.cons_append, List.nil_append, List.append_nil, List.getElem?_cons_zero, List.getElem?_cons_succ, Option.isSome_some, List.getElem?_toArray, true_and, and_true, Bool.and_true, Bool.true_and, Bool.and_self, ↓reduceIte, Nat.reduceAdd, Nat.reduceLeDiff, Nat.le_refl, Nat.zero_add]
      (refine callG_use hw rfl ?_; rintro _ rfl)
      try simp (maxSteps := 1000000) only [go_ret, go_ops_nil, go_op, opK_none, contK_some, callOf, fstep, fpre, fstep0, fstore, T, St.ev, St.put, splice, AV.cells, AV.known, AV.flat, List.getD_cons_zero, List.getD_cons_succ, List.set, List.length_cons, List.length_nil, List.all_cons, List.all_nil, List.drop_succ_cons, List.drop_zero, List.take_zero, List.nil_append, List.append_nil, List.getElem?_cons_zero, List.getElem?_cons_succ, true_and, and_true, Bool.and_true, Bool.true_and, Bool.and_self, Nat.reduceAdd, Nat.le_refl, Nat.zero_add, map_se]
      apply hK
      simp only [Try.results59, retK, ares, List.take_nil, Bool.and_true, Bool.true_and, AV.ofResults, St.trunc, truncVs, truncV, aload, acell, T, TI.isAgg, List.getD_cons_zero, List.getD_cons_succ, List.take_zero, List.take_succ_cons, List.drop_zero, List.map_nil, List.getElem?_cons_zero, List.getElem?_cons_succ, List.length_cons, List.length_nil, Nat.reduceAdd, Nat.le_refl, true_and, and_true, ↓reduceIte, List.cons.injEq, exists_eq_left']
      rw [hc, hs]
      try rfl
theorem settle_call (m : Bk) (u : ByteArray) (l : List Ses) (now : Int) (hr : rises_se m) (hlen : m.length ≤ 800000) (hl : l.length ≤ 800000) :
    PCall P 59 [map_se m, str u, .sl 4 (avs l), u64 now] (fun x => x = .tup [map_se (settleB m u l now), .sl 7 (chgs (settleC m u l now))]) := by
  refine (settle_raw m u l now hr hlen hl).weaken (.inr ⟨_, rfl, _, _, rfl, weak_refl _, _, _, rfl, ?_, rfl⟩)
  split
  · rename_i h; rw [h]; exact weak_nil 7
  · exact weak_refl _

/-- An op, as the program holds it. -/
structure Opb where
  kind : Int
  u : ByteArray
  id : Int
  st : Int
  pr : Int
  ttl : Int
  us : List ByteArray
def Opb.av (o : Opb) : AV := .agg [i64 o.kind, str o.u, i64 o.id, i64 o.st, i64 o.pr, u64 o.ttl, .sl 1 (o.us.map fun x => str x)]
def bookOk (n : Nat) (m : Bk) : Prop := rises_se m ∧ m.length ≤ n ∧ ∀ p ∈ m, Up p.2.l ∧ p.2.l.length ≤ n
def writeL (m : Bk) (o : Opb) (now most : Int) : List Ses × Int :=
  let l := lives now (wasOf m o.u).l
  if o.kind = 1 then setF l ⟨o.id, o.st, o.pr, addW now o.ttl⟩ most
  else if o.kind = 2 then beatF l o.id (addW now o.ttl)
  else if o.kind = 3 then (clear l o.id, if has l o.id = true then 0 else 3)
  else (l, 0)
def writeB (m : Bk) (o : Opb) (now most : Int) : Bk := settleB m o.u (writeL m o now most).1 now
def writeC (m : Bk) (o : Opb) (now most : Int) : List Chg := settleC m o.u (writeL m o now most).1 now
theorem was_ok {n : Nat} {m : Bk} (h : bookOk n m) (u : ByteArray) : Up (wasOf m u).l ∧ (wasOf m u).l.length ≤ n := by
  by_cases hk : u ∈ m.map Prod.fst
  · obtain ⟨⟨k, e⟩, hp, rfl⟩ := List.mem_map.1 hk
    rw [wasOf, get_mem ordS eqS_iff h.1 hp]
    exact h.2.2 _ hp
  · rw [wasOf, get_none ordS eqS_iff h.1 hk]
    exact ⟨List.Pairwise.nil, Nat.zero_le _⟩
theorem put_len {l : List Ses} (hr : Up l) (s : Ses) : (put l s).length ≤ l.length + 1 := by
  rw [← put_at hr s]
  split
  · rw [List.length_set]; omega
  · simp; omega
theorem setF_ok {l : List Ses} (hr : Up l) (s : Ses) (most : Int) : Up (setF l s most).1 ∧ (setF l s most).1.length ≤ l.length + 1 := by
  unfold setF
  split
  · exact ⟨hr, Nat.le_succ _⟩
  · rw [ins_eq hr]; exact ⟨put_up hr s, put_len hr s⟩
theorem bmpS_id (id u : Int) (s : Ses) : (bmpS id u s).id = s.id := by unfold bmpS; split <;> rfl
theorem beatF_ok {l : List Ses} (hr : Up l) (id u : Int) : Up (beatF l id u).1 ∧ (beatF l id u).1.length = l.length := by
  unfold beatF
  split
  · refine ⟨?_, by simp⟩
    have e : ids (l.map (bmpS id u)) = ids l := by
      rw [ids, ids, List.map_map]
      exact List.map_congr_left fun s _ => bmpS_id id u s
    show Rises ltI (ids (l.map (bmpS id u)))
    rw [e]; exact hr
  · exact ⟨hr, rfl⟩
theorem writeL_ok {n : Nat} {m : Bk} (h : bookOk n m) (o : Opb) (now most : Int) : Up (writeL m o now most).1 ∧ (writeL m o now most).1.length ≤ n + 1 := by
  obtain ⟨h1, h2⟩ := was_ok h o.u
  have h3 := lives_up h1 now
  have h4 : (lives now (wasOf m o.u).l).length ≤ (wasOf m o.u).l.length := List.length_filter_le _ _
  unfold writeL
  simp only
  split
  · have := setF_ok h3 ⟨o.id, o.st, o.pr, addW now o.ttl⟩ most; exact ⟨this.1, by omega⟩
  · split
    · have := beatF_ok h3 o.id (addW now o.ttl); exact ⟨this.1, by omega⟩
    · split
      · exact ⟨clear_up h3 _, by have : (clear (lives now (wasOf m o.u).l) o.id).length ≤ _ := List.length_filter_le _ _; simp only; omega⟩
      · exact ⟨h3, by simp only; omega⟩
end Go.Proofs.Ytljgfapbbhbbpaa
