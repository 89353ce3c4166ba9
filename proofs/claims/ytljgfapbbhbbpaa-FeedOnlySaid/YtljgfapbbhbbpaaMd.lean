/- Rings: bounded queues of events. -/
import Derived.Test.YtljgfapbbhbbpaaMa
import Derived.Test.YtljgfapbbhbbpaaMc
import Derived.Test.YtljgfapbbhbbpaaSymZf
namespace Go.Proofs.Ytljgfapbbhbbpaa
open Go Go.Proofs.Ytljgfapbbhbbpaa.Sym
set_option maxRecDepth 100000
set_option linter.unusedSimpArgs false
set_option linter.unusedVariables false

def kpF (b : Nat) : Bool := decide (b < 9) || decide (17 ≤ b)
/-- An event, as the program holds it. -/
structure Ev where
  u : ByteArray
  old : Pr
  new : Pr
  seq : Int
  deriving DecidableEq
def Ev.av (e : Ev) : AV := .agg [str e.u, i64 e.old.st, i64 e.old.pr, i64 e.old.n, i64 e.new.st, i64 e.new.pr, i64 e.new.n, u64 e.seq]
def evts (l : List Ev) : List AV := l.map Ev.av
theorem evts_len (l : List Ev) : (evts l).length = l.length := by simp [evts]
theorem evts_snoc (l : List Ev) (e : Ev) : evts l ++ [.agg [str e.u, i64 e.old.st, i64 e.old.pr, i64 e.old.n, i64 e.new.st, i64 e.new.pr, i64 e.new.n, u64 e.seq]] = evts (l ++ [e]) := by simp [evts, Ev.av]

def ringB (room : Int) (l : List Ev) (lost : Bool) : AB := .box [i64 room, .own 1 8 0 l.length, bool lost]
def ringM (room : Int) (l : List Ev) (lost : Bool) : List AB := [ringB room l lost, .row 37 8 (evts l)]
theorem ring_New (room : Int) : ACall P 50 [] [i64 room] (fun x m' => x = .ptr 0 0 ∧ m' = ringM (max room 0) [] false) := by
  have h : ACallN P 0 50 [] [i64 room] (fun x m' => x = .ptr 0 0 ∧ m' = [.box [i64 (max room 0), .v (.slice none 0 0), bool false]]) := by
    refine acallM_go tyOk Try.func50 rfl rfl (N := 0) (M := 1) (Nat.zero_le _) (by simp) ?_
    intro K hK
    simp only [Try.ntmps50, List.length_cons, List.length_nil, Nat.reduceAdd, Nat.reduceSub, List.replicate, List.cons_append, List.nil_append]
    try simp (maxSteps := 1000000) only [go_region, go_seq, go_ret, go_ops_nil, go_op, opK_none, contK_some, callOf, fstep, fpre, fstep0, ffill, fieldPlaces, fieldsOk, fbuild, evParts, evs, fminmax, T, St.ev, St.put, splice, AV.cells, AV.known, Value.cells, List.getD_cons_zero, List.getD_cons_succ, List.set, List.map_cons, List.map_nil, List.length_cons, List.length_nil, List.drop_succ_cons, List.drop_zero, List.take_zero, List.cons_append, List.nil_append, List.getElem?_cons_zero, Option.isSome_some, List.getElem?_toArray, true_and, and_true, Bool.and_true, Bool.true_and, Bool.and_self, Nat.reduceAdd, Nat.reduceLeDiff, Nat.zero_add, cond_true]
    apply hK
    simp only [Try.results50, retK, ares, List.take_nil, Bool.and_true, Bool.true_and, AV.ofResults, St.trunc, truncVs, truncV, AB.trunc, List.getD_cons_zero, List.getD_cons_succ, List.take_succ_cons, List.map_nil, List.map_cons, Nat.reduceLeDiff, true_and, and_true, ↓reduceIte, List.cons.injEq, exists_eq_left']
    rw [show (if 0 > room then 0 else room) = max room 0 by omega]
  refine ACall.weaken (ACallN.toA h) ?_
  rintro x m' ⟨rfl, rfl⟩
  exact ⟨_, _, Turns.adoptIn (b := 0) (c := 1) 37 8 rfl rfl, rfl, rfl⟩
/-- What a queue takes. -/
def putR (room : Int) (q : List Ev × Bool) (e : Ev) : List Ev × Bool := if room ≤ (q.1.length : Int) then (q.1, true) else (q.1 ++ [e], q.2)
theorem ring_Put (room : Int) (l : List Ev) (lost : Bool) (e : Ev) (hl : l.length ≤ 100000) : ACallN P 1 54 (ringM room l lost) [.ptr 0 0, e.av]
    (fun x m' => (∃ b, x = bool b) ∧ m' = ringM room (putR room (l, lost) e).1 (putR room (l, lost) e).2) := by
  unfold ringM ringB
  refine acallN_go tyOk Try.func54 rfl rfl (by simp) ?_
  intro K hK
  simp only [Try.ntmps54, List.length_cons, List.length_nil, Nat.reduceAdd, Nat.reduceSub, List.replicate, List.cons_append, List.nil_append]
  try simp (maxSteps := 1000000) only [go_region, go_seq, go_draws, go_ops_nil, go_op, opK_none, contK_some, callOf, fstep, fpre, fstep0, St.ev, St.put, AV.cells, AV.known, List.getD_cons_zero, List.getD_cons_succ, List.set, List.length_cons, List.length_nil, List.cons_append, List.nil_append, true_and, Bool.true_and, Nat.reduceAdd, Nat.zero_add, Ev.av]
  refine draw_rule tyOk (by rfl) (by simp only [List.length_cons, List.length_nil, Nat.reduceAdd, Nat.reduceLeDiff]) (by kernel_rfl) rfl ?_
  try simp (maxSteps := 1000000) only [go_cond, callOf, fstep0, fbinA, fbin, fbin0, fload, fcell, ffieldAddr, flen, T, TI.isAgg, St.ev, St.put, List.getD_cons_zero, List.getD_cons_succ, List.set, List.length_cons, List.length_nil, List.drop_succ_cons, List.drop_zero, List.headD_cons, List.append_nil, List.getElem?_cons_zero, List.getElem?_cons_succ, List.replicate, List.getElem?_toArray, true_and, Bool.true_and, Bool.false_eq_true, ↓reduceIte, reduceCtorEq, ne_eq, not_false_eq_true, Nat.reduceAdd, Nat.reduceLT, Nat.add_zero, Nat.zero_add, newCount, drawR_nil, drawR_op, drawP_none, drawQ_some, dstep, isFree, St.app, bump, isNew]
  refine ⟨by kernel_rfl, ?_⟩
  (first | refine guardV_split ?_ ?_ | refine condK_split ?_ ?_ | refine drawV_split ?_ ?_ | refine condY_split ?_ ?_ | refine guardY_split ?_ ?_) <;> intro h
  · have h' : room ≤ (l.length : Int) := by simpa using h
    try simp (maxSteps := 1000000) only [go_region, go_seq, go_ret, go_ops_nil, go_op, opK_none, contK_some, condK_t, callOf, fstep, fpre, fstep0, fstore, ffieldAddr, T, St.ev, St.put, splice, AV.cells, AV.known, AV.flat, Value.cells, Value.oneCell', List.getD_cons_zero, List.getD_cons_succ, List.set, List.map_cons, List.map_nil, List.length_cons, List.length_nil, List.all_cons, List.all_nil, List.drop_succ_cons, List.drop_zero, List.take_succ_cons, List.take_zero, List.cons_append, List.nil_append, List.append_nil, List.getElem?_cons_zero, List.getElem?_cons_succ, List.getElem?_toArray, true_and, and_true, Bool.and_true, Bool.true_and, Bool.and_self, reduceCtorEq, ne_eq, not_false_eq_true, Nat.reduceAdd, Nat.le_refl, Nat.zero_add]
    apply hK
    simp only [Try.results54, retK, ares, Bool.and_true, AV.ofResults, St.trunc, truncVs, truncV, AB.trunc, List.getD_cons_zero, List.getD_cons_succ, List.take_zero, List.take_succ_cons, List.map_nil, List.map_cons, List.length_cons, List.length_nil, Nat.reduceAdd, Nat.reduceLeDiff, and_true, ↓reduceIte, List.cons.injEq, exists_eq_left']
    rw [putR, if_pos h']
    exact ⟨⟨_, rfl⟩, rfl, rfl⟩
  · have h' : ¬ room ≤ (l.length : Int) := by simpa using h
    try simp (maxSteps := 1000000) only [go_skip, go_seq, go_draws, condK_f]
    refine draw_rule tyOk (by rfl) (by simp only [List.length_cons, List.length_nil, Nat.reduceAdd, Nat.reduceLeDiff]) (by kernel_rfl) rfl ?_
    try simp (maxSteps := 1000000) only [go_region, go_seq, go_ret, go_ops_nil, go_op, opK_none, contK_some, callOf, fstep, fpre, fstep0, fload, fcell, ffieldAddr, evParts, felems, T, TI.isAgg, TI.zeroOk, TI.zav, setParts, partsOk, St.ev, St.put, St.rehome, killV, killVs, AB.kill, splice, AV.cells, AV.known, AV.flat, AV.pure, pureAll, Value.oneCell', List.getD_cons_zero, List.getD_cons_succ, List.set, List.map_cons, List.map_nil, List.length_cons, List.length_nil, List.all_cons, List.all_nil, List.drop_succ_cons, List.drop_zero, List.take_succ_cons, List.take_zero, List.headD_cons, List.cons_append, List.nil_append, List.append_nil, List.getElem?_cons_zero, List.getElem?_cons_succ, List.replicate, List.getElem?_toArray, true_and, and_true, Bool.and_true, Bool.true_and, Bool.and_self, Bool.or_false, Bool.false_eq_true, ↓reduceIte, decide_true, decide_false, reduceCtorEq, ne_eq, not_false_eq_true, Nat.reduceAdd, Nat.reduceMul, Nat.reduceLeDiff, Nat.reduceEqDiff, Nat.reduceLT, Nat.le_refl, Nat.add_zero, Nat.zero_add, newCount, drawR_nil, drawR_op, drawP_none, drawQ_some, dstep, isFree, dstore, dappend, dbuildSlice, St.app, bump, isNew, evts_len]
    refine ⟨⟨by simp only [maxLen]; omega, by omega⟩, ?_⟩
    refine ⟨by kernel_rfl, ?_⟩
    skip
    apply hK
    simp only [Try.results54, retK, ares, Bool.and_true, AV.ofResults, St.trunc, truncVs, truncV, AB.trunc, List.getD_cons_zero, List.getD_cons_succ, List.take_zero, List.take_succ_cons, List.map_nil, List.map_cons, List.length_cons, List.length_nil, Nat.reduceAdd, Nat.reduceLeDiff, and_true, ↓reduceIte, List.cons.injEq, exists_eq_left']
    rw [putR, if_neg h']
    simp only [evts_snoc, List.length_append, List.length_singleton]
    exact ⟨⟨_, rfl⟩, trivial, trivial⟩
def evYields (l : List Ev) : List (List AV) := l.map fun e => [e.av]
theorem ring_seq (room : Int) (l : List Ev) (lost : Bool) (hlen : l.length ≤ 100000) : ICall P 107 [.rp [.rp [i64 room, .sl 8 (evts l), bool lost]]] (evYields l) := by
  refine icall_goY tyOk Try.func107 rfl rfl rfl ?_
  intro y K hK
  simp only [Try.ntmps107, List.length_cons, List.length_nil, Nat.reduceAdd, Nat.reduceSub, List.replicate, List.cons_append, List.nil_append]
  try simp (maxSteps := 1000000) only [callOf, fstep, fpre, fstep0, fload, fcell, ffieldAddr, flen, T, TI.isAgg, St.ev, St.put, List.getD_cons_zero, List.getD_cons_succ, List.set, List.length_cons, List.length_nil, List.drop_succ_cons, List.drop_zero, List.headD_cons, List.getElem?_cons_zero, List.getElem?_cons_succ, List.getElem?_toArray, true_and, Bool.true_and, Bool.false_eq_true, ↓reduceIte, reduceCtorEq, ne_eq, not_false_eq_true, Nat.reduceAdd, Nat.reduceLT, Nat.zero_add, goY_yregion, goY_seq, goY_block, goY_loop, goY_ops_nil, goY_op, opYK_none, contY_some, evts_len]
  refine loopY_rule tyOk (α := Nat) 0 [0, 1, 8, 9, 10] (fun i => i ≤ l.length)
    (fun i => ⟨[.v y, .rp [.rp [i64 room, .sl 8 (evts l), bool lost]], .any, .any, .any, .any, .any, .any, .sl 8 (evts l), i64 l.length, i64 i, .any, .any, .any, .any, .any, .any, .any, .any], []⟩)
    (fun i => (evYields (l.take i), false)) (fun i => l.length - i) 0 (Nat.le_refl _) (Nat.zero_le _) rfl rfl ?_
  intro i hi
  try simp (maxSteps := 1000000) only [callOf, fstep, fpre, fstep0, fbinA, fbin, fbin0, St.ev, St.put, List.getD_cons_zero, List.getD_cons_succ, List.set, true_and, Bool.true_and, goY_yregion, goY_seq, goY_cond, goY_ops_nil, goY_op, opYK_none, contY_some]
  (first | refine guardV_split ?_ ?_ | refine condK_split ?_ ?_ | refine drawV_split ?_ ?_ | refine condY_split ?_ ?_ | refine guardY_split ?_ ?_) <;> intro h <;> try simp (maxSteps := 1000000) only [callOf, fstep, fpre, fstep0, fload, fcell, fstore, findexAddr, funary, evs, T, TI.isAgg, St.ev, St.put, splice, AV.cells, AV.known, Value.cells, List.getD_cons_zero, List.getD_cons_succ, List.set, List.map_cons, List.map_nil, List.length_cons, List.length_nil, List.drop_zero, List.take_zero, List.nil_append, List.getElem?_cons_zero, true_and, and_true, Bool.and_true, Bool.true_and, ↓reduceIte, Nat.reduceAdd, Nat.le_refl, Nat.zero_add, List.length_append, goY_nil, goY_skip, goY_yregion, goY_seq, goY_cond, goY_block, goY_exit, exitY_code, exitY_blk, exitY_nil, goY_ops_nil, goY_op, opYK_none, opYK_some, contY_some, callY_yield, condY_t, condY_f, loopYX_exit, itAn_eq, itAl_eq]
  · have hlt : i < l.length := by simpa using h
    have e1 := at_map (f := Ev.av) hlt
    have c1 : (0 : Int) ≤ (i : Int) ∧ Int.toNat (i : Int) < l.length := by omega
    have ew : IntKind.i64.wrap ((i : Int) + 1) = ((i + 1 : Nat) : Int) := by rw [wrap_i64 (by omega) (by omega)]; rfl
    have e3 : evYields (l.take i) ++ [[l[i].av]] = evYields (l.take (i + 1)) := by
      rw [take_one hlt]; simp only [evYields, List.map_append, List.map_cons, List.map_nil]
    have pre : evYields (l.take (i + 1)) <+: evYields l := (List.take_prefix _ l).map _
    change (evts l).getD _ _ = _ at e1
    unfold Ev.av at e1 e3
    try simp (maxSteps := 1000000) only [AV.flat, Value.oneCell', List.length_cons, List.length_nil, List.all_cons, List.all_nil, List.drop_succ_cons, List.drop_zero, List.take_succ_cons, List.take_zero, List.append_nil, true_and, and_true, Bool.and_true, Bool.true_and, Bool.and_self, Nat.reduceAdd, Nat.le_refl, Nat.add_zero, Nat.zero_add, e1, c1, evts_len]
    refine ⟨⟨by rw [e3]; exact pre, rfl⟩, ?_⟩
    intro b
    cases b with
    | true =>
      try simp (maxSteps := 1000000) only [callOf, fstep, fpre, fstep0, fbinA, fbin, fbin0, St.ev, St.put, List.getD_cons_zero, List.getD_cons_succ, List.set, true_and, Bool.true_and, Bool.not_true, goY_nil, goY_skip, goY_yregion, goY_blk, goY_ops_nil, goY_op, opYK_none, contY_some, condY_f, ew]
      simp only [loopYX_normal, St.trunc, St.keep, truncVs, truncV, keepV, pureAll, AV.pure, Bool.and_self, List.drop_zero, List.elem_cons, List.elem_nil, List.take_zero, List.map_nil, List.getElem?_cons_zero, Nat.reduceAdd, Nat.reduceBEq, Nat.le_refl, Nat.zero_add, Bool.false_eq_true, ↓reduceIte]
      exact ⟨i + 1, hlt, by omega, rfl, by rw [e3]⟩
    | false =>
      try simp (maxSteps := 1000000) only [Bool.not_false, goY_ret, condY_t, loopYX_ret]
      exact hK _ _ _ (itK_ret ⟨by rw [e3]; exact pre, fun h => by cases h⟩)
  · have hge : i = l.length := by have : ¬ ((i : Int) < (l.length : Int)) := by simpa using h
                                  omega
    subst hge
    refine hK _ _ _ (itK_normal ⟨(List.take_prefix _ l).map _, fun _ => by rw [List.take_length]⟩)
theorem ring_All (room : Int) (l : List Ev) (lost : Bool) (cs : List AV) : ACall P 86 [ringB room l lost, .row 37 8 (evts l), .box [.v (.slice none 0 0)]] [.ptr 0 0]
    (fun x m' => x = .fn 107 [.ptr 3 0] ∧ m' = [ringB room l lost, .row 37 8 (evts l), .box [.v (.slice none 0 0)], .box [.ptr 0 0]]) := by
  unfold ringB
  refine ACallN.toA (acallM_go tyOk Try.func86 rfl rfl (N := 3) (M := 4) (by simp) (by simp) ?_)
  intro K hK
  simp only [Try.ntmps86, List.length_cons, List.length_nil, Nat.reduceAdd, Nat.reduceSub, List.replicate, List.cons_append, List.nil_append]
  try simp (maxSteps := 1000000) only [go_region, go_seq, go_ret, go_ops_nil, go_op, opK_none, contK_some, callOf, fstep, fpre, fstep0, evs, St.ev, St.put, AV.cells, AV.known, List.getD_cons_zero, List.getD_cons_succ, List.set, List.length_cons, List.length_nil, List.cons_append, List.nil_append, List.size_toArray, true_and, Bool.true_and, Nat.reduceAdd, Nat.zero_add]
  apply hK
  simp only [Try.results86, retK, ares, List.take_nil, Bool.and_true, AV.ofResults, St.trunc, truncVs, truncV, AB.trunc, List.getD_cons_zero, List.getD_cons_succ, List.take_succ_cons, List.map_nil, List.map_cons, Nat.reduceLeDiff, and_true, ↓reduceIte, List.cons.injEq, exists_eq_left']
theorem evts_bare (fz : List Nat) (l : List Ev) : baresV fz (evts l) = true := by
  induction l with
  | nil => rfl
  | cons e l ih => rw [evts, List.map_cons, baresV, ← evts, ih]; rfl
theorem evts_pure (l : List Ev) : pureAll (evts l) = true := by
  induction l with
  | nil => rfl
  | cons e l ih => rw [evts, List.map_cons, pureAll, ← evts, ih]; rfl
theorem ring_Drain0 (room : Int) (l : List Ev) (lost : Bool) (hl : l.length ≤ 100000) : ACall P 55 (ringM room l lost) [.ptr 0 0]
    (fun x m' => x = .tup [.sl 8 (evts l), bool lost] ∧ m' = [.box [i64 room, .v (.slice none 0 0), bool false], .row 37 8 (evts l)]) := by
  unfold ringM
  have hall := ring_All room l lost []
  unfold ringB at hall ⊢
  refine acall_goY tyOk Try.func55 rfl rfl ?_
  intro K hK
  simp only [Try.ntmps55, List.length_cons, List.length_nil, Nat.reduceAdd, Nat.reduceSub, List.replicate, List.cons_append, List.nil_append]
  try simp (maxSteps := 1000000) only [go_nil, go_region, go_ops_nil, go_op, opK_none, opK_some, contK_some, callOf, callK_eq, callJ_nil, callD_fn, fstep, fpre, fstep0, evs, T, St.ev, St.put, AV.owners, ownersAll, List.getD_cons_zero, List.getD_cons_succ, List.set, List.map_cons, List.map_nil, List.length_cons, List.length_nil, List.cons_append, List.nil_append, List.append_nil, true_and, Bool.true_and, Nat.reduceAdd, Nat.zero_add, goY_region, goY_seq, yK_normal]
  refine callG_A (hall.mono ?_)
  rintro _ _ ⟨rfl, rfl⟩
  try simp (maxSteps := 1000000) only [go_nil, go_ops_nil, St.put, List.set, goY_block, goY_range, yK_normal]
  refine restY_turn (Turns.adoptIn (b := 2) (c := 0) 37 8 rfl rfl) ?_
  refine restY_thaw [0] [1, 0, 3] (by simp [St.adoptIn]) (by simp [St.adoptIn, AB.fzOk, bksAll, bks]) (by simp [St.adoptIn, bks]) ?_
  intro vs
  have hsl : (if 0 + l.length ≤ (evts l).length then AV.sl 8 ((evts l).take l.length) else AV.any) = .sl 8 (evts l) := sl_full (evts_len l)
  simp only [St.adoptIn, litT, St.colds, St.cold, coldVs, coldV, AB.cold, shutV, List.set, List.map_cons, List.map_nil, List.getElem?_cons_zero, List.getElem?_cons_succ, List.length_cons, List.length_nil, Nat.reduceAdd, Nat.reduceEqDiff, ↓reduceIte, List.cons_append, List.nil_append, true_and, hsl, pureAll, AV.pure, List.drop_zero, Bool.and_self, Nat.succ_ne_zero]
  refine range_rule tyOk (ring_seq room l lost hl) (α := Nat) 4 5 [0, 4] ([.v (vs.getD 0 undef), .any, .any, .any, .ptr 2 0, .any, .any, .any, .any, .any, .any, .any, .any, .any, .any, .any, .any, .any, .any, .any, .any, .any, .any, .any, .any, .any]) (fun xs i => i = xs.length ∧ i ≤ l.length)
    (fun i => [.gone, .gone, .box [.own 4 8 0 i], .gone, .row 37 8 (evts (l.take i))]) 0 rfl rfl
    (fun x hx => by simp only [evYields, List.mem_map] at hx; obtain ⟨p, _, rfl⟩ := hx; rfl) (by decide) (by decide) (by rfl) ⟨rfl, Nat.zero_le _⟩ rfl ?_ ?_
  · rintro xs x _ hpre ⟨rfl, hle⟩
    obtain ⟨hi, _, rfl⟩ := prefix_next hpre
    have hn : evts (l.take xs.length) ++ [l[xs.length].av] = evts (l.take (xs.length + 1)) := by rw [take_one hi]; simp only [evts, List.map_append, List.map_cons, List.map_nil]
    have hl2 : (evts (l.take xs.length)).length = xs.length := by rw [evts_len, List.length_take]; omega
    generalize l[xs.length] = e at *
    unfold Ev.av at hn
    try simp (maxSteps := 1000000) only [go_nil, go_region, go_block, go_blk, go_ops_nil, go_op, opK_none, contK_some, undef, callOf, fstep, fpre, fstep0, fload, fcell, fstore, evParts, evOwners, fbuildSlice, felems, fappend, T, TI.isAgg, TI.zeroOk, TI.zav, setParts, partsOk, St.ev, St.put, St.shutAll, St.rehome, killV, killVs, AB.kill, splice, AV.cells, AV.known, AV.flat, AV.pure, pureAll, AV.owners, ownersAll, Value.oneCell', List.getD_cons_zero, List.getD_cons_succ, List.set, List.map_cons, List.map_nil, List.length_cons, List.length_nil, List.all_cons, List.all_nil, List.drop_succ_cons, List.drop_zero, List.take_succ_cons, List.take_zero, List.headD_cons, List.cons_append, List.nil_append, List.append_nil, List.getElem?_cons_zero, List.getElem?_cons_succ, List.replicate, true_and, and_true, Bool.and_true, Bool.true_and, Bool.and_self, Bool.or_false, Bool.false_eq_true, ↓reduceIte, decide_true, decide_false, Nat.reduceAdd, Nat.reduceMul, Nat.reduceLeDiff, Nat.reduceEqDiff, Nat.reduceLT, Nat.le_refl, Nat.zero_add, List.length_append, setPs, roundA_normal, Ev.av, hl2]
    refine ⟨⟨by simp only [maxLen]; omega, by omega⟩, ?_⟩
    skip
    simp only [roundX_normal, St.trunc, truncVs, truncV, AB.trunc, pureAll, AV.pure, Bool.and_self, List.drop_zero, List.take_succ_cons, List.take_zero, List.map_cons, List.map_nil, List.getElem?_cons_zero, List.getElem?_cons_succ, List.length_cons, List.length_nil, Nat.reduceLeDiff, Nat.le_refl, Nat.zero_add, ↓reduceIte]
    exact ⟨xs.length + 1, ⟨by first | rfl | simp, by omega⟩, by rw [hn]⟩
  · rintro _ ⟨rfl, hle⟩
    have e1 : (evYields l).length = l.length := by simp [evYields]
    rw [e1, List.take_length]
    refine ⟨by simp, by simp, ?_⟩
    simp only [thawT, thawM, List.elem_cons, List.elem_nil, Nat.reduceAdd, Nat.reduceBEq, ↓reduceIte, Bool.false_eq_true, AV.bare, AB.bare, baresV, evts_bare, Bool.and_self, Bool.not_false, Nat.reduceLT, decide_true, decide_false, Bool.and_false, goYE_normal, beq_self_eq_true]
    try simp (maxSteps := 1000000) only [go_nil, go_region, go_ops_nil, go_op, opK_none, contK_some, callOf, fstep, fpre, fstep0, fload, fcell, fstore, ffieldAddr, T, TI.isAgg, St.ev, St.put, splice, AV.cells, AV.known, AV.flat, Value.cells, Value.oneCell', List.getD_cons_zero, List.getD_cons_succ, List.set, List.map_cons, List.map_nil, List.length_cons, List.length_nil, List.all_cons, List.all_nil, List.drop_succ_cons, List.drop_zero, List.take_succ_cons, List.take_zero, List.headD_cons, List.cons_append, List.nil_append, List.append_nil, List.getElem?_cons_zero, List.getElem?_cons_succ, List.replicate, List.getElem?_toArray, true_and, and_true, Bool.and_true, Bool.true_and, Bool.and_self, Bool.false_eq_true, ↓reduceIte, reduceCtorEq, ne_eq, not_false_eq_true, Nat.reduceAdd, Nat.reduceLeDiff, Nat.reduceLT, Nat.le_refl, Nat.zero_add, goY_region, goY_seq, goY_blk, goY_ret, yK_normal]
    apply hK
    simp only [Try.results55, retK, ares, Bool.and_true, Bool.true_and, AV.ofResults, St.trunc, truncVs, truncV, AB.trunc, List.getD_cons_zero, List.getD_cons_succ, List.take_zero, List.take_succ_cons, List.drop_zero, List.map_nil, List.map_cons, List.getElem?_cons_zero, List.getElem?_cons_succ, List.length_cons, List.length_nil, Nat.reduceAdd, Nat.reduceLeDiff, true_and, and_true, ↓reduceIte, List.cons.injEq, exists_eq_left']
    rw [sl_full (evts_len l)]
/-- A queue is emptied. -/
theorem ring_Drain (room : Int) (l : List Ev) (lost : Bool) (hl : l.length ≤ 100000) : ACallX P (fun i => i != 1) 55 (ringM room l lost) [.ptr 0 0]
    (fun x m' => x = .tup [.sl 8 (evts l), bool lost] ∧ m' = ringM room [] false) := by
  refine (ring_Drain0 room l lost hl).readopt 0 1 1 37 8 ?_
  rintro x m' ⟨rfl, rfl⟩
  exact ⟨_, rfl, rfl, by simp, rfl, rfl⟩
end Go.Proofs.Ytljgfapbbhbbpaa
namespace Go.Proofs.Ytljgfapbbhbbpaa
open Go Go.Proofs.Ytljgfapbbhbbpaa.Sym
set_option maxRecDepth 100000
set_option linter.unusedSimpArgs false
set_option linter.unusedVariables false

structure Fd where
  m : List (ByteArray × Int)
  room : Int
  q : Nat → List Ev × Bool
def feedC (m : List (ByteArray × Int)) : List AV := [.sl 1 (m.map fun p => str p.1), .sl 1 (m.map fun p => u32 p.2), .ptr 1 0, .ptr 2 0, .ptr 3 0, .ptr 4 0, .ptr 5 0, .ptr 6 0, .ptr 7 0, .ptr 8 0]
def qB (F : Fd) (j : Nat) : AB := .box [i64 F.room, .own (9 + j) 8 0 (F.q j).1.length, bool (F.q j).2]
def qR (F : Fd) (j : Nat) : AB := .row 37 8 (evts (F.q j).1)
/-- A feed, as it lies in memory. -/
def feedM (F : Fd) : List AB := [.box (feedC F.m), qB F 0, qB F 1, qB F 2, qB F 3, qB F 4, qB F 5, qB F 6, qB F 7, qR F 0, qR F 1, qR F 2, qR F 3, qR F 4, qR F 5, qR F 6, qR F 7]

section
variable (F : Fd) (r : List AB)
theorem fm_len : (feedM F).length = 17 := rfl
theorem fm_0n : (feedM F)[0]? = some (.box (feedC F.m)) := rfl
theorem fm_set0n {m' : List (ByteArray × Int)} : (feedM F).set 0 (.box [.sl 1 (m'.map fun p => str p.1), .sl 1 (m'.map fun p => u32 p.2), .ptr 1 0, .ptr 2 0, .ptr 3 0, .ptr 4 0, .ptr 5 0, .ptr 6 0, .ptr 7 0, .ptr 8 0]) = feedM { F with m := m' } := rfl
theorem fm_0 : (feedM F ++ r)[0]? = some (.box (feedC F.m)) := rfl
theorem fm_set0 {m' : List (ByteArray × Int)} : (feedM F ++ r).set 0 (.box [.sl 1 (m'.map fun p => str p.1), .sl 1 (m'.map fun p => u32 p.2), .ptr 1 0, .ptr 2 0, .ptr 3 0, .ptr 4 0, .ptr 5 0, .ptr 6 0, .ptr 7 0, .ptr 8 0]) = feedM { F with m := m' } ++ r := rfl
theorem fm_17 : (feedM F ++ r)[17]? = r[0]? := rfl
theorem fm_18 : (feedM F ++ r)[18]? = r[1]? := rfl
theorem fm_19 : (feedM F ++ r)[19]? = r[2]? := rfl
theorem fm_20 : (feedM F ++ r)[20]? = r[3]? := rfl
theorem fm_21 : (feedM F ++ r)[21]? = r[4]? := rfl
theorem fm_s17 {x : AB} : (feedM F ++ r).set 17 x = feedM F ++ r.set 0 x := rfl
theorem fm_s18 {x : AB} : (feedM F ++ r).set 18 x = feedM F ++ r.set 1 x := rfl
theorem fm_s19 {x : AB} : (feedM F ++ r).set 19 x = feedM F ++ r.set 2 x := rfl
theorem fm_s20 {x : AB} : (feedM F ++ r).set 20 x = feedM F ++ r.set 3 x := rfl
theorem fm_s21 {x : AB} : (feedM F ++ r).set 21 x = feedM F ++ r.set 4 x := rfl
theorem fm_alen : (feedM F ++ r).length = 17 + r.length := by rw [List.length_append, fm_len]
theorem fm_add (r' : List AB) : (feedM F ++ r) ++ r' = feedM F ++ (r ++ r') := List.append_assoc _ _ _
theorem fm_trunc {M : List AB} {n : Nat} (h : 17 ≤ n) : (feedM F).map (AB.trunc M n) = feedM F := by
  have k : ∀ b, b < 17 → ¬ n ≤ b := fun b hb => by omega
  simp only [feedM, feedC, qB, qR, List.map_cons, List.map_nil, AB.trunc, truncVs, truncV, k 1 (by decide), k 2 (by decide), k 3 (by decide), k 4 (by decide), k 5 (by decide), k 6 (by decide), k 7 (by decide), k 8 (by decide), k (9 + 0) (by decide), k (9 + 1) (by decide), k (9 + 2) (by decide), k (9 + 3) (by decide), k (9 + 4) (by decide), k (9 + 5) (by decide), k (9 + 6) (by decide), k (9 + 7) (by decide), if_false]
theorem fm_tk (k : Nat) : (feedM F ++ r).take (17 + k) = feedM F ++ r.take k := by
  rw [List.take_append, fm_len, List.take_of_length_le (by rw [fm_len]; omega), show 17 + k - 17 = k by omega]
theorem fm_ret {M : List AB} : ((feedM F ++ r).take 17).map (AB.trunc M 17) = feedM F := by
  rw [show (17 : Nat) = 17 + 0 from rfl, fm_tk, List.take_zero, List.append_nil, fm_trunc F (by decide)]
theorem fm_retn {M : List AB} : ((feedM F).take 17).map (AB.trunc M 17) = feedM F := by
  have := fm_ret F [] (M := M)
  rwa [List.append_nil] at this
theorem fm_rn {M : List AB} (k : Nat) : ((feedM F ++ r).take (17 + k)).map (AB.trunc M (17 + k)) = feedM F ++ (r.take k).map (AB.trunc M (17 + k)) := by
  rw [fm_tk, List.map_append, fm_trunc F (by omega)]
theorem fm_shut {M : List AB} {b : Nat} (h : 17 ≤ b) : (feedM F ++ r).map (AB.shut M b) = feedM F ++ r.map (AB.shut M b) := by
  have k : ∀ c, c < 17 → ¬ c = b := fun c hc => by omega
  rw [List.map_append]
  simp only [feedM, feedC, qB, qR, List.map_cons, List.map_nil, AB.shut, shutVs, shutV, k 1 (by decide), k 2 (by decide), k 3 (by decide), k 4 (by decide), k 5 (by decide), k 6 (by decide), k 7 (by decide), k 8 (by decide), k (9 + 0) (by decide), k (9 + 1) (by decide), k (9 + 2) (by decide), k (9 + 3) (by decide), k (9 + 4) (by decide), k (9 + 5) (by decide), k (9 + 6) (by decide), k (9 + 7) (by decide), if_false]
theorem fm_kill {b : Nat} (h : 17 ≤ b) : (feedM F).map (AB.kill b) = feedM F := by
  have k : ∀ c, c < 17 → ¬ c = b := fun c hc => by omega
  simp only [feedM, feedC, qB, qR, List.map_cons, List.map_nil, AB.kill, killVs, killV, k 1 (by decide), k 2 (by decide), k 3 (by decide), k 4 (by decide), k 5 (by decide), k 6 (by decide), k 7 (by decide), k 8 (by decide), k (9 + 0) (by decide), k (9 + 1) (by decide), k (9 + 2) (by decide), k (9 + 3) (by decide), k (9 + 4) (by decide), k (9 + 5) (by decide), k (9 + 6) (by decide), k (9 + 7) (by decide), if_false]
end

theorem fm_killA (F : Fd) (r : List AB) {b : Nat} (h : 17 ≤ b) : (feedM F ++ r).map (AB.kill b) = feedM F ++ r.map (AB.kill b) := by rw [List.map_append, fm_kill F h]
/-! ### Masks -/
def hasB (m k : Int) : Bool := andF .u32 (shrF .u32 m k) 1 == 1
def setB (m k : Int) : Int := orF .u32 m (shlF .u32 1 k)
def clrB (m k : Int) : Int := andNotF .u32 m (shlF .u32 1 k)
def cli (who : Int) : Bool := decide (0 ≤ who) && decide (who < 8)
theorem cli_iff {who : Int} (h : cli who = true) : ∃ k : Nat, k < 8 ∧ who = k := by
  simp only [cli, Bool.and_eq_true, decide_eq_true_eq] at h
  exact ⟨who.toNat, by omega, by omega⟩
theorem feed_client (who : Int) : PCall P 51 [i64 who] (fun x => x = bool (cli who)) := by
  refine pcall_go tyOk Try.func51 rfl rfl ?_
  intro K hK
  simp only [Try.ntmps51, List.length_cons, List.length_nil, Nat.reduceAdd, Nat.reduceSub, List.replicate, List.cons_append, List.nil_append]
  try simp (maxSteps := 1000000) only [go_region, go_seq, go_ops_nil, go_op, go_guard, opK_none, contK_some, guardK_eq, callOf, fstep, fpre, fstep0, fbinA, fbin, fbin0, St.ev, St.put, List.getD_cons_zero, List.getD_cons_succ, List.set, List.getElem?_cons_zero, List.getElem?_cons_succ, Option.bind_some, List.getElem?_toArray, true_and, Bool.true_and]
  (first | refine guardV_split ?_ ?_ | refine condK_split ?_ ?_ | refine drawV_split ?_ ?_ | refine condY_split ?_ ?_ | refine guardY_split ?_ ?_) <;> intro h
  · try simp (maxSteps := 1000000) only [go_ret, go_ops_nil, go_op, go_guard, opK_none, contK_some, guardK_eq, guardV_tt, callOf, fstep, fpre, fstep0, fbinA, fbin, fbin0, fpick, St.ev, St.put, List.getD_cons_zero, List.getD_cons_succ, List.set, List.getElem?_cons_zero, List.getElem?_cons_succ, Option.bind_some, List.getElem?_toArray, true_and, Bool.true_and, cond_true]
    apply hK
    simp only [Try.results51, retK, ares, List.take_nil, Bool.and_true, Bool.true_and, AV.ofResults, St.trunc, truncVs, truncV, List.getD_cons_zero, List.getD_cons_succ, List.map_nil, true_and, and_true, List.cons.injEq, exists_eq_left']
    rw [cli, h, Bool.true_and]
  · try simp (maxSteps := 1000000) only [go_ret, go_ops_nil, go_op, go_guard, opK_none, contK_some, guardK_eq, guardV_ft, undef, callOf, fstep, fpre, fstep0, fpick, St.ev, St.put, List.getD_cons_zero, List.getD_cons_succ, List.set, List.getElem?_cons_zero, List.getElem?_cons_succ, Option.bind_some, List.getElem?_toArray, true_and, Bool.true_and, Bool.false_eq_true, ↓reduceIte]
    apply hK
    simp only [Try.results51, retK, ares, List.take_nil, Bool.and_true, Bool.true_and, AV.ofResults, St.trunc, truncVs, truncV, List.getD_cons_zero, List.getD_cons_succ, List.map_nil, true_and, and_true, List.cons.injEq, exists_eq_left']
    rw [cli, h, Bool.false_and]

def maskOf (m : List (ByteArray × Int)) (u : ByteArray) : Int := (getG ltS eqS 0 m u).1
def watF (m : List (ByteArray × Int)) (who : Int) (u : ByteArray) : Bool := cli who && hasB (maskOf m u) who
theorem get_su (m : List (ByteArray × Int)) (u : ByteArray) (hr : rises_su m) (hl : m.length ≤ 1000) : PCall P 52 [.agg [.sl 1 (m.map fun p => str p.1), .sl 1 (m.map fun p => u32 p.2)], str u]
    (fun x => x = .tup [u32 (maskOf m u), bool (getG ltS eqS 0 m u).2]) := get_call_su m u hr (by omega)
theorem feed_Watching (F : Fd) (who : Int) (u : ByteArray) (hr : rises_su F.m) (hl : F.m.length ≤ 1000) : ACall P 29 (feedM F) [.ptr 0 0, i64 who, str u]
    (fun x m' => x = bool (watF F.m who u) ∧ m' = feedM F) := by
  refine acall_go tyOk Try.func29 rfl rfl ?_
  intro K hK
  rw [fm_len] at hK ⊢
  simp only [Try.ntmps29, List.length_cons, List.length_nil, Nat.reduceAdd, Nat.reduceSub, List.replicate, List.cons_append, List.nil_append]
  try simp (maxSteps := 1000000) only [go_region, go_seq, go_ops_nil, go_op, opK_none, opK_some, contK_some, callOf, callK_eq, callJ_nil, callD_fn, fstep, fpre, fstep0, fload, fcell, ffieldAddr, evs, T, TI.isAgg, St.ev, St.put, AV.owners, ownersAll, List.getD_cons_zero, List.getD_cons_succ, List.set, List.length_cons, List.length_nil, List.drop_zero, List.take_succ_cons, List.take_zero, List.append_nil, List.getElem?_cons_zero, List.getElem?_toArray, true_and, Bool.true_and, ↓reduceIte, reduceCtorEq, ne_eq, not_false_eq_true, Nat.reduceAdd, Nat.reduceLeDiff, Nat.add_zero, Nat.zero_add, fm_0n, feedC]
  (refine callG_use (get_su F.m u hr hl) rfl ?_; rintro _ rfl)
  try simp (maxSteps := 1000000) only [go_region, go_seq, go_ops_nil, go_op, opK_none, opK_some, contK_some, callOf, callK_eq, callJ_nil, callD_fn, fstep, fpre, fstep0, evs, St.ev, St.put, AV.owners, ownersAll, List.getD_cons_zero, List.getD_cons_succ, List.set, List.length_cons, List.length_nil, List.append_nil, true_and, Bool.true_and, Nat.reduceAdd, Nat.reduceLT, Nat.zero_add]
  (refine callG_use (feed_client who) rfl ?_; rintro _ rfl)
  unfold watF at hK
  cases hc : cli who
  · rw [hc] at hK
    try simp (maxSteps := 1000000) only [go_ret, go_ops_nil, go_op, go_guard, opK_none, contK_some, guardK_eq, guardV_ft, undef, callOf, fstep, fpre, fstep0, fpick, St.ev, St.put, List.getD_cons_zero, List.getD_cons_succ, List.set, List.getElem?_cons_zero, List.getElem?_cons_succ, Option.bind_some, List.getElem?_toArray, true_and, Bool.true_and, Bool.false_eq_true, ↓reduceIte]
    apply hK
    simp only [Try.results29, retK, ares, Bool.and_true, AV.ofResults, St.trunc, truncVs, truncV, List.getD_cons_zero, List.getD_cons_succ, and_true, List.cons.injEq, exists_eq_left']
    rw [fm_retn, Bool.false_and]
    exact ⟨rfl, rfl⟩
  · rw [hc] at hK
    obtain ⟨k, hk, rfl⟩ := cli_iff hc
    have h0 : (0 : Int) ≤ (k : Int) := by omega
    try simp (maxSteps := 1000000) only [go_ret, go_ops_nil, go_op, go_guard, opK_none, contK_some, guardK_eq, guardV_tt, callOf, fstep, fpre, fstep0, fbinA, gbin, gbits, gnil, fbin, fbin0, fpick, St.ev, St.put, List.getD_cons_zero, List.getD_cons_succ, List.set, List.getElem?_cons_zero, List.getElem?_cons_succ, Option.bind_some, List.getElem?_toArray, true_and, Bool.true_and, cond_true, h0]
    apply hK
    simp only [Try.results29, retK, ares, Bool.and_true, Bool.true_and, AV.ofResults, St.trunc, truncVs, truncV, List.getD_cons_zero, List.getD_cons_succ, true_and, and_true, List.cons.injEq, exists_eq_left']
    rw [fm_retn]
    exact ⟨rfl, rfl⟩
theorem with_su (m : List (ByteArray × Int)) (u : ByteArray) (v : Int) (hr : rises_su m) (hl : m.length ≤ 1000) : PCall P 53 [.agg [.sl 1 (m.map fun p => str p.1), .sl 1 (m.map fun p => u32 p.2)], str u, u32 v]
    (fun x => x = .agg [.sl 1 ((withG ltS eqS m u v).map fun p => str p.1), .sl 1 ((withG ltS eqS m u v).map fun p => u32 p.2)]) := with_call_su m u v hr (by omega)
theorem without_su (m : List (ByteArray × Int)) (u : ByteArray) (hr : rises_su m) (hl : m.length ≤ 1000) : PCall P 56 [.agg [.sl 1 (m.map fun p => str p.1), .sl 1 (m.map fun p => u32 p.2)], str u]
    (fun x => x = .agg [.sl 1 ((withoutG ltS eqS m u).map fun p => str p.1), .sl 1 ((withoutG ltS eqS m u).map fun p => u32 p.2)]) := without_call_su m u hr (by omega)
/-- Who watches, behind a Watch. -/
def watchM (m : List (ByteArray × Int)) (who : Int) (u : ByteArray) : List (ByteArray × Int) := if cli who = true then withG ltS eqS m u (setB (maskOf m u) who) else m
theorem feed_Watch (F : Fd) (who : Int) (u : ByteArray) (hr : rises_su F.m) (hl : F.m.length ≤ 1000) : ACall P 17 (feedM F) [.ptr 0 0, i64 who, str u]
    (fun x m' => m' = feedM { F with m := watchM F.m who u }) := by
  refine acall_go tyOk Try.func17 rfl rfl ?_
  intro K hK
  rw [fm_len] at hK ⊢
  simp only [Try.ntmps17, List.length_cons, List.length_nil, Nat.reduceAdd, Nat.reduceSub, List.replicate, List.cons_append, List.nil_append]
  try simp (maxSteps := 1000000) only [go_region, go_seq, go_op, opK_none, opK_some, contK_some, callOf, callK_eq, callJ_nil, callD_fn, fstep, fpre, fstep0, evs, St.ev, St.put, AV.owners, ownersAll, List.getD_cons_zero, List.getD_cons_succ, List.set, List.append_nil, true_and, Bool.true_and]
  (refine callG_use (feed_client who) rfl ?_; rintro _ rfl)
  unfold watchM at hK
  cases hc : cli who
  · rw [hc, if_neg (by decide)] at hK
    try simp (maxSteps := 1000000) only [go_cond, go_ret, go_ops_nil, go_op, opK_none, contK_some, condK_t, callOf, fstep, fpre, fstep0, funary, St.ev, St.put, List.getD_cons_zero, List.getD_cons_succ, List.set, true_and, Bool.true_and, Bool.not_false]
    apply hK
    simp only [Try.results17, retK, ares, Bool.and_true, AV.ofResults, St.trunc, truncVs, and_true, List.cons.injEq, exists_eq_left']
    rw [fm_retn]
  · rw [hc, if_pos rfl] at hK
    obtain ⟨k, hk, rfl⟩ := cli_iff hc
    have h0 : (0 : Int) ≤ (k : Int) := by omega
    try simp (maxSteps := 1000000) only [go_skip, go_region, go_seq, go_cond, go_ops_nil, go_op, opK_none, opK_some, contK_some, condK_f, callOf, callK_eq, callJ_nil, callD_fn, fstep, fpre, fstep0, fload, fcell, ffieldAddr, funary, evs, T, TI.isAgg, St.ev, St.put, AV.owners, ownersAll, List.getD_cons_zero, List.getD_cons_succ, List.set, List.length_cons, List.length_nil, List.drop_zero, List.take_succ_cons, List.take_zero, List.append_nil, List.getElem?_cons_zero, List.getElem?_toArray, true_and, Bool.true_and, Bool.not_true, ↓reduceIte, reduceCtorEq, ne_eq, not_false_eq_true, Nat.reduceAdd, Nat.reduceLeDiff, Nat.add_zero, Nat.zero_add, fm_0n, feedC]
    (refine callG_use (get_su F.m u hr hl) rfl ?_; rintro _ rfl)
    try simp (maxSteps := 1000000) only [go_draws, go_ops_nil, go_op, opK_none, contK_some, callOf, fstep, fpre, fstep0, St.ev, St.put, List.getD_cons_zero, List.getD_cons_succ, List.set, List.length_cons, List.length_nil, true_and, Bool.true_and, Nat.reduceAdd, Nat.reduceLT, Nat.zero_add]
    refine draw_rule tyOk (by rfl) (by simp only [fm_len]; omega) (by kernel_rfl) rfl ?_
    try simp (maxSteps := 1000000) only [callOf, fstep0, fbinA, gbin, gbits, gnil, newF, fbin, fbin0, fload, fcell, ffieldAddr, evs, T, TI.isAgg, St.ev, St.put, List.getD_cons_zero, List.getD_cons_succ, List.set, List.length_cons, List.length_nil, List.drop_zero, List.take_succ_cons, List.take_zero, List.append_nil, List.getElem?_cons_zero, List.replicate, List.getElem?_toArray, true_and, Bool.true_and, Bool.or_false, Bool.false_eq_true, ↓reduceIte, reduceCtorEq, ne_eq, not_false_eq_true, Nat.reduceAdd, Nat.reduceLeDiff, Nat.add_zero, Nat.zero_add, Nat.reduceBEq, newCount, drawR_op, drawP_none, drawP_some, drawQ_some, drawH_fn, dstep, isFree, St.app, bump, isNew, fm_0n, fm_len, feedC, h0]
    refine drawCall_use (with_su F.m u (setB (maskOf F.m u) k) hr hl) rfl ?_
    try simp (maxSteps := 1000000) only [go_nil, callOf, fstep0, newF, ffieldAddr, T, St.ev, St.put, splice, AV.cells, AV.known, AV.flat, List.getD_cons_zero, List.getD_cons_succ, List.set, List.length_cons, List.length_nil, List.all_cons, List.all_nil, List.drop_succ_cons, List.drop_zero, List.take_zero, List.cons_append, List.nil_append, List.getElem?_cons_zero, List.getElem?_toArray, true_and, and_true, Bool.and_true, Bool.true_and, Bool.and_self, Bool.or_false, Bool.false_eq_true, ↓reduceIte, reduceCtorEq, ne_eq, not_false_eq_true, Nat.reduceAdd, Nat.reduceLeDiff, Nat.add_zero, Nat.zero_add, Nat.reduceBEq, drawR_nil, drawR_op, drawP_none, drawQ_some, dstep, isFree, dstore, St.app, bump, isNew, fm_0n, fm_set0n, feedC]
    refine ⟨by kernel_rfl, ?_⟩
    skip
    apply hK
    simp only [Try.results17, retK, ares, Bool.and_true, AV.ofResults, St.trunc, truncVs, and_true, List.cons.injEq, exists_eq_left']
    rw [fm_retn]
/-- Who watches, behind an Unwatch. -/
def unwatchM (m : List (ByteArray × Int)) (who : Int) (u : ByteArray) : List (ByteArray × Int) :=
  if cli who = true then (if (maskOf m u == 0) = true then m else if (clrB (maskOf m u) who == 0) = true then withoutG ltS eqS m u else withG ltS eqS m u (clrB (maskOf m u) who)) else m
theorem feed_Unwatch (F : Fd) (who : Int) (u : ByteArray) (hr : rises_su F.m) (hl : F.m.length ≤ 1000) : ACall P 25 (feedM F) [.ptr 0 0, i64 who, str u]
    (fun x m' => m' = feedM { F with m := unwatchM F.m who u }) := by
  refine acall_go tyOk Try.func25 rfl rfl ?_
  intro K hK
  rw [fm_len] at hK ⊢
  simp only [Try.ntmps25, List.length_cons, List.length_nil, Nat.reduceAdd, Nat.reduceSub, List.replicate, List.cons_append, List.nil_append]
  try simp (maxSteps := 1000000) only [go_region, go_seq, go_op, opK_none, opK_some, contK_some, callOf, callK_eq, callJ_nil, callD_fn, fstep, fpre, fstep0, fload, fcell, ffieldAddr, evs, T, TI.isAgg, St.ev, St.put, AV.owners, ownersAll, List.getD_cons_zero, List.getD_cons_succ, List.set, List.length_cons, List.length_nil, List.drop_zero, List.take_succ_cons, List.take_zero, List.append_nil, List.getElem?_cons_zero, List.getElem?_toArray, true_and, Bool.true_and, ↓reduceIte, reduceCtorEq, ne_eq, not_false_eq_true, Nat.reduceAdd, Nat.reduceLeDiff, Nat.add_zero, Nat.zero_add, fm_0n, feedC]
  (refine callG_use (get_su F.m u hr hl) rfl ?_; rintro _ rfl)
  try simp (maxSteps := 1000000) only [go_region, go_seq, go_ops_nil, go_op, opK_none, opK_some, contK_some, callOf, callK_eq, callJ_nil, callD_fn, fstep, fpre, fstep0, evs, St.ev, St.put, AV.owners, ownersAll, List.getD_cons_zero, List.getD_cons_succ, List.set, List.length_cons, List.length_nil, List.append_nil, true_and, Bool.true_and, Nat.reduceAdd, Nat.reduceLT, Nat.zero_add]
  (refine callG_use (feed_client who) rfl ?_; rintro _ rfl)
  unfold unwatchM at hK
  cases hc : cli who
  · rw [hc, if_neg (by decide)] at hK
    try simp (maxSteps := 1000000) only [go_cond, go_ret, go_ops_nil, go_op, go_guard, opK_none, contK_some, condK_t, guardK_eq, guardV_tf, undef, callOf, fstep, fpre, fstep0, funary, fpick, St.ev, St.put, List.getD_cons_zero, List.getD_cons_succ, List.set, List.getElem?_cons_zero, List.getElem?_cons_succ, Option.bind_some, List.getElem?_toArray, true_and, Bool.true_and, Bool.not_false, ↓reduceIte]
    apply hK
    simp only [Try.results25, retK, ares, Bool.and_true, AV.ofResults, St.trunc, truncVs, and_true, List.cons.injEq, exists_eq_left']
    rw [fm_retn]
  · rw [hc, if_pos rfl] at hK
    obtain ⟨k, hk, rfl⟩ := cli_iff hc
    have h0 : (0 : Int) ≤ (k : Int) := by omega
    try simp (maxSteps := 1000000) only [go_cond, go_ops_nil, go_op, go_guard, opK_none, contK_some, guardK_eq, guardV_ff, callOf, fstep, fpre, fstep0, fbinA, fbin, fbin0, funary, fpick, St.ev, St.put, List.getD_cons_zero, List.getD_cons_succ, List.set, List.getElem?_cons_zero, List.getElem?_cons_succ, Option.bind_some, List.getElem?_toArray, true_and, Bool.true_and, Bool.not_true, cond_false]
    (first | refine guardV_split ?_ ?_ | refine condK_split ?_ ?_ | refine drawV_split ?_ ?_ | refine condY_split ?_ ?_ | refine guardY_split ?_ ?_) <;> intro h1
    · rw [h1, if_pos rfl] at hK
      try simp (maxSteps := 1000000) only [go_ret, condK_t]
      apply hK
      simp only [Try.results25, retK, ares, Bool.and_true, AV.ofResults, St.trunc, truncVs, and_true, List.cons.injEq, exists_eq_left']
      rw [fm_retn]
    · rw [h1, if_neg (by decide)] at hK
      try simp (maxSteps := 1000000) only [go_skip, go_region, go_seq, go_cond, go_ops_nil, go_op, opK_none, contK_some, condK_f, callOf, fstep, fpre, fstep0, fbinA, gbin, gbits, gnil, fbin, fbin0, St.ev, St.put, List.getD_cons_zero, List.getD_cons_succ, List.set, true_and, Bool.true_and, h0]
      (first | refine guardV_split ?_ ?_ | refine condK_split ?_ ?_ | refine drawV_split ?_ ?_ | refine condY_split ?_ ?_ | refine guardY_split ?_ ?_) <;> intro h2
      · rw [show (clrB (maskOf F.m u) k == 0) = true from h2, if_pos rfl] at hK
        try simp (maxSteps := 1000000) only [go_region, go_seq, go_op, opK_none, opK_some, contK_some, condK_t, callOf, callK_eq, callJ_nil, callD_fn, fstep, fpre, fstep0, fload, fcell, ffieldAddr, evs, T, TI.isAgg, St.ev, St.put, AV.owners, ownersAll, List.getD_cons_zero, List.getD_cons_succ, List.set, List.length_cons, List.length_nil, List.drop_zero, List.take_succ_cons, List.take_zero, List.append_nil, List.getElem?_cons_zero, List.getElem?_toArray, true_and, Bool.true_and, ↓reduceIte, reduceCtorEq, ne_eq, not_false_eq_true, Nat.reduceAdd, Nat.reduceLeDiff, Nat.add_zero, Nat.zero_add, fm_0n, feedC]
        (refine callG_use (without_su F.m u hr hl) rfl ?_; rintro _ rfl)
        try simp (maxSteps := 1000000) only [go_ret, go_ops_nil, go_op, opK_none, contK_some, callOf, fstep, fpre, fstep0, fstore, ffieldAddr, T, St.ev, St.put, splice, AV.cells, AV.known, AV.flat, List.getD_cons_zero, List.getD_cons_succ, List.set, List.length_cons, List.length_nil, List.all_cons, List.all_nil, List.drop_succ_cons, List.drop_zero, List.take_zero, List.cons_append, List.nil_append, List.getElem?_cons_zero, List.getElem?_toArray, true_and, and_true, Bool.and_true, Bool.true_and, Bool.and_self, reduceCtorEq, ne_eq, not_false_eq_true, Nat.reduceAdd, Nat.reduceLeDiff, Nat.add_zero, Nat.zero_add, fm_0n, fm_set0n, feedC]
        apply hK
        simp only [Try.results25, retK, ares, Bool.and_true, AV.ofResults, St.trunc, truncVs, and_true, List.cons.injEq, exists_eq_left']
        rw [fm_retn]
      · rw [show (clrB (maskOf F.m u) k == 0) = false from h2, if_neg (by decide)] at hK
        try simp (maxSteps := 1000000) only [go_skip, go_region, go_op, opK_none, opK_some, contK_some, condK_f, callOf, callK_eq, callJ_nil, callD_fn, fstep, fpre, fstep0, fload, fcell, ffieldAddr, evs, T, TI.isAgg, St.ev, St.put, AV.owners, ownersAll, List.getD_cons_zero, List.getD_cons_succ, List.set, List.length_cons, List.length_nil, List.drop_zero, List.take_succ_cons, List.take_zero, List.append_nil, List.getElem?_cons_zero, List.getElem?_toArray, true_and, Bool.true_and, ↓reduceIte, reduceCtorEq, ne_eq, not_false_eq_true, Nat.reduceAdd, Nat.reduceLeDiff, Nat.add_zero, Nat.zero_add, fm_0n, feedC]
        (refine callG_use (with_su F.m u (clrB (maskOf F.m u) k) hr hl) rfl ?_; rintro _ rfl)
        try simp (maxSteps := 1000000) only [go_nil, go_ops_nil, go_op, opK_none, contK_some, callOf, fstep, fpre, fstep0, fstore, ffieldAddr, T, St.ev, St.put, splice, AV.cells, AV.known, AV.flat, List.getD_cons_zero, List.getD_cons_succ, List.set, List.length_cons, List.length_nil, List.all_cons, List.all_nil, List.drop_succ_cons, List.drop_zero, List.take_zero, List.cons_append, List.nil_append, List.getElem?_cons_zero, List.getElem?_toArray, true_and, and_true, Bool.and_true, Bool.true_and, Bool.and_self, reduceCtorEq, ne_eq, not_false_eq_true, Nat.reduceAdd, Nat.reduceLeDiff, Nat.add_zero, Nat.zero_add, fm_0n, fm_set0n, feedC]
        apply hK
        simp only [Try.results25, retK, ares, Bool.and_true, AV.ofResults, St.trunc, truncVs, and_true, List.cons.injEq, exists_eq_left']
        rw [fm_retn]

/-- How many users a client watches. -/
def cntM (m : List (ByteArray × Int)) (who : Int) : Nat := (m.filter fun p => cli who && hasB p.2 who).length
theorem cnt_next {m : List (ByteArray × Int)} {who : Int} {i : Nat} (h : i < m.length) : cntM (m.take (i + 1)) who = cntM (m.take i) who + (if (cli who && hasB m[i].2 who) = true then 1 else 0) := by
  rw [take_one h, cntM, List.filter_append, List.length_append, ← cntM, List.filter_cons]
  split <;> rfl
theorem cnt_le (m : List (ByteArray × Int)) (who : Int) : cntM m who ≤ m.length := List.length_filter_le _ _
theorem feed_Count (F : Fd) (who : Int) (hl : F.m.length ≤ 1000) : ACall P 31 (feedM F) [.ptr 0 0, i64 who]
    (fun x m' => x = i64 (cntM F.m who : Nat) ∧ m' = feedM F) := by
  refine acall_goY tyOk Try.func31 rfl rfl ?_
  intro K hK
  rw [fm_len] at hK ⊢
  simp only [Try.ntmps31, List.length_cons, List.length_nil, Nat.reduceAdd, Nat.reduceSub, List.replicate, List.cons_append, List.nil_append]
  have hall := all_call_su F.m
  unfold map_su at hall
  try simp (maxSteps := 1000000) only [go_nil, go_region, go_ops_nil, go_op, opK_none, opK_some, contK_some, callOf, callK_eq, callJ_nil, callD_fn, fstep, fpre, fstep0, fload, fcell, fstore, ffieldAddr, evs, T, TI.isAgg, St.ev, St.put, splice, AV.cells, AV.known, AV.flat, AV.owners, ownersAll, Value.cells, Value.oneCell', List.getD_cons_zero, List.getD_cons_succ, List.set, List.map_cons, List.map_nil, List.length_cons, List.length_nil, List.all_cons, List.all_nil, List.drop_succ_cons, List.drop_zero, List.take_succ_cons, List.take_zero, List.cons_append, List.nil_append, List.append_nil, List.getElem?_cons_zero, List.getElem?_cons_succ, List.getElem?_toArray, true_and, and_true, Bool.and_true, Bool.true_and, Bool.and_self, ↓reduceIte, reduceCtorEq, ne_eq, not_false_eq_true, Nat.reduceAdd, Nat.reduceLeDiff, Nat.le_refl, Nat.add_zero, Nat.zero_add, List.length_append, goY_region, goY_seq, yK_normal, fm_0, fm_18, fm_s18, fm_len, fm_add, feedC]
  (refine callG_use hall rfl ?_; rintro _ rfl)
  try simp (maxSteps := 1000000) only [go_nil, go_ops_nil, St.put, List.set, goY_block, goY_range, yK_normal]
  refine range_rule tyOk (seq_su F.m (by omega)) (α := Nat) 19 19 [0, 3, 5] ([.ptr 0 0, .any, .any, .ptr 17 0, .any, .ptr 18 0, .any, .any, .any, .any, .any, .any, .any, .any, .any, .any, .any, .any, .any, .any, .any, .any, .any, .any, .any, .any, .any]) (fun xs i => i = xs.length ∧ i ≤ F.m.length)
    (fun i => feedM F ++ [.box [i64 who], .box [i64 (cntM (F.m.take i) who : Nat)]]) 0 rfl rfl
    (fun x hx => by simp only [pairs_su, List.mem_map] at hx; obtain ⟨p, _, rfl⟩ := hx; rfl) (by decide) (by decide) (by rfl) ⟨rfl, Nat.zero_le _⟩ rfl ?_ ?_
  · rintro xs x _ hpre ⟨rfl, hle⟩
    obtain ⟨hi, _, rfl⟩ := prefix_next hpre
    have hn := cnt_next (who := who) hi
    have hc2 := cnt_le (F.m.take xs.length) who
    rw [List.length_take] at hc2
    generalize F.m[xs.length] = p at *
    generalize cntM (F.m.take xs.length) who = n at *
    have ew : IntKind.i64.wrap ((n : Int) + 1) = ((n + 1 : Nat) : Int) := by rw [wrap_i64 (by omega) (by omega)]; rfl
    try simp (maxSteps := 1000000) only [go_nil, go_region, go_seq, go_block, go_ops_nil, go_op, opK_none, opK_some, contK_some, callOf, callK_eq, callJ_nil, callD_fn, fstep, fpre, fstep0, fload, fcell, evs, T, TI.isAgg, St.ev, St.put, AV.owners, ownersAll, List.getD_cons_zero, List.getD_cons_succ, List.set, List.length_cons, List.length_nil, List.drop_zero, List.headD_cons, List.append_nil, List.getElem?_cons_zero, true_and, Bool.true_and, Bool.false_eq_true, ↓reduceIte, Nat.reduceLT, Nat.zero_add, List.length_append, setPs, roundA_normal, fm_17]
    (refine callG_use (feed_client who) rfl ?_; rintro _ rfl)
    try simp (maxSteps := 1000000) only [go_op, go_guard, opK_none, contK_some, guardK_eq, callOf, fstep, fpre, fstep0, St.ev, St.put, List.getD_cons_zero, List.getD_cons_succ, List.set, List.getElem?_cons_zero, List.getElem?_cons_succ, Option.bind_some, List.getElem?_toArray, true_and, Bool.true_and]
    cases hc : cli who
    · rw [hc] at hn
      try simp (maxSteps := 1000000) only [go_nil, go_skip, go_cond, go_blk, go_ops_nil, go_op, go_guard, opK_none, contK_some, condK_f, guardK_eq, guardV_ft, undef, callOf, fstep, fpre, fstep0, fpick, St.ev, St.put, List.getD_cons_zero, List.getD_cons_succ, List.set, List.getElem?_cons_zero, List.getElem?_cons_succ, Option.bind_some, List.getElem?_toArray, true_and, Bool.true_and, Bool.false_eq_true, ↓reduceIte]
      simp only [roundX_normal, St.trunc, truncVs, truncV, Nat.reduceLeDiff, ↓reduceIte]
      exact ⟨xs.length + 1, ⟨by first | rfl | simp, by omega⟩, by rw [hn]; rfl⟩
    · rw [hc] at hn
      obtain ⟨k, hk, rfl⟩ := cli_iff hc
      have h0 : (0 : Int) ≤ (k : Int) := by omega
      try simp (maxSteps := 1000000) only [go_cond, go_ops_nil, go_op, go_guard, opK_none, contK_some, guardK_eq, guardV_tt, callOf, fstep, fpre, fstep0, fbinA, gbin, gbits, gnil, fbin, fbin0, fload, fcell, fpick, T, TI.isAgg, St.ev, St.put, List.getD_cons_zero, List.getD_cons_succ, List.set, List.length_cons, List.length_nil, List.drop_zero, List.headD_cons, List.getElem?_cons_zero, List.getElem?_cons_succ, Option.bind_some, List.getElem?_toArray, true_and, Bool.true_and, Bool.false_eq_true, ↓reduceIte, Nat.reduceLT, Nat.zero_add, cond_true, fm_17, h0]
      (first | refine guardV_split ?_ ?_ | refine condK_split ?_ ?_ | refine drawV_split ?_ ?_ | refine condY_split ?_ ?_ | refine guardY_split ?_ ?_) <;> intro h1
      · rw [show hasB p.2 k = true from h1] at hn
        try simp (maxSteps := 1000000) only [go_nil, go_region, go_blk, go_ops_nil, go_op, opK_none, contK_some, condK_t, callOf, fstep, fpre, fstep0, fbinA, fbin, fbin0, fload, fcell, fstore, T, TI.isAgg, St.ev, St.put, splice, AV.cells, AV.known, AV.flat, Value.cells, Value.oneCell', List.getD_cons_zero, List.getD_cons_succ, List.set, List.map_cons, List.map_nil, List.length_cons, List.length_nil, List.all_cons, List.all_nil, List.drop_succ_cons, List.drop_zero, List.take_zero, List.headD_cons, List.nil_append, List.append_nil, List.getElem?_cons_zero, List.getElem?_cons_succ, true_and, and_true, Bool.and_true, Bool.true_and, Bool.and_self, Bool.false_eq_true, ↓reduceIte, Nat.reduceLT, Nat.le_refl, Nat.zero_add, fm_18, fm_s18, ew]
        simp only [roundX_normal, St.trunc, truncVs, truncV, Nat.reduceLeDiff, ↓reduceIte]
        exact ⟨xs.length + 1, ⟨by first | rfl | simp, by omega⟩, by rw [hn]; rfl⟩
      · rw [show hasB p.2 k = false from h1] at hn
        try simp (maxSteps := 1000000) only [go_nil, go_skip, go_blk, condK_f]
        simp only [roundX_normal, St.trunc, truncVs, truncV, Nat.reduceLeDiff, ↓reduceIte]
        exact ⟨xs.length + 1, ⟨by first | rfl | simp, by omega⟩, by rw [hn]; rfl⟩
  · rintro _ ⟨rfl, hle⟩
    have e1 : (pairs_su F.m).length = F.m.length := by simp [pairs_su]
    rw [e1, List.take_length]
    try simp (maxSteps := 1000000) only [go_nil, go_region, go_ops_nil, go_op, opK_none, contK_some, callOf, fstep, fpre, fstep0, fload, fcell, T, TI.isAgg, St.ev, St.put, List.getD_cons_zero, List.getD_cons_succ, List.set, List.length_cons, List.length_nil, List.drop_zero, List.headD_cons, List.getElem?_cons_zero, List.getElem?_cons_succ, true_and, Bool.true_and, Bool.false_eq_true, ↓reduceIte, Nat.reduceLT, Nat.zero_add, goY_region, goY_seq, goY_blk, goY_ret, yK_normal, fm_18]
    apply hK
    simp only [Try.results31, retK, ares, Bool.and_true, Bool.true_and, AV.ofResults, St.trunc, truncVs, truncV, List.getD_cons_zero, List.getD_cons_succ, true_and, and_true, List.cons.injEq, exists_eq_left']
    rw [fm_ret]
end Go.Proofs.Ytljgfapbbhbbpaa
