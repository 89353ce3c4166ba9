/- The library's search. -/
import Derived.Test.YtljgfapbbhbbpaaTy
import Derived.Test.YtljgfapbbhbbpaaPlain
namespace Go.Proofs.Ytljgfapbbhbbpaa
open Go Go.Proofs.Ytljgfapbbhbbpaa.Sym
set_option maxRecDepth 100000
set_option linter.unusedSimpArgs false
set_option linter.unusedVariables false

abbrev u64 (n : Int) : AV := .v (.int .u64 n)
abbrev i64 (n : Int) : AV := .v (.int .i64 n)
abbrev bool (b : Bool) : AV := .v (.bool b)
abbrev str (s : ByteArray) : AV := .v (.string s)
theorem wrap_i64 {n : Int} (h1 : -9223372036854775808 ≤ n) (h2 : n ≤ 9223372036854775807) : IntKind.i64.wrap n = n := by rw [IntKind.wrap_i64]; omega
theorem wrap_u64 {n : Int} (h1 : 0 ≤ n) (h2 : n ≤ 18446744073709551615) : IntKind.u64.wrap n = n := by rw [IntKind.wrap_u64]; omega
theorem at_map {α : Type} {l : List α} {f : α → AV} {i : Nat} (h : i < l.length) : (l.map f).getD (Int.toNat (i : Int)) .any = f l[i] := by
  simp [List.getD_eq_getElem?_getD, List.getElem?_eq_getElem h]
theorem set_same_map {α : Type} {l : List α} {f : α → AV} {i : Nat} (h : i < l.length) {x : AV} (hx : x = f l[i]) : (l.map f).set i x = l.map f := by
  subst hx
  apply List.ext_getElem?
  intro j
  by_cases hj : i = j
  · subst hj
    rw [List.getElem?_set_self (by simpa using h), List.getElem?_map, List.getElem?_eq_getElem h]; rfl
  · rw [List.getElem?_set_ne hj]
theorem cut_last {i sz : Nat} {f : AV} {xs : List AV} (h : i < xs.length) : (if 0 + (xs.length - 1) ≤ (xs.take i ++ xs.drop (i + 1) ++ [f]).length then AV.sl sz ((xs.take i ++ xs.drop (i + 1) ++ [f]).take (xs.length - 1)) else .any) = .sl sz (xs.take i ++ xs.drop (i + 1)) := by
  rw [if_pos (by simp; omega), List.take_append_of_le_length (by simp; omega), List.take_of_length_le (by simp; omega)]
theorem half_idx {i j : Nat} (h : i + j ≤ 9223372036854775807) (hij : i < j) : i ≤ (i + j) / 2 ∧ (i + j) / 2 < j ∧ IntKind.i64.wrap (shrF .u64 (IntKind.u64.wrap (IntKind.i64.wrap ((i : Int) + (j : Int)))) 1) = (((i + j) / 2 : Nat) : Int) := by
  refine ⟨by omega, by omega, ?_⟩
  have e : IntKind.i64.wrap ((i : Int) + (j : Int)) = ((i + j : Nat) : Int) := by rw [wrap_i64 (by omega) (by omega)]; rfl
  rw [e, wrap_u64 (by omega) (by omega)]
  have e2 : shrF .u64 ((i + j : Nat) : Int) 1 = (((i + j) / 2 : Nat) : Int) := by
    show ((i + j : Nat) : Int).fdiv (2 ^ 1) = _
    rw [Int.fdiv_eq_ediv_of_nonneg _ (by decide)]
    omega
  rw [e2, wrap_i64 (by omega) (by omega)]

theorem cmpNaN_int (a : Int) : PCall P 124 [i64 a] (fun x => x = bool false) := by
  refine pcall_go tyOk Try.func124 rfl rfl ?_
  intro K hK
  simp only [Try.ntmps124, List.length_cons, List.length_nil, Nat.reduceAdd, Nat.reduceSub, List.replicate, List.cons_append, List.nil_append]
  try simp (maxSteps := 1000000) only [go_region, go_seq, go_ret, go_ops_nil, go_op, opK_none, contK_some, callOf, fstep, fpre, fstep0, fbinA, fbin, fbin0, St.ev, St.put, List.getD_cons_zero, List.getD_cons_succ, List.set, true_and, Bool.true_and, bne_self_eq_false]
  apply hK
  simp only [Try.results124, retK, ares, List.take_nil, Bool.and_true, Bool.true_and, AV.ofResults, St.trunc, truncVs, truncV, List.getD_cons_zero, List.getD_cons_succ, List.map_nil, true_and, and_true, List.cons.injEq, exists_eq_left']
theorem cmpNaN_str (a : ByteArray) : PCall P 126 [str a] (fun x => x = bool false) := by
  refine pcall_go tyOk Try.func126 rfl rfl ?_
  intro K hK
  simp only [Try.ntmps126, List.length_cons, List.length_nil, Nat.reduceAdd, Nat.reduceSub, List.replicate, List.cons_append, List.nil_append]
  try simp (maxSteps := 1000000) only [go_region, go_seq, go_ret, go_ops_nil, go_op, opK_none, contK_some, callOf, fstep, fpre, fstep0, fbinA, fbin, fbin0, St.ev, St.put, List.getD_cons_zero, List.getD_cons_succ, List.set, true_and, Bool.true_and, Bool.not_true, beq_self_eq_true]
  apply hK
  simp only [Try.results126, retK, ares, List.take_nil, Bool.and_true, Bool.true_and, AV.ofResults, St.trunc, truncVs, truncV, List.getD_cons_zero, List.getD_cons_succ, List.map_nil, true_and, and_true, List.cons.injEq, exists_eq_left']
theorem slicesNaN_str (a : ByteArray) : PCall P 119 [str a] (fun x => x = bool false) := by
  refine pcall_go tyOk Try.func119 rfl rfl ?_
  intro K hK
  simp only [Try.ntmps119, List.length_cons, List.length_nil, Nat.reduceAdd, Nat.reduceSub, List.replicate, List.cons_append, List.nil_append]
  try simp (maxSteps := 1000000) only [go_region, go_seq, go_ret, go_ops_nil, go_op, opK_none, contK_some, callOf, fstep, fpre, fstep0, fbinA, fbin, fbin0, St.ev, St.put, List.getD_cons_zero, List.getD_cons_succ, List.set, true_and, Bool.true_and, Bool.not_true, beq_self_eq_true]
  apply hK
  simp only [Try.results119, retK, ares, List.take_nil, Bool.and_true, Bool.true_and, AV.ofResults, St.trunc, truncVs, truncV, List.getD_cons_zero, List.getD_cons_succ, List.map_nil, true_and, and_true, List.cons.injEq, exists_eq_left']
theorem less_str (a b : ByteArray) : PCall P 118 [str a, str b] (fun x => x = bool (ltS a b)) := by
  refine pcall_go tyOk Try.func118 rfl rfl ?_
  intro K hK
  simp only [Try.ntmps118, List.length_cons, List.length_nil, Nat.reduceAdd, Nat.reduceSub, List.replicate, List.cons_append, List.nil_append]
  try simp (maxSteps := 1000000) only [go_region, go_seq, go_ops_nil, go_op, opK_none, opK_some, contK_some, callOf, callK_eq, callJ_nil, callD_fn, fstep, fpre, fstep0, evs, St.ev, St.put, AV.owners, ownersAll, List.getD_cons_zero, List.getD_cons_succ, List.set, List.append_nil, true_and, Bool.true_and]
  (refine callG_use (cmpNaN_str a) rfl ?_; rintro _ rfl)
  try simp (maxSteps := 1000000) only [go_ret, go_ops_nil, go_op, go_guard, opK_none, contK_some, guardK_eq, guardV_ft, guardV_ff, undef, callOf, fstep, fpre, fstep0, fbinA, fbin, fbin0, fpick, St.ev, St.put, List.getD_cons_zero, List.getD_cons_succ, List.set, List.getElem?_cons_zero, List.getElem?_cons_succ, Option.bind_some, List.getElem?_toArray, true_and, Bool.true_and, Bool.false_eq_true, ↓reduceIte, cond_false]
  apply hK
  simp only [Try.results118, retK, ares, List.take_nil, Bool.and_true, Bool.true_and, AV.ofResults, St.trunc, truncVs, truncV, List.getD_cons_zero, List.getD_cons_succ, List.map_nil, true_and, and_true, List.cons.injEq, exists_eq_left']
  rfl
/-- The library's search in a slice whose elements rise. -/
theorem search_str (ks : List ByteArray) (hr : Rises ltS ks) (k : ByteArray) (hlen : ks.length ≤ 1000000) :
    PCall P 102 [.sl 1 (ks.map fun x => str x), str k] (fun x => x = .tup [i64 ((lb ltS ks k : Nat) : Int), bool (hasAt ltS eqS ks k)]) := by
  refine pcall_go tyOk Try.func102 rfl rfl ?_
  intro K hK
  simp only [Try.ntmps102, List.length_cons, List.length_nil, Nat.reduceAdd, Nat.reduceSub, List.replicate, List.cons_append, List.nil_append]
  try simp (maxSteps := 1000000) only [go_region, go_seq, go_block, go_loop, go_ops_nil, go_op, opK_none, contK_some, callOf, fstep, fpre, fstep0, flen, T, St.ev, St.put, List.getD_cons_zero, List.getD_cons_succ, List.set, true_and, Bool.true_and, List.length_map]
  have hle := lb_le (lt := ltS) ks k
  refine loopK_rule tyOk (α := Nat × Nat) 0 [0, 1, 4, 5, 6, 7, 8] (fun q => q.1 ≤ lb ltS ks k ∧ lb ltS ks k ≤ q.2 ∧ q.2 ≤ ks.length)
    (fun q => ⟨[.sl 1 (ks.map fun x => str x), str k, .any, .any, i64 0, bool false, i64 ks.length, i64 q.1, i64 q.2, .any, .any, .any, .any, .any, .any, .any, .any, .any, .any, .any, .any, .any, .any, .any, .any, .any, .any, .any, .any, .any, .any, .any, .any, .any, .any, .any, .any, .any, .any, .any, .any, .any, .any, .any, .any, .any, .any, .any, .any, .any, .any, .any, .any, .any], []⟩)
    (fun q => q.2 - q.1) (0, ks.length) (Nat.zero_le _) ⟨Nat.zero_le _, hle, Nat.le_refl _⟩ rfl ?_
  rintro ⟨i, j⟩ ⟨h1, h2, h3⟩
  simp only at h1 h2 h3
  try simp (maxSteps := 1000000) only [go_region, go_seq, go_cond, go_ops_nil, go_op, opK_none, contK_some, callOf, fstep, fpre, fstep0, fbinA, fbin, fbin0, St.ev, St.put, List.getD_cons_zero, List.getD_cons_succ, List.set, true_and, Bool.true_and]
  (first | refine guardV_split ?_ ?_ | refine condK_split ?_ ?_ | refine drawV_split ?_ ?_ | refine condY_split ?_ ?_ | refine guardY_split ?_ ?_) <;> intro hc <;> try simp (maxSteps := 1000000) only [go_skip, go_region, go_seq, go_block, go_exit, exitK_code, exitK_blk, exitK_nil, go_ops_nil, go_op, go_guard, opK_none, opK_some, contK_some, condK_t, condK_f, guardK_eq, callOf, callK_eq, fstep, fpre, fstep0, fbinA, gbin, gbits, gnil, fbin, fbin0, fload, fcell, findexAddr, fconvA, fconvert, evs, T, TI.isAgg, St.ev, St.put, AV.cells, AV.known, AV.owners, ownersAll, Value.cells, List.getD_cons_zero, List.getD_cons_succ, List.set, List.append_nil, List.getElem?_cons_zero, List.getElem?_cons_succ, Option.bind_some, List.getElem?_toArray, true_and, Bool.true_and, Bool.false_eq_true, ↓reduceIte, Int.reduceLE, loopX_exit]
  · have hij : i < j := by simpa using hc
    obtain ⟨hh, hlt, ew⟩ := half_idx (i := i) (j := j) (by omega) hij
    have hhn : (i + j) / 2 < ks.length := by omega
    have eg := at_map (f := fun x : ByteArray => str x) hhn
    have k1 : (0 : Int) ≤ (((i + j) / 2 : Nat) : Int) ∧ Int.toNat (((i + j) / 2 : Nat) : Int) < ks.length := by omega
    have w1 : IntKind.i64.wrap ((((i + j) / 2 : Nat) : Int) + 1) = (((i + j) / 2 + 1 : Nat) : Int) := by rw [wrap_i64 (by omega) (by omega)]; rfl
    try simp (maxSteps := 1000000) only [callJ_nil, callD_fn, evs, St.ev, AV.owners, List.getD_cons_zero, List.getD_cons_succ, List.map_cons, List.map_nil, List.length_cons, List.length_nil, List.headD_cons, List.append_nil, true_and, and_true, Bool.and_true, Bool.true_and, Nat.reduceLT, Nat.zero_add, ew, eg, k1, List.length_map]
    (refine callG_use (less_str _ k) rfl ?_; rintro _ rfl)
    cases hl : ltS ks[(i + j) / 2] k
    · try simp (maxSteps := 1000000) only [go_nil, go_region, go_cond, go_blk, go_ops_nil, go_op, opK_none, contK_some, condK_f, callOf, fstep, fpre, fstep0, St.ev, St.put, List.getD_cons_zero, List.getD_cons_succ, List.set, true_and, Bool.true_and]
      simp only [loopX_normal, St.trunc, St.keep, truncVs, truncV, keepV, List.elem_cons, List.elem_nil, List.take_zero, List.map_nil, Nat.reduceAdd, Nat.reduceBEq, Nat.zero_add, Bool.false_eq_true, ↓reduceIte]
      refine ⟨(i, (i + j) / 2), ⟨h1, ?_, by omega⟩, by simp only; omega, rfl⟩
      apply Nat.le_of_not_lt
      intro hb
      have := lb_lt (lt := ltS) hb
      rw [hl] at this; cases this
    · try simp (maxSteps := 1000000) only [go_nil, go_region, go_cond, go_blk, go_ops_nil, go_op, opK_none, contK_some, condK_t, callOf, fstep, fpre, fstep0, fbinA, fbin, fbin0, St.ev, St.put, List.getD_cons_zero, List.getD_cons_succ, List.set, true_and, Bool.true_and, w1]
      simp only [loopX_normal, St.trunc, St.keep, truncVs, truncV, keepV, List.elem_cons, List.elem_nil, List.take_zero, List.map_nil, Nat.reduceAdd, Nat.reduceBEq, Nat.zero_add, Bool.false_eq_true, ↓reduceIte]
      refine ⟨((i + j) / 2 + 1, j), ⟨?_, h2, h3⟩, by simp only; omega, rfl⟩
      apply Nat.lt_of_not_le
      intro hb
      have := lb_ge ordS hr hhn hb
      rw [hl] at this; cases this
  · have hij : ¬ i < j := by simpa using hc
    obtain rfl : i = lb ltS ks k := by omega
    by_cases hn : lb ltS ks k < ks.length
    · have eg := at_map (f := fun x : ByteArray => str x) hn
      have k1 : (0 : Int) ≤ ((lb ltS ks k : Nat) : Int) ∧ Int.toNat ((lb ltS ks k : Nat) : Int) < ks.length := by omega
      have d1 : decide (((lb ltS ks k : Nat) : Int) < (ks.length : Int)) = true := decide_eq_true (by omega)
      have hh := hasAt_lt (eq := eqS) hn
      rw [hh] at hK
      cases he : eqS ks[lb ltS ks k] k
      · rw [he] at hK
        have he' := he
        simp only [eqS] at he'
        try simp (maxSteps := 1000000) only [go_guard, opK_none, opK_some, contK_some, guardK_eq, guardV_tt, guardV_ff, callOf, callK_eq, callJ_nil, callD_fn, fstep, fpre, fstep0, fbinA, fbin, fbin0, fload, fcell, findexAddr, evs, T, TI.isAgg, St.ev, St.put, AV.cells, AV.known, AV.owners, ownersAll, Value.cells, List.getD_cons_zero, List.getD_cons_succ, List.set, List.map_cons, List.map_nil, List.length_cons, List.length_nil, List.headD_cons, List.append_nil, List.getElem?_cons_zero, List.getElem?_cons_succ, Option.bind_some, List.getElem?_toArray, true_and, and_true, Bool.and_true, Bool.true_and, Bool.false_eq_true, ↓reduceIte, Nat.reduceLT, Nat.zero_add, d1, eg, k1, List.length_map, he']
        (refine callG_use (slicesNaN_str _) rfl ?_; rintro _ rfl)
        try simp (maxSteps := 1000000) only [go_ret, go_ops_nil, go_op, go_guard, opK_none, contK_some, guardK_eq, guardV_tt, guardV_ft, guardV_ff, undef, callOf, fstep, fpre, fstep0, fpick, St.ev, St.put, List.getD_cons_zero, List.getD_cons_succ, List.set, List.getElem?_cons_zero, List.getElem?_cons_succ, Option.bind_some, List.getElem?_toArray, true_and, Bool.true_and, Bool.false_eq_true, ↓reduceIte, cond_true, cond_false]
        apply hK
        simp only [Try.results102, retK, ares, List.take_nil, Bool.and_true, Bool.true_and, AV.ofResults, St.trunc, truncVs, truncV, List.getD_cons_zero, List.getD_cons_succ, List.map_nil, true_and, and_true, List.cons.injEq, exists_eq_left']
      · rw [he] at hK
        have he' := he
        simp only [eqS] at he'
        try simp (maxSteps := 1000000) only [go_ret, go_ops_nil, go_op, go_guard, opK_none, contK_some, guardK_eq, guardV_tt, guardV_tf, guardV_u, undef, callOf, fstep, fpre, fstep0, fbinA, fbin, fbin0, fload, fcell, findexAddr, fpick, T, TI.isAgg, St.ev, St.put, AV.cells, AV.known, Value.cells, List.getD_cons_zero, List.getD_cons_succ, List.set, List.map_cons, List.map_nil, List.length_cons, List.length_nil, List.headD_cons, List.getElem?_cons_zero, List.getElem?_cons_succ, Option.bind_some, List.getElem?_toArray, true_and, and_true, Bool.and_true, Bool.true_and, Bool.false_eq_true, ↓reduceIte, Nat.reduceLT, Nat.zero_add, cond_true, d1, eg, k1, List.length_map, he']
        apply hK
        simp only [Try.results102, retK, ares, List.take_nil, Bool.and_true, Bool.true_and, AV.ofResults, St.trunc, truncVs, truncV, List.getD_cons_zero, List.getD_cons_succ, List.map_nil, true_and, and_true, List.cons.injEq, exists_eq_left']
    · have d1 : decide (((lb ltS ks k : Nat) : Int) < (ks.length : Int)) = false := decide_eq_false (by omega)
      rw [hasAt_ge hn] at hK
      try simp (maxSteps := 1000000) only [go_ret, go_ops_nil, go_op, go_guard, opK_none, contK_some, guardK_eq, guardV_ft, guardV_u, undef, callOf, fstep, fpre, fstep0, fpick, St.ev, St.put, List.getD_cons_zero, List.getD_cons_succ, List.set, List.getElem?_cons_zero, List.getElem?_cons_succ, Option.bind_some, List.getElem?_toArray, true_and, Bool.true_and, Bool.false_eq_true, ↓reduceIte, d1]
      apply hK
      simp only [Try.results102, retK, ares, List.take_nil, Bool.and_true, Bool.true_and, AV.ofResults, St.trunc, truncVs, truncV, List.getD_cons_zero, List.getD_cons_succ, List.map_nil, true_and, and_true, List.cons.injEq, exists_eq_left']

end Go.Proofs.Ytljgfapbbhbbpaa
