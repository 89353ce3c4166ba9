/- The document's feed: pairs of who watches whom, lists of events. -/
import Derived.Test.YtljgfapbbhbbpaaMg
namespace Go.Proofs.Ytljgfapbbhbbpaa
open Go Go.Proofs.Ytljgfapbbhbbpaa.Sym
set_option maxRecDepth 100000
set_option linter.unusedSimpArgs false
set_option linter.unusedVariables false
abbrev Prd := List (Int × ByteArray)
def pav (p : Int × ByteArray) : AV := .agg [i64 p.1, str p.2]
def pds (l : Prd) : List AV := l.map pav
theorem pds_len (l : Prd) : (pds l).length = l.length := by simp [pds]
theorem pds_get {l : Prd} {i : Nat} (h : i < l.length) : (pds l).getD (Int.toNat (i : Int)) .any = .agg [i64 (l[i]).1, str (l[i]).2] := by
  rw [Int.toNat_natCast]; simp [pds, List.getD, h, pav]
structure Df where
  room : Int
  pairs : Prd
  q : Nat → List Ev × Bool
def docC (D : Df) : List AV := [i64 D.room, .sl 2 (pds D.pairs), .sl 8 (evts (D.q 0).1), .sl 8 (evts (D.q 1).1), .sl 8 (evts (D.q 2).1), .sl 8 (evts (D.q 3).1), .sl 8 (evts (D.q 4).1), .sl 8 (evts (D.q 5).1), .sl 8 (evts (D.q 6).1), .sl 8 (evts (D.q 7).1),
  bool (D.q 0).2, bool (D.q 1).2, bool (D.q 2).2, bool (D.q 3).2, bool (D.q 4).2, bool (D.q 5).2, bool (D.q 6).2, bool (D.q 7).2]
def docB (D : Df) : AB := .box (docC D)
def isP (who : Int) (u : ByteArray) (p : Int × ByteArray) : Bool := p.1 == who && (p.2.toList == u.toList)
def watD (l : Prd) (who : Int) (u : ByteArray) : Bool := l.any (isP who u)
def cntD (l : Prd) (who : Int) : Nat := (l.filter fun p => p.1 == who).length
def unwD (l : Prd) (who : Int) (u : ByteArray) : Prd := l.filter fun p => !isP who u p
theorem take_succ' {α : Type} {l : List α} {i : Nat} (h : i < l.length) : l.take (i + 1) = l.take i ++ [l[i]] := List.take_succ_eq_append_getElem h

theorem pds_own (l : Prd) : (if 0 + l.length ≤ (pds l).length then AV.sl 2 (List.take l.length (pds l)) else .any) = .sl 2 (pds l) := by
  rw [if_pos (by rw [pds_len]; omega), List.take_of_length_le (by rw [pds_len]; omega)]
theorem pds_snoc (l : Prd) (p : Int × ByteArray) : pds l ++ [.agg [i64 p.1, str p.2]] = pds (l ++ [p]) := by simp [pds, pav]
theorem doc_Watching (D : Df) (who : Int) (u : ByteArray) (hl : D.pairs.length ≤ 100000) : ACall P 30 [docB D] [.ptr 0 0, i64 who, str u]
    (fun x m' => x = bool (watD D.pairs who u) ∧ m' = [docB D]) := by
  refine acall_go tyOk Try.func30 rfl rfl ?_
  intro K hK
  simp only [Try.ntmps30, List.length_cons, List.length_nil, Nat.reduceAdd, Nat.reduceSub, List.replicate, List.cons_append, List.nil_append]
  try simp (maxSteps := 1000000) only [go_region, go_seq, go_block, go_loop, go_ops_nil, go_op, opK_none, contK_some, callOf, fstep, fpre, fstep0, St.ev, St.put, List.set, true_and, Bool.true_and]
  refine loopK_rule tyOk (α := Nat) 1 [0, 1, 2, 7] (fun i => i ≤ D.pairs.length ∧ watD (D.pairs.take i) who u = false)
    (fun i => ⟨[.ptr 0 0, i64 who, str u, .any, .any, .any, .any, i64 i, .any, .any, .any, .any, .any, .any, .any, .any, .any, .any, .any, .any, .any, .any, .any, .any, .any, .any, .any, .any, .any, .any, .any, .any, .any, .any, .any, .any, .any, .any, .any], [docB D]⟩)
    (fun i => D.pairs.length - i) 0 (by simp) ⟨Nat.zero_le _, rfl⟩ rfl ?_
  rintro i ⟨hi, hw⟩
  try simp (maxSteps := 1000000) only [go_region, go_seq, go_cond, go_ops_nil, go_op, opK_none, contK_some, callOf, fstep, fpre, fstep0, fbinA, fbin, fbin0, fload, fcell, ffieldAddr, flen, T, TI.isAgg, St.ev, St.put, List.getD_cons_zero, List.getD_cons_succ, List.set, List.length_cons, List.length_nil, List.drop_succ_cons, List.drop_zero, List.headD_cons, List.getElem?_cons_zero, List.getElem?_cons_succ, List.getElem?_toArray, true_and, Bool.true_and, Bool.false_eq_true, ↓reduceIte, reduceCtorEq, ne_eq, not_false_eq_true, Nat.reduceAdd, Nat.reduceLT, Nat.zero_add, docB, docC, pds_len]
  (first | refine guardV_split ?_ ?_ | refine condK_split ?_ ?_ | refine drawV_split ?_ ?_ | refine condY_split ?_ ?_ | refine guardY_split ?_ ?_) <;> intro h
  · have hlt : i < D.pairs.length := by simpa using h
    have ew : IntKind.i64.wrap ((i : Int) + 1) = ((i + 1 : Nat) : Int) := by rw [wrap_i64 (by omega) (by omega)]; rfl
    have eg := pds_get hlt
    have c1 : (0 : Int) ≤ (i : Int) ∧ Int.toNat (i : Int) < D.pairs.length := by omega
    have hn : watD (D.pairs.take (i + 1)) who u = isP who u D.pairs[i] := by
      rw [take_succ' hlt, watD, List.any_append]
      show (watD (D.pairs.take i) who u || _) = _
      rw [hw]; simp
    have hall : isP who u D.pairs[i] = true → watD D.pairs who u = true := fun h => List.any_eq_true.2 ⟨_, List.getElem_mem hlt, h⟩
    generalize D.pairs[i] = p at *
    try simp (maxSteps := 1000000) only [go_skip, go_region, go_seq, go_block, go_op, go_guard, opK_none, contK_some, condK_t, guardK_eq, callOf, fstep, fpre, fstep0, fbinA, fbin, fbin0, fload, fcell, ffieldAddr, findexAddr, T, TI.isAgg, St.ev, St.put, AV.cells, AV.known, List.getD_cons_zero, List.getD_cons_succ, List.set, List.length_cons, List.length_nil, List.drop_succ_cons, List.drop_zero, List.headD_cons, List.getElem?_cons_zero, List.getElem?_cons_succ, Option.bind_some, List.getElem?_toArray, true_and, and_true, Bool.and_true, Bool.true_and, Bool.false_eq_true, ↓reduceIte, reduceCtorEq, ne_eq, not_false_eq_true, Nat.reduceAdd, Nat.reduceLT, Nat.zero_add, eg, c1, pds_len]
    cases h1 : p.1 == who
    · have hp : isP who u p = false := by rw [isP, h1]; rfl
      try simp (maxSteps := 1000000) only [go_nil, go_skip, go_region, go_cond, go_blk, go_ops_nil, go_op, go_guard, opK_none, contK_some, condK_f, guardK_eq, guardV_ft, undef, callOf, fstep, fpre, fstep0, fbinA, fbin, fbin0, fpick, St.ev, St.put, List.getD_cons_zero, List.getD_cons_succ, List.set, List.getElem?_cons_zero, List.getElem?_cons_succ, Option.bind_some, List.getElem?_toArray, true_and, Bool.true_and, Bool.false_eq_true, ↓reduceIte, ew]
      simp only [loopX_normal, St.trunc, St.keep, truncVs, truncV, AB.trunc, keepV, List.elem_cons, List.elem_nil, List.take_succ_cons, List.take_zero, List.map_cons, List.map_nil, Nat.reduceAdd, Nat.reduceBEq, Nat.reduceLeDiff, Nat.zero_add, Bool.false_eq_true, ↓reduceIte]
      exact ⟨i + 1, ⟨hlt, by rw [hn, hp]⟩, by omega, rfl⟩
    · cases h2 : p.2.toList == u.toList
      · have hp : isP who u p = false := by rw [isP, h1, h2]; rfl
        try simp (maxSteps := 1000000) only [go_nil, go_skip, go_region, go_cond, go_blk, go_ops_nil, go_op, go_guard, opK_none, contK_some, condK_f, guardK_eq, guardV_tt, callOf, fstep, fpre, fstep0, fbinA, fbin, fbin0, fload, fcell, ffieldAddr, findexAddr, fpick, T, TI.isAgg, St.ev, St.put, AV.cells, AV.known, List.getD_cons_zero, List.getD_cons_succ, List.set, List.length_cons, List.length_nil, List.drop_succ_cons, List.drop_zero, List.headD_cons, List.getElem?_cons_zero, List.getElem?_cons_succ, Option.bind_some, List.getElem?_toArray, true_and, and_true, Bool.and_true, Bool.true_and, Bool.false_eq_true, ↓reduceIte, reduceCtorEq, ne_eq, not_false_eq_true, Nat.reduceAdd, Nat.reduceLT, Nat.zero_add, cond_true, h2, eg, c1, pds_len, ew]
        simp only [loopX_normal, St.trunc, St.keep, truncVs, truncV, AB.trunc, keepV, List.elem_cons, List.elem_nil, List.take_succ_cons, List.take_zero, List.map_cons, List.map_nil, Nat.reduceAdd, Nat.reduceBEq, Nat.reduceLeDiff, Nat.zero_add, Bool.false_eq_true, ↓reduceIte]
        exact ⟨i + 1, ⟨hlt, by rw [hn, hp]⟩, by omega, rfl⟩
      · have hp : isP who u p = true := by rw [isP, h1, h2]; rfl
        rw [hall hp] at hK
        try simp (maxSteps := 1000000) only [go_region, go_seq, go_cond, go_ret, go_ops_nil, go_op, go_guard, opK_none, contK_some, condK_t, guardK_eq, guardV_tt, callOf, fstep, fpre, fstep0, fbinA, fbin, fbin0, fload, fcell, ffieldAddr, findexAddr, fpick, T, TI.isAgg, St.ev, St.put, AV.cells, AV.known, List.getD_cons_zero, List.getD_cons_succ, List.set, List.length_cons, List.length_nil, List.drop_succ_cons, List.drop_zero, List.headD_cons, List.getElem?_cons_zero, List.getElem?_cons_succ, Option.bind_some, List.getElem?_toArray, true_and, and_true, Bool.and_true, Bool.true_and, Bool.false_eq_true, ↓reduceIte, reduceCtorEq, ne_eq, not_false_eq_true, Nat.reduceAdd, Nat.reduceLT, Nat.zero_add, cond_true, loopX_ret, h2, eg, c1, pds_len]
        apply hK
        simp only [Try.results30, retK, ares, List.take_nil, Bool.and_true, Bool.true_and, AV.ofResults, St.trunc, truncVs, truncV, AB.trunc, List.getD_cons_zero, List.getD_cons_succ, List.take_succ_cons, List.map_nil, List.map_cons, List.length_cons, List.length_nil, Nat.reduceAdd, true_and, and_true, List.cons.injEq, exists_eq_left']
        rfl
  · obtain rfl : i = D.pairs.length := by have := of_decide_eq_false h; omega
    rw [List.take_length] at hw
    rw [hw] at hK
    try simp (maxSteps := 1000000) only [go_region, go_seq, go_exit, go_ret, exitK_code, exitK_blk, exitK_nil, go_ops_nil, go_op, opK_none, contK_some, condK_f, callOf, fstep, fpre, fstep0, St.ev, St.put, List.set, true_and, Bool.true_and, ↓reduceIte, loopX_exit]
    apply hK
    simp only [Try.results30, retK, ares, List.take_nil, Bool.and_true, Bool.true_and, AV.ofResults, St.trunc, truncVs, truncV, AB.trunc, List.getD_cons_zero, List.getD_cons_succ, List.take_succ_cons, List.map_nil, List.map_cons, List.length_cons, List.length_nil, Nat.reduceAdd, true_and, and_true, List.cons.injEq, exists_eq_left']
    rfl

theorem doc_Count (D : Df) (who : Int) (hl : D.pairs.length ≤ 100000) : ACall P 32 [docB D] [.ptr 0 0, i64 who]
    (fun x m' => x = i64 (cntD D.pairs who : Nat) ∧ m' = [docB D]) := by
  refine acall_go tyOk Try.func32 rfl rfl ?_
  intro K hK
  simp only [Try.ntmps32, List.length_cons, List.length_nil, Nat.reduceAdd, Nat.reduceSub, List.replicate, List.cons_append, List.nil_append]
  try simp (maxSteps := 1000000) only [go_region, go_seq, go_block, go_loop, go_ops_nil, go_op, opK_none, contK_some, callOf, fstep, fpre, fstep0, St.ev, St.put, List.set, true_and, Bool.true_and]
  refine loopK_rule tyOk (α := Nat) 1 [0, 1, 5, 6] (fun i => i ≤ D.pairs.length)
    (fun i => ⟨[.ptr 0 0, i64 who, .any, .any, .any, i64 (cntD (D.pairs.take i) who : Nat), i64 i, .any, .any, .any, .any, .any, .any, .any, .any, .any, .any, .any, .any, .any, .any, .any, .any, .any, .any, .any, .any, .any, .any], [docB D]⟩)
    (fun i => D.pairs.length - i) 0 (by simp) (Nat.zero_le _) rfl ?_
  intro i hi
  try simp (maxSteps := 1000000) only [go_region, go_seq, go_cond, go_ops_nil, go_op, opK_none, contK_some, callOf, fstep, fpre, fstep0, fbinA, fbin, fbin0, fload, fcell, ffieldAddr, flen, T, TI.isAgg, St.ev, St.put, List.getD_cons_zero, List.getD_cons_succ, List.set, List.length_cons, List.length_nil, List.drop_succ_cons, List.drop_zero, List.headD_cons, List.getElem?_cons_zero, List.getElem?_cons_succ, List.getElem?_toArray, true_and, Bool.true_and, Bool.false_eq_true, ↓reduceIte, reduceCtorEq, ne_eq, not_false_eq_true, Nat.reduceAdd, Nat.reduceLT, Nat.zero_add, docB, docC, pds_len]
  (first | refine guardV_split ?_ ?_ | refine condK_split ?_ ?_ | refine drawV_split ?_ ?_ | refine condY_split ?_ ?_ | refine guardY_split ?_ ?_) <;> intro h
  · have hlt : i < D.pairs.length := by simpa using h
    have ew : IntKind.i64.wrap ((i : Int) + 1) = ((i + 1 : Nat) : Int) := by rw [wrap_i64 (by omega) (by omega)]; rfl
    have eg := pds_get hlt
    have c1 : (0 : Int) ≤ (i : Int) ∧ Int.toNat (i : Int) < D.pairs.length := by omega
    have hc : cntD (D.pairs.take i) who ≤ i := Nat.le_trans (List.length_filter_le _ _) (by rw [List.length_take]; omega)
    have hn : cntD (D.pairs.take (i + 1)) who = cntD (D.pairs.take i) who + (if (D.pairs[i]).1 == who then 1 else 0) := by
      rw [take_succ' hlt, cntD, cntD, List.filter_append, List.length_append]
      congr 1
      rw [List.filter_cons, List.filter_nil]
      split <;> rfl
    have ew2 : IntKind.i64.wrap ((cntD (D.pairs.take i) who : Int) + 1) = ((cntD (D.pairs.take i) who + 1 : Nat) : Int) := by rw [wrap_i64 (by omega) (by omega)]; rfl
    generalize D.pairs[i] = p at *
    try simp (maxSteps := 1000000) only [go_skip, go_region, go_seq, go_cond, go_block, go_ops_nil, go_op, opK_none, contK_some, condK_t, callOf, fstep, fpre, fstep0, fbinA, fbin, fbin0, fload, fcell, ffieldAddr, findexAddr, T, TI.isAgg, St.ev, St.put, AV.cells, AV.known, List.getD_cons_zero, List.getD_cons_succ, List.set, List.length_cons, List.length_nil, List.drop_succ_cons, List.drop_zero, List.headD_cons, List.getElem?_cons_zero, List.getElem?_cons_succ, List.getElem?_toArray, true_and, and_true, Bool.and_true, Bool.true_and, Bool.false_eq_true, ↓reduceIte, reduceCtorEq, ne_eq, not_false_eq_true, Nat.reduceAdd, Nat.reduceLT, Nat.zero_add, eg, c1, pds_len]
    cases h1 : p.1 == who
    · rw [h1] at hn
      try simp (maxSteps := 1000000) only [go_nil, go_skip, go_region, go_blk, go_ops_nil, go_op, opK_none, contK_some, condK_f, callOf, fstep, fpre, fstep0, fbinA, fbin, fbin0, St.ev, St.put, List.getD_cons_zero, List.getD_cons_succ, List.set, true_and, Bool.true_and, ew]
      simp only [loopX_normal, St.trunc, St.keep, truncVs, truncV, AB.trunc, keepV, List.elem_cons, List.elem_nil, List.take_succ_cons, List.take_zero, List.map_cons, List.map_nil, Nat.reduceAdd, Nat.reduceBEq, Nat.reduceLeDiff, Nat.zero_add, Bool.false_eq_true, ↓reduceIte]
      exact ⟨i + 1, hlt, by omega, by rw [hn]; rfl⟩
    · rw [h1] at hn
      try simp (maxSteps := 1000000) only [go_nil, go_region, go_blk, go_ops_nil, go_op, opK_none, contK_some, condK_t, callOf, fstep, fpre, fstep0, fbinA, fbin, fbin0, St.ev, St.put, List.getD_cons_zero, List.getD_cons_succ, List.set, true_and, Bool.true_and, ew, ew2]
      simp only [loopX_normal, St.trunc, St.keep, truncVs, truncV, AB.trunc, keepV, List.elem_cons, List.elem_nil, List.take_succ_cons, List.take_zero, List.map_cons, List.map_nil, Nat.reduceAdd, Nat.reduceBEq, Nat.reduceLeDiff, Nat.zero_add, Bool.false_eq_true, ↓reduceIte]
      exact ⟨i + 1, hlt, by omega, by rw [hn]; rfl⟩
  · obtain rfl : i = D.pairs.length := by have := of_decide_eq_false h; omega
    rw [List.take_length]
    try simp (maxSteps := 1000000) only [go_region, go_seq, go_exit, go_ret, exitK_code, exitK_blk, exitK_nil, go_ops_nil, go_op, opK_none, contK_some, condK_f, callOf, fstep, fpre, fstep0, St.ev, St.put, List.getD_cons_zero, List.getD_cons_succ, List.set, true_and, Bool.true_and, ↓reduceIte, loopX_exit]
    apply hK
    simp only [Try.results32, retK, ares, List.take_nil, Bool.and_true, Bool.true_and, AV.ofResults, St.trunc, truncVs, truncV, AB.trunc, List.getD_cons_zero, List.getD_cons_succ, List.take_succ_cons, List.map_nil, List.map_cons, List.length_cons, List.length_nil, Nat.reduceAdd, true_and, and_true, List.cons.injEq, exists_eq_left']
    rfl

def watchD (l : Prd) (who : Int) (u : ByteArray) : Prd := if (cli who && !watD l who u) = true then l ++ [(who, u)] else l
theorem doc_Watch (D : Df) (who : Int) (u : ByteArray) (hl : D.pairs.length ≤ 90000) : ACall P 24 [docB D] [.ptr 0 0, i64 who, str u]
    (fun x m' => m' = [docB { D with pairs := watchD D.pairs who u }]) := by
  refine acall_go tyOk Try.func24 rfl rfl ?_
  intro K hK
  simp only [Try.ntmps24, List.length_cons, List.length_nil, Nat.reduceAdd, Nat.reduceSub, List.replicate, List.cons_append, List.nil_append]
  try simp (maxSteps := 1000000) only [go_region, go_seq, go_op, go_guard, opK_none, contK_some, guardK_eq, callOf, fstep, fpre, fstep0, fbinA, fbin, fbin0, St.ev, St.put, List.getD_cons_zero, List.getD_cons_succ, List.set, List.getElem?_cons_zero, List.getElem?_cons_succ, Option.bind_some, List.getElem?_toArray, true_and, Bool.true_and]
  cases hc : cli who
  · have he : watchD D.pairs who u = D.pairs := by rw [watchD, hc]; rfl
    rw [he] at hK
    by_cases h1 : 0 ≤ who
    · have d1 : decide (0 ≤ who) = true := decide_eq_true h1
      have d1' : decide (who ≥ 0) = true := decide_eq_true h1
      have d2 : decide (who < 8) = false := by
        simp only [cli, d1, Bool.true_and] at hc
        exact hc
      try simp (maxSteps := 1000000) only [go_nil, go_skip, go_cond, go_ops_nil, go_op, go_guard, opK_none, contK_some, condK_f, guardK_eq, guardV_tt, guardV_ft, undef, callOf, fstep, fpre, fstep0, fbinA, fbin, fbin0, fpick, St.ev, St.put, List.getD_cons_zero, List.getD_cons_succ, List.set, List.getElem?_cons_zero, List.getElem?_cons_succ, Option.bind_some, List.getElem?_toArray, true_and, Bool.true_and, Bool.false_eq_true, ↓reduceIte, cond_true, d1, d2]
      apply hK
      simp only [Try.results24, retK, ares, List.take_nil, Bool.and_true, AV.ofResults, St.trunc, truncVs, AB.trunc, List.take_succ_cons, List.map_nil, List.map_cons, List.length_cons, List.length_nil, Nat.reduceAdd, and_true, List.cons.injEq, exists_eq_left']
      rfl
    · have d1 : decide (0 ≤ who) = false := decide_eq_false h1
      have d1' : decide (who ≥ 0) = false := decide_eq_false h1
      try simp (maxSteps := 1000000) only [go_nil, go_skip, go_cond, go_ops_nil, go_op, go_guard, opK_none, contK_some, condK_f, guardK_eq, guardV_ft, undef, callOf, fstep, fpre, fstep0, fpick, St.ev, St.put, List.getD_cons_zero, List.getD_cons_succ, List.set, List.getElem?_cons_zero, List.getElem?_cons_succ, Option.bind_some, List.getElem?_toArray, true_and, Bool.true_and, Bool.false_eq_true, ↓reduceIte, d1]
      apply hK
      simp only [Try.results24, retK, ares, List.take_nil, Bool.and_true, AV.ofResults, St.trunc, truncVs, AB.trunc, List.take_succ_cons, List.map_nil, List.map_cons, List.length_cons, List.length_nil, Nat.reduceAdd, and_true, List.cons.injEq, exists_eq_left']
      rfl
  · obtain ⟨k, hk, rfl⟩ := cli_iff hc
    have d1 : decide ((0 : Int) ≤ (k : Int)) = true := decide_eq_true (by omega)
    have d1' : decide ((k : Int) ≥ (0 : Int)) = true := decide_eq_true (by omega)
    have d2 : decide ((k : Int) < 8) = true := decide_eq_true (by omega)
    try simp (maxSteps := 1000000) only [go_op, go_guard, opK_none, opK_some, contK_some, guardK_eq, guardV_tt, callOf, callK_eq, callJ_nil, callD_fn, fstep, fpre, fstep0, fbinA, fbin, fbin0, evs, fpick, St.ev, St.put, AV.owners, ownersAll, List.getD_cons_zero, List.getD_cons_succ, List.set, List.append_nil, List.getElem?_cons_zero, List.getElem?_cons_succ, Option.bind_some, List.getElem?_toArray, true_and, Bool.true_and, cond_true, d1, d2]
    refine callG_A (Sym.ACall.mono (doc_Watching D k u (by omega)) ?_)
    rintro _ _ ⟨rfl, rfl⟩
    cases hw : watD D.pairs k u
    · have he : watchD D.pairs k u = D.pairs ++ [((k : Int), u)] := by rw [watchD, hc, hw]; rfl
      rw [he] at hK
      try simp (maxSteps := 1000000) only [go_nil, go_region, go_cond, go_ops_nil, go_op, go_guard, opK_none, contK_some, condK_t, guardK_eq, guardV_tt, callOf, fstep, fpre, fstep0, fload, fcell, fstore, ffieldAddr, ffill, fieldPlaces, fieldsOk, fbuild, evParts, evOwners, fbuildSlice, funary, felems, fappend, fpick, T, TI.isAgg, TI.zeroOk, TI.zav, setParts, partsOk, St.ev, St.put, St.shutAll, St.rehome, killV, killVs, AB.kill, splice, AV.cells, AV.known, AV.flat, AV.pure, pureAll, AV.owners, ownersAll, Value.cells, Value.oneCell', List.getD_cons_zero, List.getD_cons_succ, List.set, List.map_cons, List.map_nil, List.length_cons, List.length_nil, List.all_cons, List.all_nil, List.drop_succ_cons, List.drop_zero, List.take_succ_cons, List.take_zero, List.headD_cons, List.cons_append, List.nil_append, List.append_nil, List.getElem?_cons_zero, List.getElem?_cons_succ, List.replicate, Option.bind_some, Option.isSome_some, List.getElem?_toArray, true_and, and_true, Bool.and_true, Bool.true_and, Bool.and_self, Bool.or_false, Bool.not_false, Bool.false_eq_true, ↓reduceIte, decide_true, decide_false, reduceCtorEq, ne_eq, not_false_eq_true, Nat.reduceAdd, Nat.reduceMul, Nat.reduceLeDiff, Nat.reduceEqDiff, Nat.reduceLT, Nat.zero_le, Nat.le_refl, Nat.zero_add, cond_true, docB, docC, pds_len]
      refine ⟨⟨by simp only [maxLen]; omega, by omega⟩, ⟨by simp only [maxLen]; omega, by omega⟩, ?_⟩
      apply hK
      simp only [Try.results24, retK, ares, Bool.and_true, Bool.true_and, AV.ofResults, St.trunc, truncVs, truncV, AB.trunc, List.take_zero, List.take_succ_cons, List.drop_zero, List.map_nil, List.map_cons, List.getElem?_cons_zero, List.getElem?_cons_succ, List.length_cons, List.length_nil, Nat.reduceAdd, Nat.le_refl, true_and, and_true, ↓reduceIte, List.cons.injEq, exists_eq_left']
      rw [pds_snoc D.pairs ((k : Int), u), show D.pairs.length + 1 = (D.pairs ++ [((k : Int), u)]).length by simp, pds_own]
      rfl
    · have he : watchD D.pairs k u = D.pairs := by rw [watchD, hc, hw]; rfl
      rw [he] at hK
      try simp (maxSteps := 1000000) only [go_nil, go_skip, go_cond, go_ops_nil, go_op, go_guard, opK_none, contK_some, condK_f, guardK_eq, guardV_tt, callOf, fstep, fpre, fstep0, funary, fpick, St.ev, St.put, List.getD_cons_zero, List.getD_cons_succ, List.set, List.getElem?_cons_zero, List.getElem?_cons_succ, Option.bind_some, List.getElem?_toArray, true_and, Bool.true_and, Bool.not_true, cond_true]
      apply hK
      simp only [Try.results24, retK, ares, List.take_nil, Bool.and_true, AV.ofResults, St.trunc, truncVs, AB.trunc, List.take_succ_cons, List.map_nil, List.map_cons, List.length_cons, List.length_nil, Nat.reduceAdd, and_true, List.cons.injEq, exists_eq_left']
      rfl

theorem doc_Unwatch (D : Df) (who : Int) (u : ByteArray) (hl : D.pairs.length ≤ 90000) : ACall P 26 [docB D] [.ptr 0 0, i64 who, str u]
    (fun x m' => m' = [docB { D with pairs := unwD D.pairs who u }]) := by
  refine acall_go tyOk Try.func26 rfl rfl ?_
  intro K hK
  simp only [Try.ntmps26, List.length_cons, List.length_nil, Nat.reduceAdd, Nat.reduceSub, List.replicate, List.cons_append, List.nil_append]
  try simp (maxSteps := 1000000) only [go_region, go_seq, go_block, go_loop, go_ops_nil, go_op, opK_none, contK_some, callOf, fstep, fpre, fstep0, St.ev, St.put, List.set, true_and, Bool.true_and]
  refine loopK_turn (Turns.adopt (i := 6) 128 2 rfl) ?_
  refine loopK_rule tyOk (α := Nat) 2 [0, 1, 2, 6, 7] (fun i => i ≤ D.pairs.length)
    (fun i => ⟨[.ptr 0 0, i64 who, str u, .any, .any, .any, .own 1 2 0 (unwD (D.pairs.take i) who u).length, i64 i, .any, .any, .any, .any, .any, .any, .any, .any, .any, .any, .any, .any, .any, .any, .any, .any, .any, .any, .any, .any, .any, .any, .any, .any, .any, .any, .any, .any, .any, .any, .any, .any, .any, .any, .any, .any, .any, .any, .any, .any, .any, .any, .any, .any, .any], [docB D, .row 128 2 (pds (unwD (D.pairs.take i) who u))]⟩)
    (fun i => D.pairs.length - i) 0 (by simp) (Nat.zero_le _) rfl ?_
  intro i hi
  try simp (maxSteps := 1000000) only [go_region, go_seq, go_cond, go_ops_nil, go_op, opK_none, contK_some, callOf, fstep, fpre, fstep0, fbinA, fbin, fbin0, fload, fcell, ffieldAddr, flen, T, TI.isAgg, St.ev, St.put, List.getD_cons_zero, List.getD_cons_succ, List.set, List.length_cons, List.length_nil, List.drop_succ_cons, List.drop_zero, List.headD_cons, List.getElem?_cons_zero, List.getElem?_cons_succ, List.getElem?_toArray, true_and, Bool.true_and, Bool.false_eq_true, ↓reduceIte, reduceCtorEq, ne_eq, not_false_eq_true, Nat.reduceAdd, Nat.reduceLT, Nat.zero_add, docB, docC, pds_len]
  (first | refine guardV_split ?_ ?_ | refine condK_split ?_ ?_ | refine drawV_split ?_ ?_ | refine condY_split ?_ ?_ | refine guardY_split ?_ ?_) <;> intro h
  · have hlt : i < D.pairs.length := by simpa using h
    have ew : IntKind.i64.wrap ((i : Int) + 1) = ((i + 1 : Nat) : Int) := by rw [wrap_i64 (by omega) (by omega)]; rfl
    have eg := pds_get hlt
    have c1 : (0 : Int) ≤ (i : Int) ∧ Int.toNat (i : Int) < D.pairs.length := by omega
    have hc : (unwD (D.pairs.take i) who u).length ≤ i := Nat.le_trans (List.length_filter_le _ _) (by rw [List.length_take]; omega)
    have hn : unwD (D.pairs.take (i + 1)) who u = unwD (D.pairs.take i) who u ++ (if isP who u D.pairs[i] = true then [] else [D.pairs[i]]) := by
      rw [take_succ' hlt, unwD, unwD, List.filter_append, List.filter_cons, List.filter_nil]
      congr 1
      cases isP who u D.pairs[i] <;> rfl
    generalize unwD (D.pairs.take i) who u = R at *
    generalize D.pairs[i] = p at *
    have hpl : (pds R).length = R.length := pds_len R
    try simp (maxSteps := 1000000) only [go_skip, go_region, go_seq, go_block, go_op, go_guard, opK_none, contK_some, condK_t, guardK_eq, callOf, fstep, fpre, fstep0, fbinA, fbin, fbin0, fload, fcell, ffieldAddr, findexAddr, T, TI.isAgg, St.ev, St.put, AV.cells, AV.known, List.getD_cons_zero, List.getD_cons_succ, List.set, List.length_cons, List.length_nil, List.drop_succ_cons, List.drop_zero, List.headD_cons, List.getElem?_cons_zero, List.getElem?_cons_succ, Option.bind_some, List.getElem?_toArray, true_and, and_true, Bool.and_true, Bool.true_and, Bool.false_eq_true, ↓reduceIte, reduceCtorEq, ne_eq, not_false_eq_true, Nat.reduceAdd, Nat.reduceLT, Nat.zero_add, eg, c1, pds_len]
    cases h1 : p.1 == who
    · have hp : isP who u p = false := by rw [isP, h1]; rfl
      have h1' : (p.1 != who) = true := by rw [bne, h1]; rfl
      rw [hp] at hn
      simp only [Bool.false_eq_true, if_false] at hn
      try simp (maxSteps := 1000000) only [go_nil, go_region, go_cond, go_blk, go_ops_nil, go_op, go_guard, opK_none, contK_some, condK_t, guardK_eq, guardV_tf, undef, callOf, fstep, fpre, fstep0, fbinA, fbin, fbin0, fload, fcell, ffieldAddr, findexAddr, evParts, evOwners, fbuildSlice, felems, fappend, fpick, T, TI.isAgg, TI.zeroOk, TI.zav, setParts, partsOk, St.ev, St.put, St.shutAll, St.rehome, killV, killVs, AB.kill, AV.cells, AV.known, AV.flat, AV.pure, pureAll, AV.owners, ownersAll, Value.oneCell', List.getD_cons_zero, List.getD_cons_succ, List.set, List.map_cons, List.map_nil, List.length_cons, List.length_nil, List.all_cons, List.all_nil, List.drop_succ_cons, List.drop_zero, List.take_succ_cons, List.take_zero, List.headD_cons, List.cons_append, List.nil_append, List.append_nil, List.getElem?_cons_zero, List.getElem?_cons_succ, List.replicate, Option.bind_some, List.getElem?_toArray, true_and, and_true, Bool.and_true, Bool.true_and, Bool.and_self, Bool.or_false, Bool.false_eq_true, ↓reduceIte, decide_true, decide_false, reduceCtorEq, ne_eq, not_false_eq_true, Nat.reduceAdd, Nat.reduceMul, Nat.reduceLeDiff, Nat.reduceEqDiff, Nat.reduceLT, Nat.le_refl, Nat.zero_add, h1', eg, c1, pds_len, ew]
      refine ⟨⟨by simp only [maxLen]; omega, by omega⟩, ?_⟩
      simp only [loopX_normal, St.trunc, St.keep, truncVs, truncV, AB.trunc, keepV, List.drop_zero, List.elem_cons, List.elem_nil, List.take_succ_cons, List.take_zero, List.map_cons, List.map_nil, List.getElem?_cons_zero, List.getElem?_cons_succ, List.length_cons, List.length_nil, Nat.reduceAdd, Nat.reduceBEq, Nat.reduceLeDiff, Nat.le_refl, Nat.zero_add, Bool.false_eq_true, ↓reduceIte]
      exact ⟨i + 1, hlt, by omega, by rw [hn, ← pds_snoc, List.length_append]; rfl⟩
    · have h1' : (p.1 != who) = false := by rw [bne, h1]; rfl
      cases h2 : p.2.toList == u.toList
      · have hp : isP who u p = false := by rw [isP, h1, h2]; rfl
        rw [hp] at hn
        simp only [Bool.false_eq_true, if_false] at hn
        try simp (maxSteps := 1000000) only [go_nil, go_region, go_cond, go_blk, go_ops_nil, go_op, go_guard, opK_none, contK_some, condK_t, guardK_eq, guardV_ff, callOf, fstep, fpre, fstep0, fbinA, fbin, fbin0, fload, fcell, ffieldAddr, findexAddr, evParts, evOwners, fbuildSlice, felems, fappend, fpick, T, TI.isAgg, TI.zeroOk, TI.zav, setParts, partsOk, St.ev, St.put, St.shutAll, St.rehome, killV, killVs, AB.kill, AV.cells, AV.known, AV.flat, AV.pure, pureAll, AV.owners, ownersAll, Value.oneCell', List.getD_cons_zero, List.getD_cons_succ, List.set, List.map_cons, List.map_nil, List.length_cons, List.length_nil, List.all_cons, List.all_nil, List.drop_succ_cons, List.drop_zero, List.take_succ_cons, List.take_zero, List.headD_cons, List.cons_append, List.nil_append, List.append_nil, List.getElem?_cons_zero, List.getElem?_cons_succ, List.replicate, Option.bind_some, List.getElem?_toArray, true_and, and_true, Bool.and_true, Bool.true_and, Bool.and_self, Bool.or_false, Bool.not_false, Bool.false_eq_true, ↓reduceIte, decide_true, decide_false, reduceCtorEq, ne_eq, not_false_eq_true, Nat.reduceAdd, Nat.reduceMul, Nat.reduceLeDiff, Nat.reduceEqDiff, Nat.reduceLT, Nat.le_refl, Nat.zero_add, cond_false, h1', h2, eg, c1, pds_len, ew]
        refine ⟨⟨by simp only [maxLen]; omega, by omega⟩, ?_⟩
        simp only [loopX_normal, St.trunc, St.keep, truncVs, truncV, AB.trunc, keepV, List.drop_zero, List.elem_cons, List.elem_nil, List.take_succ_cons, List.take_zero, List.map_cons, List.map_nil, List.getElem?_cons_zero, List.getElem?_cons_succ, List.length_cons, List.length_nil, Nat.reduceAdd, Nat.reduceBEq, Nat.reduceLeDiff, Nat.le_refl, Nat.zero_add, Bool.false_eq_true, ↓reduceIte]
        exact ⟨i + 1, hlt, by omega, by rw [hn, ← pds_snoc, List.length_append]; rfl⟩
      · have hp : isP who u p = true := by rw [isP, h1, h2]; rfl
        rw [hp, if_pos rfl, List.append_nil] at hn
        try simp (maxSteps := 1000000) only [go_nil, go_skip, go_region, go_cond, go_blk, go_ops_nil, go_op, go_guard, opK_none, contK_some, condK_f, guardK_eq, guardV_ff, callOf, fstep, fpre, fstep0, fbinA, fbin, fbin0, fload, fcell, ffieldAddr, findexAddr, fpick, T, TI.isAgg, St.ev, St.put, AV.cells, AV.known, List.getD_cons_zero, List.getD_cons_succ, List.set, List.length_cons, List.length_nil, List.drop_succ_cons, List.drop_zero, List.headD_cons, List.getElem?_cons_zero, List.getElem?_cons_succ, Option.bind_some, List.getElem?_toArray, true_and, and_true, Bool.and_true, Bool.true_and, Bool.not_true, Bool.false_eq_true, ↓reduceIte, reduceCtorEq, ne_eq, not_false_eq_true, Nat.reduceAdd, Nat.reduceLT, Nat.zero_add, cond_false, h1', h2, eg, c1, pds_len, ew]
        simp only [loopX_normal, St.trunc, St.keep, truncVs, truncV, AB.trunc, keepV, List.elem_cons, List.elem_nil, List.take_succ_cons, List.take_zero, List.map_cons, List.map_nil, Nat.reduceAdd, Nat.reduceBEq, Nat.reduceLeDiff, Nat.zero_add, Bool.false_eq_true, ↓reduceIte]
        exact ⟨i + 1, hlt, by omega, by rw [hn]⟩
  · obtain rfl : i = D.pairs.length := by have := of_decide_eq_false h; omega
    rw [List.take_length]
    try simp (maxSteps := 1000000) only [go_nil, go_region, go_exit, exitK_code, exitK_blk, exitK_nil, go_ops_nil, go_op, opK_none, contK_some, condK_f, callOf, fstep, fpre, fstep0, fstore, ffieldAddr, T, St.ev, St.put, splice, AV.cells, AV.known, AV.flat, List.getD_cons_zero, List.getD_cons_succ, List.set, List.length_cons, List.length_nil, List.all_cons, List.all_nil, List.drop_succ_cons, List.drop_zero, List.take_succ_cons, List.take_zero, List.cons_append, List.nil_append, List.getElem?_cons_zero, List.getElem?_cons_succ, List.getElem?_toArray, true_and, and_true, Bool.and_true, Bool.true_and, Bool.and_self, ↓reduceIte, reduceCtorEq, ne_eq, not_false_eq_true, Nat.reduceAdd, Nat.reduceLeDiff, Nat.zero_add, loopX_exit]
    apply hK
    simp only [Try.results26, retK, ares, Bool.and_true, Bool.true_and, AV.ofResults, St.trunc, truncVs, truncV, AB.trunc, List.take_zero, List.take_succ_cons, List.drop_zero, List.map_nil, List.map_cons, List.getElem?_cons_zero, List.getElem?_cons_succ, List.length_cons, List.length_nil, Nat.reduceAdd, Nat.le_refl, true_and, and_true, ↓reduceIte, List.cons.injEq, exists_eq_left']
    rw [pds_own]; rfl

/-- A contract's answer and memory, told less exactly. -/
theorem acall_weakOut {g : FuncId} {m : List AB} {args : List AV} {R R' : AV → List AB → Prop} (h : ACall P g m args R) (hk : ∀ x m1, R x m1 → ∃ x' m2, Sym.weak x x' ∧ weakM m1 m2 ∧ R' x' m2) : ACall P g m args R' := by
  refine ⟨h.1, fun Hd ι w vs hR => (h.2 Hd ι w vs hR).mono ?_⟩
  rintro e w' ⟨y, x, ι', m', rfl, hR', hE, hx⟩
  obtain ⟨x', m2, w1, w2, k⟩ := hk x m' hx
  obtain ⟨ι2, hR2, hE2⟩ := Turns.weak (s := ⟨[x], m'⟩) (s' := ⟨[x'], m2⟩) ⟨_, _, rfl, w1, rfl⟩ w2 Hd 0 ι' _ w' hR'
  exact ⟨y, x', ι2, m2, rfl, hR2, fun L => (hE L).trans (hE2 L), k⟩

def Df.setQ (D : Df) (k : Nat) (x : List Ev × Bool) : Df := { D with q := fun j => if j = k then x else D.q j }
def Df.drain (D : Df) (who : Int) : Df := if cli who = true then D.setQ who.toNat ([], false) else D
theorem docC_len (D : Df) : (docC D).length = 18 := rfl
theorem doc_kill (D : Df) (b : Nat) : killVs b (docC D) = docC D := rfl
theorem doc_q (D : Df) {k : Nat} (hk : k < 8) : ∃ tl, List.drop (2 + k * 1) (docC D) = .sl 8 (evts (D.q k).1) :: tl := by
  rcases (by omega : k = 0 ∨ k = 1 ∨ k = 2 ∨ k = 3 ∨ k = 4 ∨ k = 5 ∨ k = 6 ∨ k = 7) with rfl | rfl | rfl | rfl | rfl | rfl | rfl | rfl <;> exact ⟨_, rfl⟩
theorem doc_l (D : Df) {k : Nat} (hk : k < 8) : ∃ tl, List.drop (10 + k * 1) (docC D) = bool (D.q k).2 :: tl := by
  rcases (by omega : k = 0 ∨ k = 1 ∨ k = 2 ∨ k = 3 ∨ k = 4 ∨ k = 5 ∨ k = 6 ∨ k = 7) with rfl | rfl | rfl | rfl | rfl | rfl | rfl | rfl <;> exact ⟨_, rfl⟩
theorem doc_weak (D : Df) {k : Nat} (hk : k < 8) : weaks (((docC D).set (2 + k) (.v (.slice none 0 0))).set (10 + k) (bool false)) (docC (D.setQ k ([], false))) := by
  have w : ∀ x xs ys, weaks xs ys → weaks (x :: xs) (x :: ys) := fun x xs ys h => ⟨_, _, rfl, weak_refl x, h⟩
  have n : ∀ xs ys, weaks xs ys → weaks (AV.v (.slice none 0 0) :: xs) (AV.sl 8 (evts []) :: ys) := fun xs ys h => ⟨_, _, rfl, weak_nil 8, h⟩
  rcases (by omega : k = 0 ∨ k = 1 ∨ k = 2 ∨ k = 3 ∨ k = 4 ∨ k = 5 ∨ k = 6 ∨ k = 7) with rfl | rfl | rfl | rfl | rfl | rfl | rfl | rfl <;>
    (refine w _ _ _ (w _ _ _ ?_)
     repeat' (first | exact rfl | refine n _ _ ?_ | refine w _ _ _ ?_))
theorem doc_Drain (D : Df) (who : Int) : ACall P 28 [docB D] [.ptr 0 0, i64 who]
    (fun x m' => x = .tup [.sl 8 (evts (if cli who = true then (D.q who.toNat).1 else [])), bool (if cli who = true then (D.q who.toNat).2 else false)] ∧ m' = [docB (D.drain who)]) := by
  cases hc : cli who
  · have h : ACall P 28 [docB D] [.ptr 0 0, i64 who] (fun x m' => x = .tup [.v (.slice none 0 0), bool false] ∧ m' = [docB D]) := by
      refine acall_go tyOk Try.func28 rfl rfl ?_
      intro K hK
      simp only [Try.ntmps28, List.length_cons, List.length_nil, Nat.reduceAdd, Nat.reduceSub, List.replicate, List.cons_append, List.nil_append]
      by_cases h1 : who < 0
      · have d1 : decide (who < 0) = true := decide_eq_true h1
        try simp (maxSteps := 1000000) only [go_region, go_seq, go_cond, go_ret, go_ops_nil, go_op, go_guard, opK_none, contK_some, condK_t, guardK_eq, guardV_tf, undef, callOf, fstep, fpre, fstep0, fbinA, fbin, fbin0, fpick, St.ev, St.put, List.getD_cons_zero, List.getD_cons_succ, List.set, List.getElem?_cons_zero, List.getElem?_cons_succ, Option.bind_some, List.getElem?_toArray, true_and, Bool.true_and, ↓reduceIte, d1]
        apply hK
        simp only [Try.results28, retK, ares, List.take_nil, Bool.and_true, Bool.true_and, AV.ofResults, St.trunc, truncVs, truncV, AB.trunc, List.getD_cons_zero, List.getD_cons_succ, List.take_succ_cons, List.map_nil, List.map_cons, List.length_cons, List.length_nil, Nat.reduceAdd, true_and, and_true, List.cons.injEq, exists_eq_left']
        rfl
      · have d1 : decide (who < 0) = false := decide_eq_false h1
        have d3 : decide (0 ≤ who) = true := decide_eq_true (by omega)
        have d4 : decide (who < 8) = false := by simp only [cli, d3, Bool.true_and] at hc; exact hc
        have d5 : ¬ who < 8 := of_decide_eq_false d4
        have d2 : decide (7 < who) = true := decide_eq_true (by omega)
        have d2' : decide (who > 7) = true := decide_eq_true (by omega)
        try simp (maxSteps := 1000000) only [go_region, go_seq, go_cond, go_ret, go_ops_nil, go_op, go_guard, opK_none, contK_some, condK_t, guardK_eq, guardV_ff, callOf, fstep, fpre, fstep0, fbinA, fbin, fbin0, fpick, St.ev, St.put, List.getD_cons_zero, List.getD_cons_succ, List.set, List.getElem?_cons_zero, List.getElem?_cons_succ, Option.bind_some, List.getElem?_toArray, true_and, Bool.true_and, cond_false, d1, d2]
        apply hK
        simp only [Try.results28, retK, ares, List.take_nil, Bool.and_true, Bool.true_and, AV.ofResults, St.trunc, truncVs, truncV, AB.trunc, List.getD_cons_zero, List.getD_cons_succ, List.take_succ_cons, List.map_nil, List.map_cons, List.length_cons, List.length_nil, Nat.reduceAdd, true_and, and_true, List.cons.injEq, exists_eq_left']
        rfl
    refine acall_weakOut h ?_
    rintro x m1 ⟨rfl, rfl⟩
    exact ⟨_, _, .inr ⟨_, rfl, _, _, rfl, weak_nil 8, weaks_refl _⟩, ⟨_, _, rfl, ⟨_, rfl, weaks_refl _⟩, rfl⟩, rfl, by rw [Df.drain, hc]; rfl⟩
  · obtain ⟨k, hk, rfl⟩ := cli_iff hc
    have d1 : decide ((k : Int) < 0) = false := decide_eq_false (by omega)
    have d2 : decide (7 < (k : Int)) = false := decide_eq_false (by omega)
    have d2' : decide ((k : Int) > 7) = false := decide_eq_false (by omega)
    have h : ACall P 28 [docB D] [.ptr 0 0, i64 k] (fun x m' => x = .tup [.sl 8 (evts (D.q k).1), bool (D.q k).2] ∧ m' = [.box (((docC D).set (2 + k) (.v (.slice none 0 0))).set (10 + k) (bool false))]) := by
      refine acall_go tyOk Try.func28 rfl rfl ?_
      intro K hK
      simp only [Try.ntmps28, List.length_cons, List.length_nil, Nat.reduceAdd, Nat.reduceSub, List.replicate, List.cons_append, List.nil_append]
      obtain ⟨t1, e1⟩ := doc_q D hk
      obtain ⟨t2, e2⟩ := doc_l D hk
      have hkn : Int.toNat ((k : Nat) : Int) = k := Int.toNat_natCast k
      have b1 : (0 : Int) ≤ (k : Int) := by omega
      have cl := docC_len D
      try simp (maxSteps := 1000000) only [go_skip, go_region, go_seq, go_cond, go_draws, go_ops_nil, go_op, go_guard, opK_none, contK_some, condK_f, guardK_eq, guardV_ff, callOf, fstep, fpre, fstep0, fbinA, fbin, fbin0, fpick, St.ev, St.put, List.getD_cons_zero, List.getD_cons_succ, List.set, List.getElem?_cons_zero, List.getElem?_cons_succ, Option.bind_some, List.getElem?_toArray, true_and, Bool.true_and, cond_false, d1, d2]
      refine draw_rule tyOk (by rfl) (by simp only [List.length_cons, List.length_nil, Nat.reduceAdd, Nat.le_refl]) (by kernel_rfl) rfl ?_
      try simp (maxSteps := 1000000) only [go_seq, go_draws, callOf, fstep0, fload, fcell, ffieldAddr, findexAddr, T, TI.isAgg, St.ev, St.put, List.getD_cons_zero, List.getD_cons_succ, List.set, List.length_cons, List.length_nil, List.headD_cons, List.append_nil, List.getElem?_cons_zero, List.getElem?_cons_succ, List.replicate, List.getElem?_toArray, true_and, and_true, Bool.and_true, Bool.true_and, Bool.false_eq_true, ↓reduceIte, reduceCtorEq, ne_eq, not_false_eq_true, Nat.reduceAdd, Nat.add_zero, Nat.zero_add, newCount, drawR_nil, drawR_op, drawP_none, drawQ_some, dstep, isFree, St.app, bump, isNew, docB, hkn, e1, e2, b1, hk, Nat.zero_lt_succ]
      refine ⟨by kernel_rfl, ?_⟩
      skip
      refine draw_rule tyOk (by rfl) (by simp only [List.length_cons, List.length_nil, Nat.reduceAdd, Nat.le_refl]) (by kernel_rfl) rfl ?_
      try simp (maxSteps := 1000000) only [go_region, go_seq, go_ret, go_ops_nil, go_op, opK_none, contK_some, callOf, fstep, fpre, fstep0, ffieldAddr, findexAddr, T, St.ev, St.put, splice, AV.cells, AV.known, AV.flat, Value.cells, Value.oneCell', List.getD_cons_zero, List.getD_cons_succ, List.set, List.map_cons, List.map_nil, List.length_cons, List.length_nil, List.all_cons, List.all_nil, List.append_nil, List.getElem?_cons_zero, List.getElem?_cons_succ, List.replicate, List.getElem?_toArray, true_and, and_true, Bool.and_true, Bool.true_and, Bool.and_self, Bool.false_eq_true, ↓reduceIte, reduceCtorEq, ne_eq, not_false_eq_true, Nat.reduceAdd, Nat.reduceLeDiff, Nat.add_zero, Nat.zero_add, newCount, drawR_nil, drawR_op, drawP_none, drawQ_some, dstep, isFree, dstore, St.app, bump, isNew, List.length_append, hkn, b1, hk, cl]
      refine ⟨by omega, by rw [List.length_take, List.length_drop, cl]; omega, ?_⟩
      refine ⟨by kernel_rfl, ?_⟩
      skip
      apply hK
      simp only [Try.results28, retK, ares, List.take_nil, Bool.and_true, Bool.true_and, AV.ofResults, St.trunc, truncVs, truncV, AB.trunc, List.getD_cons_zero, List.getD_cons_succ, List.take_succ_cons, List.map_nil, List.map_cons, List.length_cons, List.length_nil, Nat.reduceAdd, true_and, and_true, List.cons.injEq, exists_eq_left']
      clear hK e1 e2 hkn b1 d1 d2 d2' hc
      rcases (by omega : k = 0 ∨ k = 1 ∨ k = 2 ∨ k = 3 ∨ k = 4 ∨ k = 5 ∨ k = 6 ∨ k = 7) with rfl | rfl | rfl | rfl | rfl | rfl | rfl | rfl <;> rfl
    refine acall_weakOut h ?_
    rintro x m1 ⟨rfl, rfl⟩
    refine ⟨_, _, weak_refl _, ⟨_, _, rfl, ⟨_, rfl, doc_weak D hk⟩, rfl⟩, by simp, ?_⟩
    rw [Df.drain, hc, if_pos rfl, Int.toNat_natCast]
    rfl

def tell1D (D : Df) (c : Chg) (seq : Int) (n : Nat) : Df := { D with q := fun k => if (decide (k < n) && watD D.pairs k c.u) = true then putR D.room (D.q k) ⟨c.u, c.old, c.new, seq⟩ else D.q k }
theorem tell1D_0 (D : Df) (c : Chg) (seq : Int) : tell1D D c seq 0 = D := by
  simp only [tell1D, Nat.not_lt_zero, decide_false, Bool.false_and, Bool.false_eq_true, if_false]
theorem tell1D_at (D : Df) (c : Chg) (seq : Int) (j : Nat) : (tell1D D c seq j).q j = D.q j := by
  simp [tell1D]
theorem tell1D_no {D : Df} {c : Chg} {seq : Int} {j : Nat} (h : watD D.pairs j c.u = false) : tell1D D c seq (j + 1) = tell1D D c seq j := by
  have : ∀ k, (decide (k < j + 1) && watD D.pairs k c.u) = (decide (k < j) && watD D.pairs k c.u) := fun k => by
    by_cases hk : k = j
    · subst hk; rw [h]; simp
    · congr 1; simp only [decide_eq_decide]; omega
  simp only [tell1D, this]
theorem tell1D_yes {D : Df} {c : Chg} {seq : Int} {j : Nat} (h : watD D.pairs j c.u = true) : tell1D D c seq (j + 1) = (tell1D D c seq j).setQ j (putR D.room (D.q j) ⟨c.u, c.old, c.new, seq⟩) := by
  unfold tell1D Df.setQ
  congr 1
  funext k
  by_cases hk : k = j
  · subst hk; simp [h]
  · have : decide (k < j + 1) = decide (k < j) := by simp only [decide_eq_decide]; omega
    rw [if_neg hk, this]
def tellD (D : Df) (l : List Chg) (seq : Int) : Df := l.foldl (fun D c => tell1D D c seq 8) D
theorem tellD_next {D : Df} {l : List Chg} {seq : Int} {i : Nat} (h : i < l.length) : tellD D (l.take (i + 1)) seq = tell1D (tellD D (l.take i) seq) l[i] seq 8 := by
  rw [take_succ' h, tellD, List.foldl_append]; rfl
theorem tellD_ok (D : Df) (l : List Chg) (seq : Int) : (tellD D l seq).pairs = D.pairs ∧ (tellD D l seq).room = D.room ∧ ∀ k, ((tellD D l seq).q k).1.length ≤ (D.q k).1.length + l.length := by
  induction l generalizing D with
  | nil => exact ⟨rfl, rfl, fun k => Nat.le_refl _⟩
  | cons c l ih =>
    obtain ⟨h1, h2, h3⟩ := ih (tell1D D c seq 8)
    refine ⟨h1, h2, fun k => Nat.le_trans (h3 k) ?_⟩
    have : ((tell1D D c seq 8).q k).1.length ≤ (D.q k).1.length + 1 := by
      simp only [tell1D]
      split
      · exact putR_len _ _ _
      · omega
    rw [List.length_cons]; omega

theorem truncVs_app (M : List AB) (n : Nat) : ∀ a b : List AV, truncVs M n (a ++ b) = truncVs M n a ++ truncVs M n b
  | [], b => rfl
  | x :: a, b => by rw [List.cons_append, truncVs, truncVs, truncVs_app M n a b]; rfl
theorem doc_put (G : Df) {j : Nat} (hj : j < 8) (B : AB) (L : List Ev) : [AB.box (truncVs [B, .row 37 8 (evts L)] 1 (List.take (2 + j * 1) (docC G) ++ [.own 1 8 0 L.length] ++ List.drop (2 + j * 1 + 1) (docC G)))] = [AB.box (docC (G.setQ j (L, (G.q j).2)))] := by
  have key : truncVs [B, .row 37 8 (evts L)] 1 [.own 1 8 0 L.length] = [.sl 8 (evts L)] := by
    have e : List.take L.length (evts L) = evts L := List.take_of_length_le (by rw [evts_len]; exact Nat.le_refl _)
    simp [truncVs, truncV, evts_len, e]
  rw [truncVs_app, truncVs_app, key]
  rcases (by omega : j = 0 ∨ j = 1 ∨ j = 2 ∨ j = 3 ∨ j = 4 ∨ j = 5 ∨ j = 6 ∨ j = 7) with rfl | rfl | rfl | rfl | rfl | rfl | rfl | rfl <;> rfl
theorem doc_Tell (D : Df) (l : List Chg) (seq : Int) (hl : D.pairs.length ≤ 90000) (hll : l.length ≤ 40000) (hq : ∀ k, (D.q k).1.length ≤ 40000) : ACall P 27 [docB D] [.ptr 0 0, .sl 7 (chgs l), u64 seq]
    (fun x m' => m' = [docB (tellD D l seq)]) := by
  refine acall_go tyOk Try.func27 rfl rfl ?_
  intro K hK
  simp only [Try.ntmps27, List.length_cons, List.length_nil, Nat.reduceAdd, Nat.reduceSub, List.replicate, List.cons_append, List.nil_append]
  try simp (maxSteps := 1000000) only [go_region, go_seq, go_block, go_loop, go_ops_nil, go_op, opK_none, contK_some, callOf, fstep, fpre, fstep0, St.ev, St.put, List.set, true_and, Bool.true_and]
  refine loopK_rule tyOk (α := Nat) 1 [0, 1, 2, 6] (fun i => i ≤ l.length)
    (fun i => ⟨[.ptr 0 0, .sl 7 (chgs l), u64 seq, .any, .any, .any, i64 i, .any, .any, .any, .any, .any, .any, .any, .any, .any, .any, .any, .any, .any, .any, .any, .any, .any, .any, .any, .any, .any, .any, .any, .any, .any, .any, .any, .any, .any, .any, .any, .any, .any, .any, .any, .any, .any, .any, .any, .any, .any, .any, .any, .any, .any, .any, .any, .any, .any, .any, .any, .any, .any, .any, .any, .any, .any, .any, .any, .any, .any, .any, .any, .any, .any, .any, .any, .any, .any], [docB (tellD D (l.take i) seq)]⟩)
    (fun i => l.length - i) 0 (by simp) (Nat.zero_le _) rfl ?_
  intro i hi
  try simp (maxSteps := 1000000) only [go_region, go_seq, go_cond, go_ops_nil, go_op, opK_none, contK_some, callOf, fstep, fpre, fstep0, fbinA, fbin, fbin0, flen, T, St.ev, St.put, List.getD_cons_zero, List.getD_cons_succ, List.set, true_and, Bool.true_and, chgs_len]
  (first | refine guardV_split ?_ ?_ | refine condK_split ?_ ?_ | refine drawV_split ?_ ?_ | refine condY_split ?_ ?_ | refine guardY_split ?_ ?_) <;> intro h <;> try simp (maxSteps := 1000000) only [go_nil, go_skip, go_region, go_seq, go_block, go_exit, go_loop, exitK_code, exitK_blk, exitK_nil, go_ops_nil, go_op, opK_none, contK_some, condK_t, condK_f, callOf, fstep, fpre, fstep0, St.ev, St.put, List.set, true_and, Bool.true_and, ↓reduceIte, loopX_exit]
  · have hlt : i < l.length := by simpa using h
    have ew : IntKind.i64.wrap ((i : Int) + 1) = ((i + 1 : Nat) : Int) := by rw [wrap_i64 (by omega) (by omega)]; rfl
    have c1 : (0 : Int) ≤ (i : Int) ∧ Int.toNat (i : Int) < l.length := by omega
    obtain ⟨o1, o2, o3⟩ := tellD_ok D (l.take i) seq
    have hn := tellD_next (D := D) (seq := seq) hlt
    have hlen : (l.take i).length = i := by rw [List.length_take]; omega
    generalize hD : tellD D (l.take i) seq = E at *
    have hEl : E.pairs.length ≤ 90000 := by rw [o1]; exact hl
    have hEq : ∀ k, (E.q k).1.length ≤ 80000 := fun k => by have := o3 k; have := hq k; omega
    have eg : (chgs l).getD (Int.toNat (i : Int)) .any = (l[i]).av := by rw [Int.toNat_natCast]; simp [chgs, List.getD, hlt]
    generalize l[i] = c at *
    refine loopK_rule tyOk (α := Nat) 1 [0, 1, 2, 6, 7] (fun j => j ≤ 8)
      (fun j => ⟨[.ptr 0 0, .sl 7 (chgs l), u64 seq, .any, .any, .any, i64 i, i64 j, .any, .any, .any, .any, .any, .any, .any, .any, .any, .any, .any, .any, .any, .any, .any, .any, .any, .any, .any, .any, .any, .any, .any, .any, .any, .any, .any, .any, .any, .any, .any, .any, .any, .any, .any, .any, .any, .any, .any, .any, .any, .any, .any, .any, .any, .any, .any, .any, .any, .any, .any, .any, .any, .any, .any, .any, .any, .any, .any, .any, .any, .any, .any, .any, .any, .any, .any, .any], [docB (tell1D E c seq j)]⟩)
      (fun j => 8 - j) 0 (by simp) (Nat.zero_le _) (by rw [tell1D_0]; rfl) ?_
    intro j hj
    try simp (maxSteps := 1000000) only [go_region, go_seq, go_cond, go_ops_nil, go_op, opK_none, contK_some, callOf, fstep, fpre, fstep0, fbinA, fbin, fbin0, St.ev, St.put, List.getD_cons_zero, List.getD_cons_succ, List.set, true_and, Bool.true_and]
    (first | refine guardV_split ?_ ?_ | refine condK_split ?_ ?_ | refine drawV_split ?_ ?_ | refine condY_split ?_ ?_ | refine guardY_split ?_ ?_) <;> intro h8
    · have hj8 : j < 8 := by have := of_decide_eq_true h8; omega
      have ewj : IntKind.i64.wrap ((j : Int) + 1) = ((j + 1 : Nat) : Int) := by rw [wrap_i64 (by omega) (by omega)]; rfl
      try simp (maxSteps := 1000000) only [go_skip, go_region, go_seq, go_block, go_op, opK_none, opK_some, contK_some, condK_t, callOf, callK_eq, callJ_nil, callD_fn, fstep, fpre, fstep0, fload, fcell, ffieldAddr, findexAddr, evs, T, TI.isAgg, St.ev, St.put, AV.cells, AV.known, AV.owners, ownersAll, List.getD_cons_zero, List.getD_cons_succ, List.set, List.length_cons, List.length_nil, List.drop_zero, List.headD_cons, List.append_nil, List.getElem?_cons_zero, List.getElem?_toArray, true_and, and_true, Bool.and_true, Bool.true_and, Bool.false_eq_true, ↓reduceIte, reduceCtorEq, ne_eq, not_false_eq_true, Nat.reduceAdd, Nat.reduceLT, Nat.zero_add, eg, c1, chgs_len, Chg.av]
      refine callG_A (Sym.ACall.mono (doc_Watching (tell1D E c seq j) j c.u (by exact Nat.le_trans hEl (by decide))) ?_)
      rintro _ _ ⟨rfl, rfl⟩
      show _
      cases hw : watD E.pairs j c.u
      · have hw' : watD (tell1D E c seq j).pairs j c.u = false := hw
        try simp (maxSteps := 1000000) only [go_nil, go_region, go_cond, go_exit, exitK_code, exitK_blk, go_ops_nil, go_op, opK_none, contK_some, condK_t, callOf, fstep, fpre, fstep0, fbinA, fbin, fbin0, funary, St.ev, St.put, List.getD_cons_zero, List.getD_cons_succ, List.set, true_and, Bool.true_and, Bool.not_false, ↓reduceIte, hw', ewj]
        simp only [loopX_normal, St.trunc, St.keep, truncVs, truncV, AB.trunc, keepV, List.elem_cons, List.elem_nil, List.take_succ_cons, List.take_zero, List.map_cons, List.map_nil, Nat.reduceAdd, Nat.reduceBEq, Nat.reduceLeDiff, Nat.zero_add, Bool.false_eq_true, ↓reduceIte]
        exact ⟨j + 1, hj8, by omega, by rw [tell1D_no hw]; rfl⟩
      · have hw' : watD (tell1D E c seq j).pairs j c.u = true := hw
        have hyes := tell1D_yes (seq := seq) hw
        have hGj := tell1D_at E c seq j
        have hGr : (tell1D E c seq j).room = E.room := rfl
        try simp (maxSteps := 1000000) only [go_skip, go_seq, go_cond, go_draws, go_ops_nil, go_op, opK_none, contK_some, condK_f, callOf, fstep, fpre, fstep0, funary, St.ev, St.put, List.getD_cons_zero, List.getD_cons_succ, List.set, true_and, Bool.true_and, Bool.not_true, hw']
        generalize tell1D E c seq j = G at *
        obtain ⟨t1, e1⟩ := doc_q G hj8
        obtain ⟨t2, e2⟩ := doc_l G hj8
        have hkn : Int.toNat ((j : Nat) : Int) = j := Int.toNat_natCast j
        have b1 : (0 : Int) ≤ (j : Int) := by omega
        have cl := docC_len G
        have e0 : (docC G).headD .any = i64 G.room := rfl
        have hq1 := hEq j
        refine draw_rule tyOk (by rfl) (by simp only [List.length_cons, List.length_nil, Nat.reduceAdd, Nat.le_refl]) (by kernel_rfl) rfl ?_
        try simp (maxSteps := 1000000) only [go_cond, callOf, fstep0, fbinA, fbin, fbin0, fload, fcell, ffieldAddr, findexAddr, flen, T, TI.isAgg, St.ev, St.put, List.getD_cons_zero, List.getD_cons_succ, List.set, List.length_cons, List.length_nil, List.drop_zero, List.headD_cons, List.append_nil, List.getElem?_cons_zero, List.getElem?_cons_succ, List.replicate, List.getElem?_toArray, true_and, and_true, Bool.and_true, Bool.true_and, Bool.false_eq_true, ↓reduceIte, reduceCtorEq, ne_eq, not_false_eq_true, Nat.reduceAdd, Nat.add_zero, Nat.zero_add, newCount, drawR_nil, drawR_op, drawP_none, drawQ_some, dstep, isFree, St.app, bump, isNew, docB, hkn, e1, b1, hj8, Nat.zero_lt_succ, cl, e0, evts_len, hGj]
        refine ⟨by kernel_rfl, ?_⟩
        skip
        (first | refine guardV_split ?_ ?_ | refine condK_split ?_ ?_ | refine drawV_split ?_ ?_ | refine condY_split ?_ ?_ | refine guardY_split ?_ ?_) <;> intro hr
        · have hr' : G.room ≤ ((E.q j).1.length : Int) := of_decide_eq_true hr
          try simp (maxSteps := 1000000) only [go_nil, go_region, go_seq, go_exit, exitK_code, exitK_blk, go_ops_nil, go_op, opK_none, contK_some, condK_t, callOf, fstep, fpre, fstep0, fbinA, fbin, fbin0, fstore, ffieldAddr, findexAddr, T, St.ev, St.put, splice, AV.cells, AV.known, AV.flat, Value.cells, Value.oneCell', List.getD_cons_zero, List.getD_cons_succ, List.set, List.map_cons, List.map_nil, List.length_cons, List.length_nil, List.all_cons, List.all_nil, List.getElem?_cons_zero, List.getElem?_cons_succ, List.getElem?_toArray, true_and, and_true, Bool.and_true, Bool.true_and, Bool.and_self, ↓reduceIte, reduceCtorEq, ne_eq, not_false_eq_true, Nat.reduceLeDiff, Nat.zero_add, hkn, b1, hj8, cl]
          refine ⟨by omega, ?_⟩
          try simp (maxSteps := 1000000) only [ewj]
          simp only [loopX_normal, St.trunc, St.keep, truncVs, truncV, AB.trunc, keepV, List.elem_cons, List.elem_nil, List.take_succ_cons, List.take_zero, List.map_cons, List.map_nil, Nat.reduceAdd, Nat.reduceBEq, Nat.reduceLeDiff, Nat.zero_add, Bool.false_eq_true, ↓reduceIte]
          refine ⟨j + 1, hj8, by omega, ?_⟩
          rw [hyes, putR, if_pos (by rw [← hGr]; exact hr'), ← hGj]
          clear hK hyes hGj hq1 e1 e2 ewj hkn hw hw' hj h8 b1 hr hr'
          rcases (by omega : j = 0 ∨ j = 1 ∨ j = 2 ∨ j = 3 ∨ j = 4 ∨ j = 5 ∨ j = 6 ∨ j = 7) with rfl | rfl | rfl | rfl | rfl | rfl | rfl | rfl <;> rfl
        · have hr' : ¬ G.room ≤ ((E.q j).1.length : Int) := of_decide_eq_false hr
          try simp (maxSteps := 1000000) only [go_skip, go_draws, condK_f]
          refine draw_rule tyOk (by rfl) (by simp only [List.length_cons, List.length_nil, Nat.reduceAdd, Nat.le_refl]) (by kernel_rfl) rfl ?_
          try simp (maxSteps := 1000000) only [go_nil, go_region, go_blk, go_ops_nil, go_op, opK_none, contK_some, callOf, fstep, fpre, fstep0, fbinA, fbin, fbin0, fload, fcell, ffieldAddr, findexAddr, ffill, fieldPlaces, fieldsOk, fbuild, evParts, felems, T, TI.isAgg, TI.zeroOk, TI.zav, setParts, partsOk, St.ev, St.put, St.rehome, killV, killVs, AB.kill, splice, AV.cells, AV.known, AV.flat, AV.pure, pureAll, Value.cells, Value.oneCell', List.getD_cons_zero, List.getD_cons_succ, List.set, List.map_cons, List.map_nil, List.length_cons, List.length_nil, List.all_cons, List.all_nil, List.drop_succ_cons, List.drop_zero, List.take_succ_cons, List.take_zero, List.headD_cons, List.cons_append, List.nil_append, List.append_nil, List.getElem?_cons_zero, List.getElem?_cons_succ, List.replicate, Option.isSome_some, List.getElem?_toArray, true_and, and_true, Bool.and_true, Bool.true_and, Bool.and_self, Bool.or_false, Bool.false_eq_true, ↓reduceIte, decide_true, decide_false, reduceCtorEq, ne_eq, not_false_eq_true, Nat.reduceAdd, Nat.reduceMul, Nat.reduceLeDiff, Nat.reduceEqDiff, Nat.le_refl, Nat.add_zero, Nat.zero_add, newCount, drawR_nil, drawR_op, drawP_none, drawQ_some, dstep, isFree, dstore, dappend, dbuildSlice, St.app, bump, isNew, hkn, e1, b1, hj8, Nat.zero_lt_succ, cl, evts_len, hGj, eg, c1, chgs_len, Chg.av, doc_kill]
          refine ⟨⟨by simp only [maxLen]; omega, by omega⟩, ⟨by simp only [maxLen]; omega, by omega⟩, by omega, ?_⟩
          refine ⟨by kernel_rfl, ?_⟩
          try simp (maxSteps := 1000000) only [ewj]
          simp only [loopX_normal, St.trunc, St.keep, truncVs, truncV, AB.trunc, keepV, List.drop_zero, List.elem_cons, List.elem_nil, List.take_succ_cons, List.take_zero, List.map_cons, List.map_nil, List.getElem?_cons_zero, List.getElem?_cons_succ, Nat.reduceAdd, Nat.reduceBEq, Nat.reduceLeDiff, Nat.le_refl, Nat.zero_add, Bool.false_eq_true, ↓reduceIte]
          refine ⟨j + 1, hj8, by omega, ?_⟩
          rw [hyes, putR, if_neg (by rw [← hGr]; exact hr')]
          have hev : evts (E.q j).1 ++ [.agg [str c.u, i64 c.old.st, i64 c.old.pr, i64 c.old.n, i64 c.new.st, i64 c.new.pr, i64 c.new.n, u64 seq]] = evts ((E.q j).1 ++ [⟨c.u, c.old, c.new, seq⟩]) := by simp [evts, Ev.av]
          have hln : (E.q j).1.length + 1 = ((E.q j).1 ++ [(⟨c.u, c.old, c.new, seq⟩ : Ev)]).length := by simp
          rw [hev, hln, doc_put G hj8, hGj]
    · obtain rfl : j = 8 := by have := of_decide_eq_false h8; omega
      try simp (maxSteps := 1000000) only [go_nil, go_region, go_blk, go_exit, exitK_code, exitK_blk, exitK_nil, go_ops_nil, go_op, opK_none, contK_some, condK_f, callOf, fstep, fpre, fstep0, fbinA, fbin, fbin0, St.ev, St.put, List.getD_cons_zero, List.getD_cons_succ, List.set, true_and, Bool.true_and, ↓reduceIte, loopX_exit, ew]
      simp only [loopX_normal, St.trunc, St.keep, truncVs, truncV, AB.trunc, keepV, List.elem_cons, List.elem_nil, List.take_succ_cons, List.take_zero, List.map_cons, List.map_nil, Nat.reduceAdd, Nat.reduceBEq, Nat.reduceLeDiff, Nat.zero_add, Bool.false_eq_true, ↓reduceIte]
      exact ⟨i + 1, hlt, by omega, by rw [hn]; rfl⟩
  · obtain rfl : i = l.length := by have := of_decide_eq_false h; omega
    rw [List.take_length]
    skip
    apply hK
    simp only [Try.results27, retK, ares, List.take_nil, Bool.and_true, AV.ofResults, St.trunc, truncVs, AB.trunc, List.take_succ_cons, List.map_nil, List.map_cons, List.length_cons, List.length_nil, Nat.reduceAdd, and_true, List.cons.injEq, exists_eq_left']
    rfl
end Go.Proofs.Ytljgfapbbhbbpaa
