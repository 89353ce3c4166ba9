/- The map of users to masks. -/
import Derived.Test.YtljgfapbbhbbpaaMb
namespace Go.Proofs.Ytljgfapbbhbbpaa
open Go Go.Proofs.Ytljgfapbbhbbpaa.Sym
set_option maxRecDepth 100000
set_option linter.unusedSimpArgs false
set_option linter.unusedVariables false

abbrev u32 (n : Int) : AV := .v (.int .u32 n)
/-- slices.Clone[[]uint32,uint32]: a new row. -/
theorem clone_u32 (xs : List AV) (hlen : xs.length ≤ 1000000) :
    ACall P 82 [] [.sl 1 xs] (fun x m' => x = .own 0 1 0 xs.length ∧ m' = [.row 120 1 xs]) := by
  have hm : xs.length ≤ maxLen := by simp only [maxLen]; omega
  have hby : xs.length * 4 ≤ 140737488355328 := by omega
  by_cases h0 : xs = []
  · subst h0
    refine ACall.empty fun a cap => ?_
    cases a with
    | none =>
      refine ACall.weaken (K := fun x m' => x = .v (.slice none 0 0) ∧ m' = []) (ACallN.toA (acallM_go tyOk Try.func82 rfl rfl (N := 0) (M := 1) (Nat.zero_le _) (by simp) ?_)) ?_
      · intro K hK
        simp only [Try.ntmps82, List.length_cons, List.length_nil, Nat.reduceAdd, Nat.reduceSub, List.replicate, List.cons_append, List.nil_append]
        try simp (maxSteps := 1000000) only [go_region, go_seq, go_cond, go_ret, go_ops_nil, go_op, opK_none, contK_some, condK_t, callOf, fstep, fpre, fstep0, fbinA, gbin, gnil, isSliceTy, Option.isNone_none, fbin, fbin0, T, St.ev, St.put, List.getD_cons_zero, List.getD_cons_succ, List.set, true_and, Bool.true_and]
        apply hK
        simp only [Try.results82, retK, ares, List.take_nil, Bool.and_true, AV.ofResults, St.trunc, truncVs, truncV, List.getD_cons_zero, List.getD_cons_succ, List.map_nil, and_true, List.cons.injEq, exists_eq_left']
      · rintro x m' ⟨rfl, rfl⟩
        exact ⟨_, _, Turns.adopt (i := 0) 120 1 rfl, rfl, rfl⟩
    | some a =>
      refine ACallN.toA (acallM_go tyOk Try.func82 rfl rfl (N := 0) (M := 1) (Nat.zero_le _) (by simp) ?_)
      intro K hK
      simp only [Try.ntmps82, List.length_cons, List.length_nil, Nat.reduceAdd, Nat.reduceSub, List.replicate, List.cons_append, List.nil_append]
      try simp (maxSteps := 1000000) only [go_skip, go_region, go_seq, go_cond, go_ret, go_ops_nil, go_op, opK_none, contK_some, condK_f, callOf, fstep, fpre, fpost, fstep0, fbinA, gbin, gnil, isSliceTy, gappend, gapp, gelems, Option.isNone_some, fbin, fbin0, evParts, evOwners, fbuildSlice, felems, fappend, T, TI.isAgg, TI.zeroOk, setParts, partsOk, St.ev, St.put, St.shutAll, St.rehome, killV, killVs, AB.kill, Value.oneCell', List.getD_cons_zero, List.getD_cons_succ, List.set, List.map_cons, List.map_nil, List.length_cons, List.length_nil, List.all_cons, List.all_nil, List.nil_append, List.append_nil, List.getElem?_cons_zero, List.replicate, true_and, and_true, Bool.and_true, Bool.true_and, Bool.and_self, Bool.or_true, ↓reduceIte, decide_true, Nat.reduceMul, Nat.reduceLT, Nat.zero_le, Nat.le_refl, Nat.add_zero, Nat.zero_add]
      apply hK
      simp only [Try.results82, retK, ares, List.take_nil, Bool.and_true, AV.ofResults, St.trunc, truncVs, truncV, AB.trunc, List.getD_cons_zero, List.getD_cons_succ, List.take_succ_cons, List.map_nil, List.map_cons, List.length_nil, Nat.reduceLeDiff, and_true, ↓reduceIte, List.cons.injEq, exists_eq_left']
  · have hpos : 0 < xs.length := List.length_pos_iff.2 h0
    refine ACallN.toA (acallM_go tyOk Try.func82 rfl rfl (N := 0) (M := 1) (Nat.zero_le _) (by simp) ?_)
    intro K hK
    simp only [Try.ntmps82, List.length_cons, List.length_nil, Nat.reduceAdd, Nat.reduceSub, List.replicate, List.cons_append, List.nil_append]
    try simp (maxSteps := 1000000) only [go_skip, go_region, go_seq, go_cond, go_ret, go_ops_nil, go_op, opK_none, contK_some, condK_f, callOf, fstep, fpre, fstep0, fbinA, gbin, gnil, isSliceTy, fbin, fbin0, evParts, evOwners, fbuildSlice, felems, fappend, T, TI.isAgg, TI.zeroOk, setParts, partsOk, St.ev, St.put, St.shutAll, St.rehome, killV, killVs, AB.kill, Value.oneCell', List.getD_cons_zero, List.getD_cons_succ, List.set, List.map_cons, List.map_nil, List.length_cons, List.length_nil, List.all_cons, List.all_nil, List.nil_append, List.getElem?_cons_zero, List.replicate, true_and, and_true, Bool.and_true, Bool.true_and, Bool.and_self, Bool.or_true, ↓reduceIte, decide_true, Nat.reduceMul, Nat.reduceLT, Nat.zero_le, Nat.le_refl, Nat.zero_add, hpos]
    refine ⟨⟨hm, hby⟩, ?_⟩
    skip
    apply hK
    simp only [Try.results82, retK, ares, List.take_nil, Bool.and_true, AV.ofResults, St.trunc, truncVs, truncV, AB.trunc, List.getD_cons_zero, List.getD_cons_succ, List.take_succ_cons, List.map_nil, List.map_cons, Nat.reduceLeDiff, and_true, ↓reduceIte, List.cons.injEq, exists_eq_left']

/-- slices.Delete[[]uint32,uint32]: one element is taken out. -/
theorem delete_u32 (xs : List AV) (i : Nat) (hi : i < xs.length) (hlen : xs.length ≤ 1000000) :
    ACall P 88 [.row 120 1 xs] [.own 0 1 0 xs.length, i64 (i : Int), i64 ((i + 1 : Nat) : Int)] (fun x m' => x = .own 0 1 0 (xs.length - 1) ∧ m' = [.row 120 1 (xs.take i ++ xs.drop (i + 1) ++ [u32 0])]) := by
  refine ACall.weaken (K := fun x m' => x = .own 0 1 0 (xs.length - 1) ∧ ∃ N, m' = [.rowc 120 1 (xs.take i ++ xs.drop (i + 1) ++ [u32 0]) N]) (ACallN.toA (m := [_]) (ACallN.room (by decide) fun N hN _ => ?_)) ?_
  · refine acallN_go tyOk Try.func88 rfl rfl (by simp) ?_
    intro K hK
    simp only [Try.ntmps88, List.length_cons, List.length_nil, Nat.reduceAdd, Nat.reduceSub, List.replicate, List.cons_append, List.nil_append]
    have f1 : ((i : Int) == ((i + 1 : Nat) : Int)) = false := by simp; omega
    try simp (maxSteps := 1000000) only [go_skip, go_region, go_seq, go_cond, go_draws, go_ops_nil, go_op, opK_none, contK_some, condK_f, callOf, fstep, fpre, fstep0, fsliceA, gsliceL, gsliceR, gbound, fbinA, fbin, fbin0, flen, fslice, optEv, T, St.ev, St.put, List.getD_cons_zero, List.getD_cons_succ, List.set, Option.isSome_some, true_and, and_true, Bool.and_true, Bool.true_and, Nat.le_refl, Int.toNat_natCast, f1]
    refine ⟨by omega, ?_⟩
    by_cases he : i + 1 = xs.length
    · have e1 : (xs.take i ++ xs.drop i).length = xs.length := by rw [List.take_append_drop]
      have e2 : ((xs.take i ++ xs.drop i).take i ++ List.replicate (xs.length - i) (u32 0)) ++ (xs.take i ++ xs.drop i).drop (i + (xs.length - i)) = xs.take i ++ xs.drop (i + 1) ++ [u32 0] := by
        rw [List.take_append_drop, List.drop_of_length_le (by omega), List.drop_of_length_le (by omega), show xs.length - i = 1 by omega, List.append_nil, List.append_nil]
        rfl
      have hni : ¬ i = xs.length := by omega
      refine draw_rule tyOk (by rfl) (by simp only [List.length_cons, List.length_nil, Nat.reduceAdd, Nat.le_refl]) (by kernel_rfl) rfl ?_
      try simp (maxSteps := 1000000) only [go_region, go_seq, go_op, opK_none, contK_some, undef, callOf, fstep, fpre, fpost, fstep0, fsliceA, gsliceL, gsliceR, gpart, gbound, gelems, gclear, putSeg, dappendC, flen, felems, fslice, optEv, T, TI.isAgg, TI.zeroOk, TI.zav, St.ev, St.put, Value.oneCell', List.getD_cons_zero, List.getD_cons_succ, List.set, List.length_cons, List.length_nil, List.all_cons, List.all_nil, List.headD_cons, List.append_nil, List.getElem?_cons_zero, List.replicate, true_and, and_true, Bool.and_true, Bool.true_and, Bool.and_self, Bool.or_true, Bool.false_eq_true, ↓reduceIte, decide_true, Nat.reduceAdd, Nat.reduceLT, Nat.le_refl, Nat.add_zero, Nat.zero_add, newCount, drawR_nil, drawR_op, drawP_none, drawQ_some, dstep, isFree, dappend, St.app, bump, isNew, List.length_replicate, Int.toNat_natCast, he]
      refine ⟨by omega, by omega, by omega, ?_⟩
      refine ⟨by kernel_rfl, ?_⟩
      try simp (maxSteps := 1000000) only [go_region, go_seq, go_ret, go_ops_nil, go_op, opK_none, contK_some, callOf, fstep, fpre, fstep0, St.ev, St.put, List.getD_cons_zero, List.getD_cons_succ, List.set, List.getElem?_cons_zero, true_and, Bool.true_and, ↓reduceIte, hni, e1]
      refine ⟨by omega, by omega, ?_⟩
      apply hK
      simp only [Try.results88, retK, ares, List.take_nil, Bool.and_true, AV.ofResults, St.trunc, truncVs, truncV, AB.trunc, List.getD_cons_zero, List.getD_cons_succ, List.take_succ_cons, List.map_nil, List.map_cons, List.length_cons, List.length_nil, Nat.reduceAdd, Nat.reduceLeDiff, and_true, ↓reduceIte, List.cons.injEq, exists_eq_left']
      simp only [e2]
      exact ⟨by congr 1; omega, N, rfl⟩
    · have hd : (xs.drop (i + 1)).length = xs.length - (i + 1) := by simp
      have ht : (xs.drop (i + 1)).take (xs.length - (i + 1)) = xs.drop (i + 1) := List.take_of_length_le (by simp)
      have hni : ¬ i + (xs.length - (i + 1)) = xs.length := by omega
      have e1 : (xs.take i ++ xs.drop (i + 1) ++ xs.drop (i + (xs.length - (i + 1)))).length = xs.length := by simp; omega
      have e2 : (xs.take i ++ xs.drop (i + 1) ++ xs.drop (i + (xs.length - (i + 1)))).take (i + (xs.length - (i + 1))) ++ List.replicate (xs.length - (i + (xs.length - (i + 1)))) (u32 0) ++
          (xs.take i ++ xs.drop (i + 1) ++ xs.drop (i + (xs.length - (i + 1)))).drop (i + (xs.length - (i + 1)) + (xs.length - (i + (xs.length - (i + 1))))) = xs.take i ++ xs.drop (i + 1) ++ [u32 0] := by
        rw [show xs.length - (i + (xs.length - (i + 1))) = 1 by omega, List.drop_of_length_le (l := xs.take i ++ xs.drop (i + 1) ++ xs.drop (i + (xs.length - (i + 1)))) (by rw [e1]; omega), List.append_nil,
          List.take_append_of_le_length (by simp; omega), List.take_of_length_le (by simp; omega)]
        rfl
      refine draw_rule tyOk (by rfl) (by simp only [List.length_cons, List.length_nil, Nat.reduceAdd, Nat.le_refl]) (by kernel_rfl) rfl ?_
      try simp (maxSteps := 1000000) only [go_region, go_seq, go_op, opK_none, contK_some, undef, callOf, fstep, fpre, fpost, fstep0, fsliceA, gsliceL, gsliceR, gpart, gbound, gelems, gclear, putSeg, dappendC, flen, felems, fslice, optEv, T, TI.isAgg, TI.zeroOk, TI.zav, St.ev, St.put, Value.oneCell', List.getD_cons_zero, List.getD_cons_succ, List.set, List.length_cons, List.length_nil, List.all_cons, List.all_nil, List.headD_cons, List.append_nil, List.getElem?_cons_zero, List.replicate, true_and, and_true, Bool.and_true, Bool.true_and, Bool.and_self, Bool.or_true, Bool.false_eq_true, ↓reduceIte, decide_true, Nat.reduceAdd, Nat.reduceLT, Nat.le_refl, Nat.add_zero, Nat.zero_add, newCount, drawR_nil, drawR_op, drawP_none, drawQ_some, dstep, isFree, dappend, St.app, bump, isNew, List.length_replicate, Int.toNat_natCast, he, ht, hd]
      refine ⟨by omega, by omega, by omega, ?_⟩
      refine ⟨by kernel_rfl, ?_⟩
      try simp (maxSteps := 1000000) only [go_region, go_seq, go_ret, go_ops_nil, go_op, opK_none, contK_some, callOf, fstep, fpre, fstep0, St.ev, St.put, List.getD_cons_zero, List.getD_cons_succ, List.set, List.getElem?_cons_zero, true_and, Bool.true_and, ↓reduceIte, hni, e1]
      refine ⟨by omega, by omega, ?_⟩
      apply hK
      simp only [Try.results88, retK, ares, List.take_nil, Bool.and_true, AV.ofResults, St.trunc, truncVs, truncV, AB.trunc, List.getD_cons_zero, List.getD_cons_succ, List.take_succ_cons, List.map_nil, List.map_cons, List.length_cons, List.length_nil, Nat.reduceAdd, Nat.reduceLeDiff, and_true, ↓reduceIte, List.cons.injEq, exists_eq_left']
      simp only [e2]
      exact ⟨by congr 1; omega, N, rfl⟩
  · rintro x m' ⟨rfl, N, rfl⟩
    exact ⟨_, _, Turns.unroom, rfl, rfl⟩

/-- slices.Insert[[]uint32,uint32]: one element more. -/
theorem insert_u32 (xs : List AV) (v : AV) (i : Nat) (hi : i ≤ xs.length) (hlen : xs.length ≤ 1000000) :
    ACallX P (fun _ => false) 85 [.row 120 1 xs] [.own 0 1 0 xs.length, i64 (i : Int), .sl 1 [v]] (fun x m' => x = .own 0 1 0 (xs.length + 1) ∧ m' = [.row 120 1 (xs.take i ++ [v] ++ xs.drop i)]) := by
  refine ACallN.relocate (ACallN.room (by decide) fun N hN _ => acallM_go tyOk Try.func85 rfl rfl (N := 0) (M := 2) (Nat.zero_le _) (by simp) ?_)
  intro K hK
  simp only [Try.ntmps85, List.length_cons, List.length_nil, Nat.reduceAdd, Nat.reduceSub, List.replicate, List.cons_append, List.nil_append]
  have w1 : IntKind.i64.wrap ((xs.length : Int) + ((1 : Nat) : Int)) = ((xs.length + 1 : Nat) : Int) := by rw [wrap_i64 (by omega) (by omega)]; rfl
  have w2 : IntKind.i64.wrap ((i : Int) + ((1 : Nat) : Int)) = ((i + 1 : Nat) : Int) := by rw [wrap_i64 (by omega) (by omega)]; rfl
  have w3 : IntKind.i64.wrap (((xs.length + 1 : Nat) : Int) - (i : Int)) = ((xs.length + 1 - i : Nat) : Int) := by rw [wrap_i64 (by omega) (by omega)]; omega
  have c1 : (((1 : Nat) : Int) == 0) = false := by decide
  by_cases hin : i = xs.length
  · subst hin
    try simp (maxSteps := 1000000) only [go_skip, go_region, go_seq, go_cond, go_ops_nil, go_op, opK_none, contK_some, condK_t, condK_f, callOf, fstep, fpre, fpost, fstep0, gsliceR, gpart, gbound, fbinA, gappend, gapp, gelems, putSeg, fbin, fbin0, flen, felems, fappend, optEv, T, TI.isAgg, TI.zeroOk, St.ev, St.put, Value.oneCell', List.getD_cons_zero, List.getD_cons_succ, List.set, List.length_cons, List.length_nil, List.all_cons, List.all_nil, List.cons_append, List.nil_append, List.getElem?_cons_zero, true_and, and_true, Bool.and_true, Bool.true_and, Bool.and_self, Bool.or_true, ↓reduceIte, decide_true, Nat.reduceLT, Nat.le_refl, Nat.zero_add, beq_self_eq_true, Int.toNat_natCast, c1]
    refine ⟨by omega, ?_⟩
    by_cases hr : xs.length + 1 ≤ N
    · try simp (maxSteps := 1000000) only [go_ret, go_ops_nil, go_op, opK_none, contK_some, callOf, fstep, fpre, fstep0, St.ev, St.put, List.getD_cons_zero, List.getD_cons_succ, List.set, true_and, Bool.true_and, ↓reduceIte, hr]
      apply hK
      simp only [Try.results85, retK, ares, List.take_nil, Bool.and_true, Bool.true_and, AV.ofResults, St.trunc, truncVs, truncV, AB.trunc, List.getD_cons_zero, List.getD_cons_succ, List.take_succ_cons, List.map_nil, List.map_cons, Nat.reduceLeDiff, true_and, and_true, ↓reduceIte, List.cons.injEq, exists_eq_left']
      exact .inl ⟨N, [], by simp⟩
    · try simp (maxSteps := 1000000) only [go_ret, go_ops_nil, go_op, opK_none, contK_some, callOf, fstep, fpre, fstep0, St.ev, St.put, List.getD_cons_zero, List.getD_cons_succ, List.set, true_and, Bool.true_and, ↓reduceIte, hr]
      refine ⟨⟨by simp only [maxLen]; omega, by omega⟩, ?_⟩
      skip
      apply hK
      simp only [Try.results85, retK, ares, List.take_nil, Bool.and_true, Bool.true_and, AV.ofResults, St.trunc, truncVs, truncV, AB.trunc, List.getD_cons_zero, List.getD_cons_succ, List.take_succ_cons, List.map_nil, List.map_cons, Nat.reduceLeDiff, true_and, and_true, ↓reduceIte, List.cons.injEq, exists_eq_left']
      exact .inr (by simp)
  · have hlt : i < xs.length := by omega
    have c2 : ((i : Int) == (xs.length : Int)) = false := by simp; omega
    by_cases hr : xs.length + 1 ≤ N
    · have d1 : decide ((N : Int) < ((xs.length + 1 : Nat) : Int)) = false := decide_eq_false (by omega)
      have n1 : ¬ i + 1 = xs.length + 1 := by omega
      have n2 : ¬ i = xs.length + 1 := by omega
      try simp (maxSteps := 1000000) only [go_skip, go_region, go_seq, go_cond, go_ops_nil, go_op, opK_none, opK_some, contK_some, condK_f, callOf, callK_eq, callJ_cons, fstep, fpre, fpost, fstep0, gsliceR, gpart, gbound, fbinA, gcap, fbin, fbin0, flen, evs, optEv, T, St.ev, St.put, AV.owners, ownersAll, List.getD_cons_zero, List.getD_cons_succ, List.set, List.length_cons, List.length_nil, List.nil_append, List.append_nil, List.getElem?_cons_zero, true_and, and_true, Bool.and_true, Bool.true_and, ↓reduceIte, Nat.reduceLeDiff, Nat.reduceLT, Nat.zero_add, Int.toNat_natCast, c1, c2, w1, w2, Nat.sub_zero, d1, hin, n1]
      refine ⟨by omega, by omega, by omega, ?_⟩
      refine callO_own ?_
      try simp (maxSteps := 1000000) only [callD_fn, evs, St.ev, List.getD_cons_zero, List.getD_cons_succ, List.append_nil]
      refine callG_ext (xcall_overlaps (tS := 111) (tR := 4) (e := 120) tyOk Try.func105 rfl rfl (by kernel_rfl) (by kernel_rfl) rfl rfl rfl (by decide) rfl rfl) ?_
      try simp (maxSteps := 1000000) only [go_seq, go_cond, go_draws, go_ops_nil, go_op, opK_none, contK_some, condK_t, callOf, fstep, fpre, fstep0, funary, St.ev, St.put, List.getD_cons_zero, List.getD_cons_succ, List.set, true_and, Bool.true_and, Bool.not_false]
      have ek : (xs.drop i).take (min (xs.length + 1 - (i + 1)) (xs.length + 1 - i)) = xs.drop i := List.take_of_length_le (by simp; omega)
      refine draw_rule tyOk (by rfl) (by simp only [List.length_cons, List.length_nil, Nat.reduceAdd, Nat.zero_le]) (by kernel_rfl) rfl ?_
      try simp (maxSteps := 1000000) only [go_region, go_seq, go_ret, go_ops_nil, go_op, opK_none, contK_some, callOf, fstep, fpre, fpost, fstep0, fsliceA, gsliceL, gsliceR, gpart, gbound, fbinA, gtake, gcopy, putSeg, dcopy, fbin, fbin0, fslice, optEv, T, St.ev, St.put, List.getD_cons_zero, List.getD_cons_succ, List.set, List.length_cons, List.length_nil, List.append_nil, List.getElem?_cons_zero, List.replicate, true_and, and_true, Bool.and_true, Bool.true_and, Bool.false_eq_true, ↓reduceIte, Nat.reduceAdd, Nat.reduceLeDiff, Nat.reduceLT, Nat.le_refl, Nat.add_zero, Nat.zero_add, newCount, drawR_nil, drawR_op, drawP_none, drawQ_some, dstep, isFree, St.app, bump, isNew, List.length_append, Int.toNat_natCast, w2, n1, n2, ek]
      refine ⟨by omega, by omega, by omega, ?_⟩
      refine ⟨by kernel_rfl, ?_⟩
      have es : List.take (xs.length + 1 - i) [v] = [v] := List.take_of_length_le (by simp; omega)
      have e3 : (xs.take (i + 1) ++ xs.drop i ++ xs.drop (i + 1 + (xs.drop i).length)).take i ++ [v] ++ (xs.take (i + 1) ++ xs.drop i ++ xs.drop (i + 1 + (xs.drop i).length)).drop (i + 1) = xs.take i ++ [v] ++ xs.drop i := by
        have hl : (xs.take (i + 1)).length = i + 1 := by simp; omega
        have hd : xs.drop (i + 1 + (xs.drop i).length) = [] := List.drop_of_length_le (by simp; omega)
        rw [hd, List.append_nil, List.take_append_of_le_length (by omega), List.take_take, Nat.min_eq_left (by omega),
          List.drop_append_of_le_length (by omega), List.drop_of_length_le (by omega), List.nil_append]
      try simp (maxSteps := 1000000) only [List.length_cons, List.length_nil, Nat.zero_add, es]
      refine ⟨by omega, ⟨by omega, by simp; omega⟩, ?_⟩
      apply hK
      simp only [Try.results85, retK, ares, List.take_nil, Bool.and_true, Bool.true_and, AV.ofResults, St.trunc, truncVs, truncV, AB.trunc, List.getD_cons_zero, List.getD_cons_succ, List.take_succ_cons, List.map_nil, List.map_cons, Nat.reduceLeDiff, true_and, and_true, ↓reduceIte, List.cons.injEq, exists_eq_left']
      exact .inl ⟨N, [], by rw [e3, List.append_nil]⟩
    · have d1 : decide ((N : Int) < ((xs.length + 1 : Nat) : Int)) = true := decide_eq_true (by omega)
      have g1 : ¬ i + (xs.length + 1 - i) ≤ N := by omega
      have g2 : ¬ i = i + (xs.length + 1 - i) := by omega
      have g3 : ¬ i + 1 = i + (xs.length + 1 - i) := by omega
      have g4 : List.take (i + (xs.length + 1 - i) - i) [v] = [v] := List.take_of_length_le (by simp; omega)
      have g5 : (xs.drop i).take (min (i + (xs.length + 1 - i) - (i + 1)) (xs.length - i)) = xs.drop i := List.take_of_length_le (by simp; omega)
      try simp (maxSteps := 1000000) only [go_skip, go_region, go_seq, go_cond, go_draws, go_ops_nil, go_op, opK_none, contK_some, condK_t, condK_f, undef, callOf, fstep, fpre, fpost, fstep0, fsliceA, gsliceL, gsliceR, gpart, gbound, fbinA, gappend, gapp, gtake, gcopy, gcap, putSeg, fbin, fbin0, flen, felems, fappend, fslice, optEv, T, TI.isAgg, TI.zeroOk, TI.zav, St.ev, St.put, Value.oneCell', List.getD_cons_zero, List.getD_cons_succ, List.set, List.length_cons, List.length_nil, List.all_cons, List.all_nil, List.headD_cons, List.cons_append, List.nil_append, List.getElem?_cons_zero, List.getElem?_cons_succ, true_and, and_true, Bool.and_true, Bool.true_and, Bool.and_self, Bool.or_true, Bool.false_eq_true, ↓reduceIte, decide_true, Nat.reduceLT, Nat.le_refl, Nat.zero_add, List.length_append, List.length_replicate, Int.toNat_natCast, c1, c2, w1, w3, Nat.sub_zero, d1, hin, g1, g2, g4]
      refine ⟨by omega, by omega, ⟨by omega, by omega, by omega, by omega, by simp only [maxLen]; omega, by omega⟩, by omega, ⟨by omega, by simp; omega⟩, ?_⟩
      refine draw_rule tyOk (by rfl) (by simp only [List.length_cons, List.length_nil, Nat.reduceAdd, Nat.zero_le]) (by kernel_rfl) rfl ?_
      try simp (maxSteps := 1000000) only [go_region, go_seq, go_ret, go_ops_nil, go_op, opK_none, contK_some, callOf, fstep, fpre, fstep0, fsliceA, gsliceL, gpart, gbound, fbinA, gtake, putSeg, dcopy, fbin, fbin0, fslice, optEv, T, St.ev, St.put, List.getD_cons_zero, List.getD_cons_succ, List.set, List.length_cons, List.length_nil, List.append_nil, List.getElem?_cons_zero, List.getElem?_cons_succ, List.replicate, true_and, and_true, Bool.and_true, Bool.true_and, Bool.false_eq_true, ↓reduceIte, Nat.reduceAdd, Nat.le_refl, Nat.add_zero, Nat.zero_add, newCount, drawR_nil, drawR_op, drawP_none, drawQ_some, dstep, isFree, St.app, bump, isNew, List.length_append, Int.toNat_natCast, w2, g3, g5, hin]
      have hB : (xs.take i ++ List.replicate (xs.length + 1 - i) (u32 0)).take i = xs.take i := by
        rw [List.take_append_of_le_length (by simp; omega), List.take_take, Nat.min_self]
      have hli : (xs.take i).length = i := by simp; omega
      rw [hB]
      refine ⟨by omega, by omega, ⟨by omega, by omega, by simp; omega⟩, ?_⟩
      refine ⟨by kernel_rfl, ?_⟩
      skip
      apply hK
      simp only [Try.results85, retK, ares, List.take_nil, Bool.and_true, AV.ofResults, St.trunc, truncVs, truncV, AB.trunc, List.getD_cons_zero, List.getD_cons_succ, List.take_succ_cons, List.map_nil, List.map_cons, Nat.reduceLeDiff, and_true, ↓reduceIte, List.cons.injEq, exists_eq_left']
      have e4 : ∀ D : List AV, (xs.take i ++ [v] ++ D).take (i + 1) = xs.take i ++ [v] := fun D => by
        rw [List.take_append_of_le_length (by simp; omega), List.take_of_length_le (by simp; omega)]
      have e5 : (xs.take i ++ [v] ++ (xs.take i ++ List.replicate (xs.length + 1 - i) (u32 0)).drop (i + 1)).drop (i + 1 + (xs.drop i).length) = [] := List.drop_of_length_le (by simp; omega)
      refine .inr ?_
      rw [e4, e5, List.append_nil]
      exact ⟨by congr 1; omega, rfl⟩

/-! ### Map[string, uint32] -/
def map_su (m : List (ByteArray × Int)) : AV := .agg [.sl 1 (m.map fun p => str p.1), .sl 1 (m.map fun p => u32 p.2)]
abbrev rises_su (m : List (ByteArray × Int)) : Prop := RisesM ltS m
theorem find_su (m : List (ByteArray × Int)) (k : ByteArray) (hr : rises_su m) (hlen : m.length ≤ 1000000) :
    PCall P 81 [map_su m, str k] (fun x => x = .tup [i64 ((lb ltS (m.map Prod.fst) k : Nat) : Int), bool (hasAt ltS eqS (m.map Prod.fst) k)]) := by
  refine pcall_go tyOk Try.func81 rfl rfl ?_
  intro K hK
  simp only [Try.ntmps81, List.length_cons, List.length_nil, Nat.reduceAdd, Nat.reduceSub, List.replicate, List.cons_append, List.nil_append]
  have em : (m.map fun p => str p.1) = (m.map Prod.fst).map fun x => str x := by rw [List.map_map]; rfl
  try simp (maxSteps := 1000000) only [go_region, go_seq, go_ops_nil, go_op, opK_none, opK_some, contK_some, callOf, callK_eq, callJ_nil, callD_fn, fstep, fpre, fstep0, fload, fcell, ffieldAddr, evs, T, TI.isAgg, St.ev, St.put, AV.cells, AV.known, AV.owners, ownersAll, List.getD_cons_zero, List.getD_cons_succ, List.set, List.length_cons, List.length_nil, List.drop_zero, List.headD_cons, List.nil_append, List.append_nil, List.getElem?_cons_zero, List.getElem?_toArray, true_and, Bool.true_and, Bool.false_eq_true, ↓reduceIte, reduceCtorEq, ne_eq, not_false_eq_true, Nat.reduceAdd, Nat.reduceLT, Nat.add_zero, Nat.zero_add, map_su, em]
  (refine callG_use (search_str (m.map Prod.fst) hr k (by rw [List.length_map]; exact hlen)) rfl ?_; rintro _ rfl)
  try simp (maxSteps := 1000000) only [go_ret, go_ops_nil, go_op, opK_none, contK_some, callOf, fstep, fpre, fstep0, St.ev, St.put, List.getD_cons_zero, List.getD_cons_succ, List.set, List.length_cons, List.length_nil, true_and, Bool.true_and, Nat.reduceAdd, Nat.reduceLT, Nat.zero_add]
  apply hK
  simp only [Try.results81, retK, ares, Bool.and_true, Bool.true_and, AV.ofResults, St.trunc, truncVs, truncV, List.getD_cons_zero, List.getD_cons_succ, List.take_zero, List.map_nil, true_and, and_true, List.cons.injEq, exists_eq_left']
theorem lb_len_su {m : List (ByteArray × Int)} {k : ByteArray} (h : hasAt ltS eqS (m.map Prod.fst) k = true) : lb ltS (m.map Prod.fst) k < m.length := by
  apply Nat.lt_of_not_le
  intro hc
  rw [hasAt_ge (by rw [List.length_map]; omega)] at h
  cases h
theorem with_call_su (m : List (ByteArray × Int)) (k : ByteArray) (v : Int) (hr : rises_su m) (hlen : m.length ≤ 900000) :
    PCall P 53 [map_su m, str k, u32 v] (fun x => x = map_su (withG ltS eqS m k v)) := by
  refine pcall_go tyOk Try.func53 rfl rfl ?_
  intro K hK
  simp only [Try.ntmps53, List.length_cons, List.length_nil, Nat.reduceAdd, Nat.reduceSub, List.replicate, List.cons_append, List.nil_append]
  have hfind := find_su m k hr (by omega)
  unfold map_su at hfind
  try simp (maxSteps := 1000000) only [go_region, go_seq, go_ops_nil, go_op, opK_none, opK_some, contK_some, callOf, callK_eq, callJ_nil, callD_fn, fstep, fpre, fstep0, fload, fcell, evs, T, TI.isAgg, St.ev, St.put, AV.cells, AV.known, AV.owners, ownersAll, List.getD_cons_zero, List.getD_cons_succ, List.set, List.map_cons, List.map_nil, List.length_cons, List.length_nil, List.drop_zero, List.take_succ_cons, List.take_zero, List.cons_append, List.nil_append, List.append_nil, List.getElem?_cons_zero, true_and, Bool.true_and, ↓reduceIte, Nat.reduceAdd, Nat.le_refl, Nat.zero_add, map_su]
  (refine callG_use hfind rfl ?_; rintro _ rfl)
  unfold withG at hK
  have lm1 : (m.map fun p => str p.1).length ≤ 1000000 := by rw [List.length_map]; omega
  have lm2 : (m.map fun p => u32 p.2).length ≤ 1000000 := by rw [List.length_map]; omega
  have hle : lb ltS (m.map Prod.fst) k ≤ m.length := by have := lb_le (lt := ltS) (m.map Prod.fst) k; rwa [List.length_map] at this
  cases hh : hasAt ltS eqS (m.map Prod.fst) k
  · rw [hh] at hK
    try simp (maxSteps := 1000000) only [go_skip, go_region, go_seq, go_cond, go_draws, go_ops_nil, go_op, opK_none, contK_some, condK_f, callOf, fstep, fpre, fstep0, St.ev, St.put, List.getD_cons_zero, List.getD_cons_succ, List.set, List.length_cons, List.length_nil, true_and, Bool.true_and, Nat.reduceAdd, Nat.reduceLT, Nat.zero_add]
    refine draw_rule tyOk (by rfl) (by simp only [List.length_cons, List.length_nil, Nat.reduceAdd, Nat.zero_le]) (by kernel_rfl) rfl ?_
    try simp (maxSteps := 1000000) only [callOf, fstep0, newF, fload, fcell, ffieldAddr, evs, T, TI.isAgg, St.ev, St.put, List.getD_cons_zero, List.getD_cons_succ, List.set, List.length_cons, List.length_nil, List.drop_zero, List.headD_cons, List.cons_append, List.nil_append, List.append_nil, List.getElem?_cons_zero, List.replicate, List.getElem?_toArray, true_and, Bool.true_and, Bool.or_true, Bool.or_false, Bool.false_eq_true, ↓reduceIte, reduceCtorEq, ne_eq, not_false_eq_true, Nat.reduceAdd, Nat.reduceLT, Nat.add_zero, Nat.zero_add, Nat.reduceBEq, beq_self_eq_true, newCount, drawR_op, drawP_none, drawP_some, drawQ_some, drawH_fn, dstep, isFree, St.app, bump, isNew]
    refine drawCall_new (clone_str _ lm1) rfl rfl ?_
    try simp (maxSteps := 1000000) only [undef, callOf, fstep0, newF, evParts, evs, T, TI.isAgg, TI.zeroOk, TI.zav, setParts, partsOk, St.ev, St.put, St.rehome, killV, killVs, AB.kill, AV.cells, AV.known, AV.flat, AV.pure, Value.cells, Value.oneCell', ren, AB.ren, List.getD_cons_zero, List.getD_cons_succ, List.set, List.map_cons, List.map_nil, List.length_cons, List.length_nil, List.all_cons, List.all_nil, List.headD_cons, List.append_nil, List.replicate, true_and, and_true, Bool.and_true, Bool.true_and, Bool.and_self, Bool.or_true, Bool.or_false, Bool.false_eq_true, ↓reduceIte, decide_true, reduceCtorEq, Nat.reduceAdd, Nat.reduceMul, Nat.reduceLeDiff, Nat.reduceEqDiff, Nat.reduceLT, Nat.zero_add, Nat.reduceBEq, beq_self_eq_true, drawR_op, drawP_none, drawP_some, drawQ_some, drawH_fn, dstep, isFree, dbuildSlice, St.app, bump, isNew]
    refine drawCall_row (insert_str _ (str k) (lb ltS (m.map Prod.fst) k) (by rw [List.length_map]; exact hle) lm1) 2 (by decide) rfl rfl rfl rfl ?_
    try simp (maxSteps := 1000000) only [callOf, fstep0, newF, fload, fcell, ffieldAddr, evs, T, TI.isAgg, St.ev, St.put, St.rehome, killV, killVs, AB.kill, ren, AB.ren, List.getD_cons_zero, List.getD_cons_succ, List.set, List.map_cons, List.map_nil, List.length_cons, List.length_nil, List.drop_succ_cons, List.drop_zero, List.headD_cons, List.append_nil, List.getElem?_cons_zero, List.getElem?_cons_succ, List.getElem?_toArray, true_and, Bool.true_and, Bool.or_false, Bool.false_eq_true, ↓reduceIte, reduceCtorEq, ne_eq, not_false_eq_true, Nat.reduceAdd, Nat.reduceEqDiff, Nat.reduceLT, Nat.zero_add, Nat.reduceBEq, drawR_op, drawP_none, drawP_some, drawQ_some, drawH_fn, dstep, isFree, St.app, bump, isNew]
    refine drawCall_new (clone_u32 _ lm2) rfl rfl ?_
    try simp (maxSteps := 1000000) only [undef, callOf, fstep0, newF, evParts, evs, T, TI.isAgg, TI.zeroOk, TI.zav, setParts, partsOk, St.ev, St.put, St.rehome, killV, killVs, AB.kill, AV.cells, AV.known, AV.flat, AV.pure, Value.cells, Value.oneCell', ren, AB.ren, List.getD_cons_zero, List.getD_cons_succ, List.set, List.map_cons, List.map_nil, List.length_cons, List.length_nil, List.all_cons, List.all_nil, List.headD_cons, List.append_nil, List.replicate, true_and, and_true, Bool.and_true, Bool.true_and, Bool.and_self, Bool.or_true, Bool.or_false, Bool.false_eq_true, ↓reduceIte, decide_true, reduceCtorEq, Nat.reduceAdd, Nat.reduceMul, Nat.reduceLeDiff, Nat.reduceEqDiff, Nat.reduceLT, Nat.zero_add, Nat.reduceBEq, beq_self_eq_true, drawR_op, drawP_none, drawP_some, drawQ_some, drawH_fn, dstep, isFree, dbuildSlice, St.app, bump, isNew]
    refine drawCall_row (insert_u32 _ (u32 v) (lb ltS (m.map Prod.fst) k) (by rw [List.length_map]; exact hle) lm2) 3 (by decide) rfl rfl rfl rfl ?_
    try simp (maxSteps := 1000000) only [go_ret, callOf, fstep0, newF, ffill, fieldPlaces, fieldsOk, fbuild, evParts, T, St.ev, St.put, St.rehome, killV, killVs, AB.kill, splice, AV.cells, AV.known, AV.flat, ren, AB.ren, List.getD_cons_zero, List.getD_cons_succ, List.set, List.map_cons, List.map_nil, List.length_cons, List.length_nil, List.all_cons, List.all_nil, List.drop_succ_cons, List.drop_zero, List.take_succ_cons, List.take_zero, List.cons_append, List.nil_append, List.append_nil, List.getElem?_cons_zero, List.getElem?_cons_succ, Option.isSome_some, List.getElem?_toArray, true_and, and_true, Bool.and_true, Bool.true_and, Bool.and_self, Bool.or_false, Bool.false_eq_true, ↓reduceIte, reduceCtorEq, Nat.reduceAdd, Nat.reduceLeDiff, Nat.reduceEqDiff, Nat.le_refl, Nat.zero_add, Nat.reduceBEq, drawR_nil, drawR_op, drawP_none, drawQ_some, dstep, isFree, dstore, St.app, bump, isNew]
    refine ⟨by kernel_rfl, ?_⟩
    skip
    apply hK
    simp only [Try.results53, retK, ares, List.take_nil, Bool.and_true, Bool.true_and, AV.ofResults, St.trunc, truncVs, truncV, aload, acell, T, TI.isAgg, List.getD_cons_zero, List.getD_cons_succ, List.take_zero, List.take_succ_cons, List.drop_zero, List.map_nil, List.getElem?_cons_zero, List.getElem?_cons_succ, List.length_cons, List.length_nil, Nat.reduceAdd, Nat.reduceLeDiff, Nat.le_refl, true_and, and_true, ↓reduceIte, Bool.false_eq_true, List.cons.injEq, exists_eq_left']
    rw [sl_full (by simp; omega), sl_full (by simp; omega)]
    simp only [map_su, List.map_append, List.map_take, List.map_drop, List.map_cons, List.map_nil]
  · rw [hh] at hK
    have hl := lb_len_su hh
    have eg : (m.map fun p => u32 p.2).getD (Int.toNat ((lb ltS (m.map Prod.fst) k : Nat) : Int)) .any = u32 m[lb ltS (m.map Prod.fst) k].2 := at_map hl
    have k1 : (0 : Int) ≤ ((lb ltS (m.map Prod.fst) k : Nat) : Int) ∧ Int.toNat ((lb ltS (m.map Prod.fst) k : Nat) : Int) < m.length := by omega
    try simp (maxSteps := 1000000) only [go_region, go_seq, go_cond, go_draws, go_ops_nil, go_op, opK_none, contK_some, condK_t, callOf, fstep, fpre, fstep0, St.ev, St.put, List.getD_cons_zero, List.getD_cons_succ, List.set, List.length_cons, List.length_nil, true_and, Bool.true_and, Nat.reduceAdd, Nat.reduceLT, Nat.zero_add]
    refine draw_rule tyOk (by rfl) (by simp only [List.length_cons, List.length_nil, Nat.reduceAdd, Nat.zero_le]) (by kernel_rfl) rfl ?_
    try simp (maxSteps := 1000000) only [callOf, fstep0, newF, fload, fcell, ffieldAddr, evs, T, TI.isAgg, St.ev, St.put, List.getD_cons_zero, List.getD_cons_succ, List.set, List.length_cons, List.length_nil, List.drop_succ_cons, List.drop_zero, List.headD_cons, List.cons_append, List.nil_append, List.append_nil, List.getElem?_cons_zero, List.getElem?_cons_succ, List.replicate, List.getElem?_toArray, true_and, Bool.true_and, Bool.or_true, Bool.or_false, Bool.false_eq_true, ↓reduceIte, reduceCtorEq, ne_eq, not_false_eq_true, Nat.reduceAdd, Nat.reduceLT, Nat.add_zero, Nat.zero_add, Nat.reduceBEq, beq_self_eq_true, newCount, drawR_op, drawP_none, drawP_some, drawQ_some, drawH_fn, dstep, isFree, St.app, bump, isNew]
    refine drawCall_new (clone_u32 _ lm2) rfl rfl ?_
    try simp (maxSteps := 1000000) only [go_region, go_seq, go_ret, go_ops_nil, go_op, opK_none, contK_some, callOf, fstep, fpre, fstep0, newF, fload, fcell, fstore, ffieldAddr, findexAddr, ffill, fieldPlaces, fieldsOk, fbuild, evParts, T, TI.isAgg, St.ev, St.put, St.rehome, killV, killVs, AB.kill, splice, esplice, AV.cells, AV.known, AV.flat, AV.pure, Value.cells, Value.oneCell', ren, AB.ren, List.getD_cons_zero, List.getD_cons_succ, List.set, List.map_cons, List.map_nil, List.length_cons, List.length_nil, List.all_cons, List.all_nil, List.drop_succ_cons, List.drop_zero, List.take_succ_cons, List.take_zero, List.headD_cons, List.cons_append, List.nil_append, List.append_nil, List.getElem?_cons_zero, List.getElem?_cons_succ, Option.isSome_some, List.getElem?_toArray, true_and, and_true, Bool.and_true, Bool.true_and, Bool.and_self, Bool.or_true, Bool.or_false, Bool.false_eq_true, ↓reduceIte, reduceCtorEq, ne_eq, not_false_eq_true, Nat.reduceAdd, Nat.reduceLeDiff, Nat.reduceEqDiff, Nat.reduceLT, Nat.le_refl, Nat.zero_add, Nat.reduceBEq, beq_self_eq_true, drawR_nil, drawR_op, drawP_none, drawQ_some, dstep, isFree, dstore, St.app, bump, isNew]
    refine ⟨by kernel_rfl, ?_⟩
    try simp (maxSteps := 1000000) only [List.map_cons, List.map_nil, List.length_cons, List.length_nil, true_and, and_true, Bool.and_true, Bool.true_and, Nat.zero_add, eg, k1, List.length_map]
    apply hK
    simp only [Try.results53, retK, ares, List.take_nil, Bool.and_true, Bool.true_and, AV.ofResults, St.trunc, truncVs, truncV, aload, acell, T, TI.isAgg, List.getD_cons_zero, List.getD_cons_succ, List.take_zero, List.take_succ_cons, List.drop_zero, List.map_nil, List.getElem?_cons_zero, List.getElem?_cons_succ, List.length_cons, List.length_nil, Nat.reduceAdd, Nat.reduceLeDiff, Nat.le_refl, true_and, and_true, ↓reduceIte, List.cons.injEq, exists_eq_left']
    have he : m[lb ltS (m.map Prod.fst) k].1 = k := by
      have h1 := hh
      rw [hasAt_lt (by rw [List.length_map]; exact hl)] at h1
      have h2 := (eqS_iff _ _).1 h1
      simpa using h2
    rw [sl_full (by simp)]
    simp only [map_su, List.map_set, Int.toNat_natCast]
    congr 2
    congr 1
    refine (set_same_map (f := fun p : ByteArray × Int => str p.1) hl ?_).symm
    simp only [he]
theorem all_call_su (m : List (ByteArray × Int)) : PCall P 57 [map_su m] (fun x => x = .fn 89 [.rp [.sl 1 (m.map fun p => str p.1), .sl 1 (m.map fun p => u32 p.2)]]) := by
  refine pcall_go tyOk Try.func57 rfl rfl ?_
  intro K hK
  simp only [Try.ntmps57, List.length_cons, List.length_nil, Nat.reduceAdd, Nat.reduceSub, List.replicate, List.cons_append, List.nil_append]
  try simp (maxSteps := 1000000) only [go_region, go_seq, go_ret, go_ops_nil, go_op, opK_none, contK_some, callOf, fstep, fpre, fstep0, evs, St.ev, St.put, AV.cells, AV.known, List.getD_cons_zero, List.getD_cons_succ, List.set, List.length_nil, List.nil_append, List.size_toArray, true_and, Bool.true_and, map_su]
  apply hK
  simp only [Try.results57, retK, ares, pureAll, AV.pure, Bool.and_self, Bool.and_true, Bool.true_and, AV.ofResults, St.trunc, truncVs, truncV, List.getD_cons_zero, List.getD_cons_succ, List.take_zero, List.drop_zero, List.map_nil, List.getElem?_cons_zero, Nat.le_refl, true_and, and_true, ↓reduceIte, List.cons.injEq, exists_eq_left']
def pairs_su (m : List (ByteArray × Int)) : List (List AV) := m.map fun p => [str p.1, u32 p.2]
theorem pairs_pre_su {m : List (ByteArray × Int)} (i : Nat) : pairs_su (m.take i) <+: pairs_su m := (List.take_prefix i m).map _
theorem seq_su (m : List (ByteArray × Int)) (hlen : m.length ≤ 1000000) : ICall P 89 [.rp [.sl 1 (m.map fun p => str p.1), .sl 1 (m.map fun p => u32 p.2)]] (pairs_su m) := by
  refine icall_goY tyOk Try.func89 rfl rfl rfl ?_
  intro y K hK
  simp only [Try.ntmps89, List.length_cons, List.length_nil, Nat.reduceAdd, Nat.reduceSub, List.replicate, List.cons_append, List.nil_append]
  try simp (maxSteps := 1000000) only [callOf, fstep, fpre, fstep0, fload, fcell, ffieldAddr, flen, T, TI.isAgg, St.ev, St.put, List.getD_cons_zero, List.getD_cons_succ, List.set, List.length_cons, List.length_nil, List.drop_zero, List.headD_cons, List.getElem?_cons_zero, List.getElem?_toArray, true_and, Bool.true_and, Bool.false_eq_true, ↓reduceIte, reduceCtorEq, ne_eq, not_false_eq_true, Nat.reduceAdd, Nat.reduceLT, Nat.zero_add, goY_yregion, goY_seq, goY_block, goY_loop, goY_ops_nil, goY_op, opYK_none, contY_some, List.length_map]
  refine loopY_rule tyOk (α := Nat) 0 [0, 1, 6, 7, 8] (fun i => i ≤ m.length)
    (fun i => ⟨[.v y, .rp [.sl 1 (m.map fun p => str p.1), .sl 1 (m.map fun p => u32 p.2)], .any, .any, .any, .any, .sl 1 (m.map fun p => str p.1), i64 m.length, i64 i, .any, .any, .any, .any, .any, .any, .any, .any, .any, .any, .any, .any, .any, .any], []⟩)
    (fun i => (pairs_su (m.take i), false)) (fun i => m.length - i) 0 (Nat.le_refl _) (Nat.zero_le _) rfl rfl ?_
  intro i hi
  try simp (maxSteps := 1000000) only [callOf, fstep, fpre, fstep0, fbinA, fbin, fbin0, St.ev, St.put, List.getD_cons_zero, List.getD_cons_succ, List.set, true_and, Bool.true_and, goY_yregion, goY_seq, goY_cond, goY_ops_nil, goY_op, opYK_none, contY_some]
  (first | refine guardV_split ?_ ?_ | refine condK_split ?_ ?_ | refine drawV_split ?_ ?_ | refine condY_split ?_ ?_ | refine guardY_split ?_ ?_) <;> intro h <;> try simp (maxSteps := 1000000) only [callOf, fstep, fpre, fstep0, fload, fcell, ffieldAddr, findexAddr, funary, evs, T, TI.isAgg, St.ev, St.put, AV.cells, AV.known, Value.cells, List.getD_cons_zero, List.getD_cons_succ, List.set, List.length_cons, List.length_nil, List.drop_succ_cons, List.drop_zero, List.headD_cons, List.getElem?_cons_zero, List.getElem?_cons_succ, List.getElem?_toArray, true_and, Bool.true_and, Bool.false_eq_true, ↓reduceIte, reduceCtorEq, ne_eq, not_false_eq_true, Nat.reduceLT, Nat.zero_add, goY_nil, goY_skip, goY_yregion, goY_seq, goY_cond, goY_block, goY_exit, exitY_code, exitY_blk, exitY_nil, goY_ops_nil, goY_op, opYK_none, opYK_some, contY_some, callY_yield, condY_t, condY_f, loopYX_exit, itAn_eq, itAl_eq]
  · have hlt : i < m.length := by simpa using h
    have e1 := at_map (f := fun p : ByteArray × Int => str p.1) hlt
    have e2 := at_map (f := fun p : ByteArray × Int => u32 p.2) hlt
    have c1 : (0 : Int) ≤ (i : Int) ∧ Int.toNat (i : Int) < m.length := by omega
    have ew : IntKind.i64.wrap ((i : Int) + 1) = ((i + 1 : Nat) : Int) := by rw [wrap_i64 (by omega) (by omega)]; rfl
    have e3 : pairs_su (m.take i) ++ [[str m[i].1, u32 m[i].2]] = pairs_su (m.take (i + 1)) := by
      rw [take_one hlt]; simp only [pairs_su, List.map_append, List.map_cons, List.map_nil]
    try simp (maxSteps := 1000000) only [List.map_cons, List.map_nil, List.length_cons, List.length_nil, List.headD_cons, true_and, and_true, Bool.and_true, Bool.true_and, Nat.reduceLT, Nat.zero_add, e1, e2, c1, List.length_map]
    refine ⟨⟨by rw [e3]; exact pairs_pre_su _, rfl⟩, ?_⟩
    intro b
    cases b with
    | true =>
      try simp (maxSteps := 1000000) only [callOf, fstep, fpre, fstep0, fbinA, fbin, fbin0, St.ev, St.put, List.getD_cons_zero, List.getD_cons_succ, List.set, true_and, Bool.true_and, Bool.not_true, goY_nil, goY_skip, goY_yregion, goY_blk, goY_ops_nil, goY_op, opYK_none, contY_some, condY_f, ew]
      simp only [loopYX_normal, St.trunc, St.keep, truncVs, truncV, keepV, List.elem_cons, List.elem_nil, List.take_zero, List.map_nil, Nat.reduceAdd, Nat.reduceBEq, Nat.zero_add, Bool.false_eq_true, ↓reduceIte]
      exact ⟨i + 1, hlt, by omega, rfl, by rw [e3]⟩
    | false =>
      try simp (maxSteps := 1000000) only [Bool.not_false, goY_ret, condY_t, loopYX_ret]
      exact hK _ _ _ (itK_ret ⟨by rw [e3]; exact pairs_pre_su _, fun h => by cases h⟩)
  · have hge : i = m.length := by have : ¬ ((i : Int) < (m.length : Int)) := by simpa using h
                                  omega
    subst hge
    refine hK _ _ _ (itK_normal ⟨pairs_pre_su _, fun _ => by rw [List.take_length]⟩)

theorem get_call_su (m : List (ByteArray × Int)) (k : ByteArray) (hr : rises_su m) (hlen : m.length ≤ 1000000) :
    PCall P 52 [map_su m, str k] (fun x => x = .tup [u32 (getG ltS eqS 0 m k).1, bool (getG ltS eqS 0 m k).2]) := by
  refine pcall_go tyOk Try.func52 rfl rfl ?_
  intro K hK
  simp only [Try.ntmps52, List.length_cons, List.length_nil, Nat.reduceAdd, Nat.reduceSub, List.replicate, List.cons_append, List.nil_append]
  have hfind := find_su m k hr hlen
  unfold map_su at hfind
  try simp (maxSteps := 1000000) only [go_region, go_seq, go_ops_nil, go_op, opK_none, opK_some, contK_some, callOf, callK_eq, callJ_nil, callD_fn, fstep, fpre, fstep0, fload, fcell, evs, T, TI.isAgg, St.ev, St.put, AV.cells, AV.known, AV.owners, ownersAll, List.getD_cons_zero, List.getD_cons_succ, List.set, List.length_cons, List.length_nil, List.drop_zero, List.take_succ_cons, List.take_zero, List.nil_append, List.append_nil, List.getElem?_cons_zero, true_and, Bool.true_and, ↓reduceIte, Nat.reduceAdd, Nat.le_refl, Nat.zero_add, map_su]
  (refine callG_use hfind rfl ?_; rintro _ rfl)
  unfold getG at hK
  cases hh : hasAt ltS eqS (m.map Prod.fst) k
  · rw [hh] at hK
    try simp (maxSteps := 1000000) only [go_region, go_seq, go_cond, go_ret, go_ops_nil, go_op, opK_none, contK_some, condK_t, callOf, fstep, fpre, fstep0, funary, St.ev, St.put, List.getD_cons_zero, List.getD_cons_succ, List.set, List.length_cons, List.length_nil, true_and, Bool.true_and, Bool.not_false, Nat.reduceAdd, Nat.reduceLT, Nat.zero_add]
    apply hK
    simp only [Try.results52, retK, ares, Bool.and_true, Bool.true_and, AV.ofResults, St.trunc, truncVs, truncV, List.getD_cons_zero, List.getD_cons_succ, List.take_zero, List.map_nil, true_and, and_true, ↓reduceIte, Bool.false_eq_true, List.cons.injEq, exists_eq_left']
  · rw [hh] at hK
    have hl := lb_len_su hh
    have eg : (m.map fun p => u32 p.2).getD (Int.toNat ((lb ltS (m.map Prod.fst) k : Nat) : Int)) .any = u32 ((m.map Prod.snd).getD (lb ltS (m.map Prod.fst) k) 0) := by
      rw [at_map hl, List.getD_eq_getElem?_getD, List.getElem?_map, List.getElem?_eq_getElem hl]; rfl
    have k1 : (0 : Int) ≤ ((lb ltS (m.map Prod.fst) k : Nat) : Int) ∧ Int.toNat ((lb ltS (m.map Prod.fst) k : Nat) : Int) < m.length := by omega
    try simp (maxSteps := 1000000) only [go_skip, go_region, go_seq, go_cond, go_ret, go_ops_nil, go_op, opK_none, contK_some, condK_f, callOf, fstep, fpre, fstep0, fload, fcell, ffieldAddr, findexAddr, funary, T, TI.isAgg, St.ev, St.put, AV.cells, AV.known, Value.cells, List.getD_cons_zero, List.getD_cons_succ, List.set, List.map_cons, List.map_nil, List.length_cons, List.length_nil, List.drop_succ_cons, List.drop_zero, List.headD_cons, List.getElem?_cons_zero, List.getElem?_cons_succ, List.getElem?_toArray, true_and, and_true, Bool.and_true, Bool.true_and, Bool.not_true, Bool.false_eq_true, ↓reduceIte, reduceCtorEq, ne_eq, not_false_eq_true, Nat.reduceAdd, Nat.reduceLT, Nat.zero_add, eg, k1, List.length_map]
    apply hK
    simp only [Try.results52, retK, ares, Bool.and_true, Bool.true_and, AV.ofResults, St.trunc, truncVs, truncV, List.getD_cons_zero, List.getD_cons_succ, List.take_zero, List.map_nil, true_and, and_true, ↓reduceIte, List.cons.injEq, exists_eq_left']

theorem without_call_su (m : List (ByteArray × Int)) (k : ByteArray) (hr : rises_su m) (hlen : m.length ≤ 900000) :
    PCall P 56 [map_su m, str k] (fun x => x = map_su (withoutG ltS eqS m k)) := by
  refine pcall_go tyOk Try.func56 rfl rfl ?_
  intro K hK
  simp only [Try.ntmps56, List.length_cons, List.length_nil, Nat.reduceAdd, Nat.reduceSub, List.replicate, List.cons_append, List.nil_append]
  have hfind := find_su m k hr (by omega)
  unfold map_su at hfind
  try simp (maxSteps := 1000000) only [go_region, go_seq, go_ops_nil, go_op, opK_none, opK_some, contK_some, callOf, callK_eq, callJ_nil, callD_fn, fstep, fpre, fstep0, fload, fcell, evs, T, TI.isAgg, St.ev, St.put, AV.cells, AV.known, AV.owners, ownersAll, List.getD_cons_zero, List.getD_cons_succ, List.set, List.map_cons, List.map_nil, List.length_cons, List.length_nil, List.drop_zero, List.take_succ_cons, List.take_zero, List.cons_append, List.nil_append, List.append_nil, List.getElem?_cons_zero, true_and, Bool.true_and, ↓reduceIte, Nat.reduceAdd, Nat.le_refl, Nat.zero_add, map_su]
  (refine callG_use hfind rfl ?_; rintro _ rfl)
  unfold withoutG at hK
  have lm1 : (m.map fun p => str p.1).length ≤ 1000000 := by rw [List.length_map]; omega
  have lm2 : (m.map fun p => u32 p.2).length ≤ 1000000 := by rw [List.length_map]; omega
  cases hh : hasAt ltS eqS (m.map Prod.fst) k
  · rw [hh] at hK
    try simp (maxSteps := 1000000) only [go_region, go_seq, go_cond, go_ret, go_ops_nil, go_op, opK_none, contK_some, condK_t, callOf, fstep, fpre, fstep0, fload, fcell, fstore, funary, T, TI.isAgg, St.ev, St.put, splice, AV.cells, AV.known, AV.flat, List.getD_cons_zero, List.getD_cons_succ, List.set, List.length_cons, List.length_nil, List.all_cons, List.all_nil, List.drop_succ_cons, List.drop_zero, List.take_succ_cons, List.take_zero, List.nil_append, List.append_nil, List.getElem?_cons_zero, List.getElem?_cons_succ, true_and, and_true, Bool.and_true, Bool.true_and, Bool.and_self, Bool.not_false, ↓reduceIte, Nat.reduceAdd, Nat.reduceLT, Nat.le_refl, Nat.zero_add]
    apply hK
    simp only [Try.results56, retK, ares, List.take_nil, Bool.and_true, Bool.true_and, AV.ofResults, St.trunc, truncVs, truncV, aload, acell, T, TI.isAgg, List.getD_cons_zero, List.getD_cons_succ, List.take_zero, List.take_succ_cons, List.drop_zero, List.map_nil, List.getElem?_cons_zero, List.getElem?_cons_succ, List.length_cons, List.length_nil, Nat.reduceAdd, Nat.le_refl, true_and, and_true, ↓reduceIte, Bool.false_eq_true, List.cons.injEq, exists_eq_left']
    rfl
  · rw [hh] at hK
    have hl := lb_len_su hh
    have w1 : IntKind.i64.wrap (((lb ltS (m.map Prod.fst) k : Nat) : Int) + 1) = ((lb ltS (m.map Prod.fst) k + 1 : Nat) : Int) := by rw [wrap_i64 (by omega) (by omega)]; rfl
    try simp (maxSteps := 1000000) only [go_skip, go_region, go_seq, go_cond, go_draws, go_ops_nil, go_op, opK_none, contK_some, condK_f, callOf, fstep, fpre, fstep0, funary, St.ev, St.put, List.getD_cons_zero, List.getD_cons_succ, List.set, List.length_cons, List.length_nil, true_and, Bool.true_and, Bool.not_true, Nat.reduceAdd, Nat.reduceLT, Nat.zero_add]
    refine draw_rule tyOk (by rfl) (by simp only [List.length_cons, List.length_nil, Nat.reduceAdd, Nat.zero_le]) (by kernel_rfl) rfl ?_
    try simp (maxSteps := 1000000) only [callOf, fstep0, newF, fload, fcell, ffieldAddr, evs, T, TI.isAgg, St.ev, St.put, List.getD_cons_zero, List.getD_cons_succ, List.set, List.length_cons, List.length_nil, List.drop_zero, List.headD_cons, List.cons_append, List.nil_append, List.append_nil, List.getElem?_cons_zero, List.replicate, List.getElem?_toArray, true_and, Bool.true_and, Bool.or_true, Bool.or_false, Bool.false_eq_true, ↓reduceIte, reduceCtorEq, ne_eq, not_false_eq_true, Nat.reduceAdd, Nat.reduceLT, Nat.add_zero, Nat.zero_add, Nat.reduceBEq, beq_self_eq_true, newCount, drawR_op, drawP_none, drawP_some, drawQ_some, drawH_fn, dstep, isFree, St.app, bump, isNew]
    refine drawCall_new (clone_str _ lm1) rfl rfl ?_
    try simp (maxSteps := 1000000) only [callOf, fstep0, fbinA, newF, fbin, fbin0, evs, St.ev, St.put, St.rehome, killV, killVs, AB.kill, ren, AB.ren, List.getD_cons_zero, List.getD_cons_succ, List.set, List.map_cons, List.map_nil, List.append_nil, true_and, Bool.true_and, Bool.or_true, Bool.or_false, Bool.false_eq_true, ↓reduceIte, reduceCtorEq, Nat.reduceAdd, Nat.reduceEqDiff, Nat.reduceBEq, beq_self_eq_true, drawR_op, drawP_none, drawP_some, drawQ_some, drawH_fn, dstep, isFree, St.app, bump, isNew, w1]
    refine drawCall_on (delete_str _ (lb ltS (m.map Prod.fst) k) (by rw [List.length_map]; exact hl) lm1) 2 rfl rfl rfl rfl rfl ?_
    try simp (maxSteps := 1000000) only [callOf, fstep0, newF, fload, fcell, ffieldAddr, evs, T, TI.isAgg, St.ev, St.put, ren, AB.ren, List.getD_cons_zero, List.getD_cons_succ, List.set, List.length_cons, List.length_nil, List.drop_succ_cons, List.drop_zero, List.headD_cons, List.append_nil, List.getElem?_cons_zero, List.getElem?_cons_succ, List.getElem?_toArray, true_and, Bool.true_and, Bool.or_false, Bool.false_eq_true, ↓reduceIte, reduceCtorEq, ne_eq, not_false_eq_true, Nat.reduceAdd, Nat.reduceLT, Nat.zero_add, Nat.reduceBEq, drawR_op, drawP_none, drawP_some, drawQ_some, drawH_fn, dstep, isFree, St.app, bump, isNew]
    refine drawCall_new (clone_u32 _ lm2) rfl rfl ?_
    try simp (maxSteps := 1000000) only [callOf, fstep0, fbinA, newF, fbin, fbin0, evs, St.ev, St.put, St.rehome, killV, killVs, AB.kill, ren, AB.ren, List.getD_cons_zero, List.getD_cons_succ, List.set, List.map_cons, List.map_nil, List.append_nil, true_and, Bool.true_and, Bool.or_true, Bool.or_false, Bool.false_eq_true, ↓reduceIte, reduceCtorEq, Nat.reduceAdd, Nat.reduceEqDiff, Nat.reduceBEq, beq_self_eq_true, drawR_op, drawP_none, drawP_some, drawQ_some, drawH_fn, dstep, isFree, St.app, bump, isNew, w1]
    refine drawCall_on (delete_u32 _ (lb ltS (m.map Prod.fst) k) (by rw [List.length_map]; exact hl) lm2) 3 rfl rfl rfl rfl rfl ?_
    try simp (maxSteps := 1000000) only [go_ret, callOf, fstep0, newF, ffill, fieldPlaces, fieldsOk, fbuild, evParts, T, St.ev, St.put, splice, AV.cells, AV.known, AV.flat, ren, AB.ren, List.getD_cons_zero, List.getD_cons_succ, List.set, List.map_cons, List.map_nil, List.length_cons, List.length_nil, List.all_cons, List.all_nil, List.drop_succ_cons, List.drop_zero, List.take_succ_cons, List.take_zero, List.cons_append, List.nil_append, List.append_nil, List.getElem?_cons_zero, List.getElem?_cons_succ, Option.isSome_some, List.getElem?_toArray, true_and, and_true, Bool.and_true, Bool.true_and, Bool.and_self, Bool.or_false, Bool.false_eq_true, ↓reduceIte, Nat.reduceAdd, Nat.reduceLeDiff, Nat.le_refl, Nat.zero_add, Nat.reduceBEq, drawR_nil, drawR_op, drawP_none, drawQ_some, dstep, isFree, dstore, St.app, bump, isNew]
    refine ⟨by kernel_rfl, ?_⟩
    skip
    apply hK
    simp only [Try.results56, retK, ares, List.take_nil, Bool.and_true, Bool.true_and, AV.ofResults, St.trunc, truncVs, truncV, aload, acell, T, TI.isAgg, List.getD_cons_zero, List.getD_cons_succ, List.take_zero, List.take_succ_cons, List.drop_zero, List.map_nil, List.getElem?_cons_zero, List.getElem?_cons_succ, List.length_cons, List.length_nil, Nat.reduceAdd, Nat.reduceLeDiff, Nat.le_refl, true_and, and_true, ↓reduceIte, List.cons.injEq, exists_eq_left']
    rw [cut_last (by rw [List.length_map]; exact hl), cut_last (by rw [List.length_map]; exact hl)]
    simp only [map_su, List.map_append, List.map_take, List.map_drop]

end Go.Proofs.Ytljgfapbbhbbpaa
