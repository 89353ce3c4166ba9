/- The document's answer of the layer sess. -/
import Derived.Test.YtfkpjdcjjfpigaaMc
namespace Go.Proofs.Ytfkpjdcjjfpigaa
open Go Go.Proofs.Ytfkpjdcjjfpigaa.Sym
set_option maxRecDepth 100000
set_option linter.unusedSimpArgs false
set_option linter.unusedVariables false

theorem avs_snoc (l : List Ses) (s : Ses) : avs l ++ [s.av] = avs (l ++ [s]) := by simp [avs]

theorem ref06_Purge (l : List Ses) (now : Int) (hlen : l.length ≤ 10000) : PCall P 42 [.sl 4 (avs l), u64 now] (fun x => x = .sl 4 (avs (lives now l))) := by
  refine pcall_go tyOk Try.func42 rfl rfl ?_
  intro K hK
  simp only [Try.ntmps42, List.length_cons, List.length_nil, Nat.reduceAdd, Nat.reduceSub, List.replicate, List.cons_append, List.nil_append]
  try simp (maxSteps := 1000000) only [go_region, go_seq, go_block, go_loop, go_ops_nil, go_op, opK_none, contK_some, callOf, fstep, gpre, fpre, fstep0, St.ev, St.put, List.set, true_and, Bool.true_and]
  refine loopK_turn (Turns.adopt (i := 5) 41 4 rfl) ?_
  refine loopK_rule tyOk (α := Nat) 1 [0, 1, 5, 6] (fun i => i ≤ l.length)
    (fun i => ⟨[.sl 4 (avs l), u64 now, .any, .any, .any, .own 0 4 0 (lives now (l.take i)).length, i64 i, .any, .any, .any, .any, .any, .any, .any, .any, .any, .any, .any, .any, .any, .any, .any, .any, .any, .any, .any, .any, .any], [.row 41 4 (avs (lives now (l.take i)))]⟩)
    (fun i => l.length - i) 0 (Nat.zero_le _) (Nat.zero_le _) rfl ?_
  intro i hi
  try simp (maxSteps := 1000000) only [go_region, go_seq, go_cond, go_ops_nil, go_op, opK_none, contK_some, callOf, fstep, gpre, fpre, fstep0, fbinA, fbin, fbin0, flen, T, St.ev, St.put, List.getD_cons_zero, List.getD_cons_succ, List.set, true_and, Bool.true_and, avs_len]
  (first | refine guardV_split ?_ ?_ | refine condK_split ?_ ?_ | refine drawV_split ?_ ?_ | refine condY_split ?_ ?_ | refine guardY_split ?_ ?_) <;> intro h <;> try simp (maxSteps := 1000000) only [go_skip, go_region, go_seq, go_block, go_exit, go_ret, exitK_code, exitK_blk, exitK_nil, go_ops_nil, go_op, opK_none, contK_some, condK_t, condK_f, callOf, fstep, gpre, gloadB, fpre, fpost, fstep0, fbinA, gbin, gbits, gnil, fbin, fbin0, fbinS, fload, fcell, ffieldAddr, findexAddr, isBoolTy, T, TI.isAgg, St.ev, St.put, AV.cells, AV.known, Value.cells, List.getD_cons_zero, List.getD_cons_succ, List.set, List.getElem?_cons_zero, List.getElem?_cons_succ, List.getElem?_toArray, true_and, Bool.true_and, Bool.false_eq_true, ↓reduceIte, reduceCtorEq, ne_eq, not_false_eq_true, loopX_exit]
  · have hlt : i < l.length := by simpa using h
    have eg := avs_get hlt
    have ew : IntKind.i64.wrap ((i : Int) + 1) = ((i + 1 : Nat) : Int) := by rw [wrap_i64 (by omega) (by omega)]; rfl
    have c1 : (0 : Int) ≤ (i : Int) ∧ Int.toNat (i : Int) < l.length := by omega
    have hf : (lives now (l.take i)).length ≤ 10000 := Nat.le_trans (List.length_filter_le _ _) (by rw [List.length_take]; omega)
    try simp (maxSteps := 1000000) only [go_cond, go_ops_nil, contK_some, St.ev, St.put, List.getD_cons_zero, List.getD_cons_succ, List.set, List.length_cons, List.length_nil, List.drop_succ_cons, List.drop_zero, List.headD_cons, true_and, and_true, Bool.and_true, Bool.true_and, Nat.reduceLT, Nat.zero_add, eg, c1, Ses.av, avs_len]
    cases hl : (l[i]).lives now with
    | false =>
      have e1 : decide (now < (l[i]).un) = false := by
        simp only [Ses.lives, Bool.not_eq_false', decide_eq_true_eq] at hl
        simp; omega
      try simp (maxSteps := 1000000) only [go_nil, go_skip, go_region, go_blk, go_ops_nil, go_op, opK_none, contK_some, condK_f, callOf, fstep, gpre, fpre, fstep0, fbinA, fbin, fbin0, St.ev, St.put, List.getD_cons_zero, List.getD_cons_succ, List.set, true_and, Bool.true_and, e1, ew]
      simp only [loopX_normal, St.trunc, St.keep, truncVs, truncV, AB.trunc, keepV, List.elem_cons, List.elem_nil, List.take_succ_cons, List.take_zero, List.map_cons, List.map_nil, Nat.reduceAdd, Nat.reduceBEq, Nat.reduceLeDiff, Nat.zero_add, Bool.false_eq_true, ↓reduceIte]
      exact ⟨i + 1, hlt, by omega, by rw [lives_take_skip hlt hl]⟩
    | true =>
      have e1 : decide (now < (l[i]).un) = true := by
        simp only [Ses.lives, Bool.not_eq_true', decide_eq_false_iff_not] at hl
        simp; omega
      try simp (maxSteps := 1000000) only [go_nil, go_region, go_blk, go_ops_nil, go_op, opK_none, contK_some, condK_t, callOf, fstep, gpre, gbuildB, gparts, hasBks, bkTop, gloadB, fpre, fstep0, fbinA, fbin, fbin0, fload, fcell, findexAddr, evParts, evOwners, fbuildSlice, felems, fappend, T, TI.isAgg, TI.zeroOk, TI.zav, setParts, partsOk, St.ev, St.put, St.shutAll, St.rehome, killV, killVs, AB.kill, AV.cells, AV.known, AV.flat, AV.pure, pureAll, AV.owners, ownersAll, Value.oneCell', List.getD_cons_zero, List.getD_cons_succ, List.set, List.map_cons, List.map_nil, List.length_cons, List.length_nil, List.all_cons, List.all_nil, List.drop_zero, List.take_succ_cons, List.take_zero, List.cons_append, List.nil_append, List.append_nil, List.getElem?_cons_zero, List.getElem?_cons_succ, List.replicate, true_and, and_true, Bool.and_true, Bool.true_and, Bool.and_self, Bool.or_false, Bool.false_eq_true, ↓reduceIte, decide_true, decide_false, reduceCtorEq, Nat.reduceAdd, Nat.reduceMul, Nat.reduceLeDiff, Nat.reduceEqDiff, Nat.reduceLT, Nat.zero_le, Nat.le_refl, Nat.zero_add, e1, ew, eg, c1, Ses.av, avs_len]
      refine ⟨⟨by simp only [maxLen]; omega, by omega⟩, ?_⟩
      simp only [loopX_normal, St.trunc, St.keep, truncVs, truncV, AB.trunc, keepV, List.drop_zero, List.elem_cons, List.elem_nil, List.take_succ_cons, List.take_zero, List.map_cons, List.map_nil, List.getElem?_cons_zero, List.getElem?_cons_succ, List.length_cons, List.length_nil, Nat.reduceAdd, Nat.reduceBEq, Nat.reduceLeDiff, Nat.le_refl, Nat.zero_add, Bool.false_eq_true, ↓reduceIte]
      exact ⟨i + 1, hlt, by omega, by rw [lives_take_in hlt hl, ← avs_snoc, List.length_append]; rfl⟩
  · have hge : i = l.length := by have : ¬ ((i : Int) < (l.length : Int)) := by simpa using h
                                  omega
    subst hge
    apply hK
    simp only [Try.results42, retK, ares, Bool.and_true, Bool.true_and, AV.ofResults, St.trunc, truncVs, truncV, List.getD_cons_zero, List.getD_cons_succ, List.take_zero, List.drop_zero, List.map_nil, List.getElem?_cons_zero, Nat.le_refl, true_and, and_true, ↓reduceIte, List.cons.injEq, exists_eq_left']
    rw [List.take_length, if_pos (by rw [avs_len]; omega), List.take_of_length_le (by rw [avs_len]; exact Nat.le_refl _)]

def has (l : List Ses) (id : Int) : Bool := l.any (fun s => s.id == id)

theorem ref06_Has (l : List Ses) (id : Int) (hlen : l.length ≤ 10000) : PCall P 22 [.sl 4 (avs l), i64 id] (fun x => x = bool (has l id)) := by
  refine pcall_go tyOk Try.func22 rfl rfl ?_
  intro K hK
  simp only [Try.ntmps22, List.length_cons, List.length_nil, Nat.reduceAdd, Nat.reduceSub, List.replicate, List.cons_append, List.nil_append]
  try simp (maxSteps := 1000000) only [go_region, go_seq, go_block, go_loop, go_ops_nil, go_op, opK_none, contK_some, callOf, fstep, gpre, fpre, fstep0, St.ev, St.put, List.set, true_and, Bool.true_and]
  refine loopK_rule tyOk (α := Nat) 0 [0, 1, 5] (fun i => i ≤ l.length ∧ has (l.take i) id = false)
    (fun i => ⟨[.sl 4 (avs l), i64 id, .any, .any, .any, i64 i, .any, .any, .any, .any, .any, .any, .any, .any, .any, .any, .any, .any, .any], []⟩)
    (fun i => l.length - i) 0 (Nat.zero_le _) ⟨Nat.zero_le _, rfl⟩ rfl ?_
  intro i ⟨hi, hn⟩
  try simp (maxSteps := 1000000) only [go_region, go_seq, go_cond, go_ops_nil, go_op, opK_none, contK_some, callOf, fstep, gpre, fpre, fstep0, fbinA, fbin, fbin0, flen, T, St.ev, St.put, List.getD_cons_zero, List.getD_cons_succ, List.set, true_and, Bool.true_and, avs_len]
  (first | refine guardV_split ?_ ?_ | refine condK_split ?_ ?_ | refine drawV_split ?_ ?_ | refine condY_split ?_ ?_ | refine guardY_split ?_ ?_) <;> intro h <;> try simp (maxSteps := 1000000) only [go_skip, go_region, go_seq, go_block, go_exit, go_ret, exitK_code, exitK_blk, exitK_nil, go_ops_nil, go_op, opK_none, contK_some, condK_t, condK_f, callOf, fstep, gpre, gloadB, fpre, fpost, fstep0, fbinA, gbin, gbits, gnil, isSliceTy, isPtrTy, fbin, fbin0, fbinS, fload, fcell, ffieldAddr, findexAddr, isBoolTy, T, TI.isAgg, St.ev, St.put, AV.cells, AV.known, Value.cells, List.getD_cons_zero, List.getD_cons_succ, List.set, List.drop_zero, List.getElem?_cons_zero, List.getElem?_toArray, true_and, Bool.true_and, Bool.false_eq_true, ↓reduceIte, reduceCtorEq, ne_eq, not_false_eq_true, loopX_exit]
  · obtain ⟨hlt, eg, ew, c1⟩ := at_idx (by omega) h
    try simp (maxSteps := 1000000) only [go_cond, go_ops_nil, contK_some, St.ev, St.put, List.getD_cons_zero, List.getD_cons_succ, List.set, List.length_cons, List.length_nil, List.headD_cons, true_and, and_true, Bool.and_true, Bool.true_and, Nat.reduceAdd, Nat.reduceLT, Nat.zero_add, eg, c1, avs_len]
    have hh : has (l.take (i + 1)) id = ((l[i]).id == id) := by
      rw [take_one hlt, has, List.any_append, ← has, hn]; simp
    (first | refine guardV_split ?_ ?_ | refine condK_split ?_ ?_ | refine drawV_split ?_ ?_ | refine condY_split ?_ ?_ | refine guardY_split ?_ ?_) <;> intro h2 <;> try simp (maxSteps := 1000000) only [go_nil, go_skip, go_region, go_seq, go_blk, go_ret, go_ops_nil, go_op, opK_none, contK_some, condK_t, condK_f, callOf, fstep, gpre, fpre, fstep0, fbinA, fbin, fbin0, St.ev, St.put, List.getD_cons_zero, List.getD_cons_succ, List.set, true_and, Bool.true_and, loopX_ret, ew]
    · apply hK
      simp only [Try.results22, retK, ares, List.take_nil, Bool.and_true, Bool.true_and, AV.ofResults, St.trunc, truncVs, truncV, List.getD_cons_zero, List.getD_cons_succ, List.map_nil, true_and, and_true, List.cons.injEq, exists_eq_left']
      have : has l id = true := by
        rw [has, List.any_eq_true]
        exact ⟨l[i], List.getElem_mem _, h2⟩
      rw [this]
    · simp only [loopX_normal, St.trunc, St.keep, truncVs, truncV, keepV, List.elem_cons, List.elem_nil, List.take_zero, List.map_nil, Nat.reduceAdd, Nat.reduceBEq, Nat.zero_add, Bool.false_eq_true, ↓reduceIte]
      exact ⟨i + 1, ⟨hlt, by rw [hh, h2]⟩, by omega, rfl⟩
  · obtain rfl := at_end hi h
    apply hK
    simp only [Try.results22, retK, ares, List.take_nil, Bool.and_true, Bool.true_and, AV.ofResults, St.trunc, truncVs, truncV, List.getD_cons_zero, List.getD_cons_succ, List.map_nil, true_and, and_true, List.cons.injEq, exists_eq_left']
    rw [List.take_length] at hn
    rw [hn]

theorem ref06_Same (a b : List Ses) (ha : a.length ≤ 10000) (hb : b.length ≤ 10000) : PCall P 41 [.sl 4 (avs a), .sl 4 (avs b)] (fun x => x = bool (decide (a = b))) := by
  refine pcall_go tyOk Try.func41 rfl rfl ?_
  intro K hK
  simp only [Try.ntmps41, List.length_cons, List.length_nil, Nat.reduceAdd, Nat.reduceSub, List.replicate, List.cons_append, List.nil_append]
  try simp (maxSteps := 1000000) only [go_region, go_seq, go_cond, go_ops_nil, go_op, opK_none, contK_some, callOf, fstep, gpre, fpre, fstep0, fbinA, fbin, fbin0, flen, T, St.ev, St.put, List.getD_cons_zero, List.getD_cons_succ, List.set, true_and, Bool.true_and, avs_len]
  (first | refine guardV_split ?_ ?_ | refine condK_split ?_ ?_ | refine drawV_split ?_ ?_ | refine condY_split ?_ ?_ | refine guardY_split ?_ ?_) <;> intro h <;> try simp (maxSteps := 1000000) only [go_skip, go_region, go_seq, go_block, go_ret, go_loop, go_ops_nil, go_op, opK_none, contK_some, condK_t, condK_f, callOf, fstep, gpre, fpre, fstep0, St.ev, St.put, List.set, true_and, Bool.true_and]
  · apply hK
    simp only [Try.results41, retK, ares, List.take_nil, Bool.and_true, Bool.true_and, AV.ofResults, St.trunc, truncVs, truncV, List.getD_cons_zero, List.getD_cons_succ, List.map_nil, true_and, and_true, List.cons.injEq, exists_eq_left']
    have : decide (a = b) = false := by
      rw [decide_eq_false_iff_not]; rintro rfl; simp at h
    rw [this]
  · have hl : a.length = b.length := by simp at h; omega
    refine loopK_rule tyOk (α := Nat) 0 [0, 1, 5] (fun i => i ≤ a.length ∧ a.take i = b.take i)
      (fun i => ⟨[.sl 4 (avs a), .sl 4 (avs b), .any, .any, .any, i64 i, .any, .any, .any, .any, .any, .any, .any, .any, .any, .any, .any, .any, .any, .any, .any, .any, .any, .any, .any, .any], []⟩)
      (fun i => a.length - i) 0 (Nat.zero_le _) ⟨Nat.zero_le _, rfl⟩ rfl ?_
    intro i ⟨hi, he⟩
    try simp (maxSteps := 1000000) only [go_region, go_seq, go_cond, go_ops_nil, go_op, opK_none, contK_some, callOf, fstep, gpre, fpre, fstep0, fbinA, fbin, fbin0, flen, T, St.ev, St.put, List.getD_cons_zero, List.getD_cons_succ, List.set, true_and, Bool.true_and, avs_len]
    (first | refine guardV_split ?_ ?_ | refine condK_split ?_ ?_ | refine drawV_split ?_ ?_ | refine condY_split ?_ ?_ | refine guardY_split ?_ ?_) <;> intro h <;> try simp (maxSteps := 1000000) only [go_skip, go_region, go_seq, go_block, go_exit, go_ret, go_draws, exitK_code, exitK_blk, exitK_nil, go_ops_nil, go_op, opK_none, contK_some, condK_t, condK_f, callOf, fstep, gpre, fpre, fstep0, St.ev, St.put, List.set, true_and, Bool.true_and, ↓reduceIte, loopX_exit]
    · obtain ⟨hlt, eg, ew, c1⟩ := at_idx (by omega) h
      obtain ⟨hlt2, eg2, _, c2⟩ := at_idx (l := b) (i := i) (by omega) (by rw [← hl]; exact h)
      refine draw_rule tyOk (by rfl) (by simp only [List.length_nil, Nat.le_refl]) (by kernel_rfl) rfl ?_
      try simp (maxSteps := 1000000) only [go_cond, callOf, gloadB, dload, fstep0, fbinA, fbin, fbinS, eqVs, eqV, kOks, kOk, fload, fcell, findexAddr, T, TI.isAgg, St.ev, St.put, AV.cells, AV.known, List.getD_cons_zero, List.getD_cons_succ, List.set, List.length_cons, List.length_nil, List.take_succ_cons, List.take_zero, List.append_nil, List.replicate, true_and, and_true, Bool.and_true, Bool.true_and, Bool.and_self, Bool.false_eq_true, ↓reduceIte, decide_true, Nat.reduceAdd, Nat.le_refl, Nat.add_zero, Nat.zero_add, newCount, drawR_nil, drawR_op, drawP_none, drawQ_some, dstep, isFree, St.app, bump, isNew, eqc41, eg, eg2, c1, c2, avs_len]
      refine ⟨by kernel_rfl, ?_⟩
      try simp (maxSteps := 1000000) only [ses_beq]
      (first | refine guardV_split ?_ ?_ | refine condK_split ?_ ?_ | refine drawV_split ?_ ?_ | refine condY_split ?_ ?_ | refine guardY_split ?_ ?_) <;> intro h2
      · try simp (maxSteps := 1000000) only [go_region, go_seq, go_ret, go_ops_nil, go_op, opK_none, contK_some, condK_t, callOf, fstep, gpre, fpre, fstep0, St.ev, St.put, List.set, true_and, Bool.true_and, loopX_ret]
        apply hK
        simp only [Try.results41, retK, ares, List.take_nil, Bool.and_true, Bool.true_and, AV.ofResults, St.trunc, truncVs, truncV, List.getD_cons_zero, List.getD_cons_succ, List.map_nil, true_and, and_true, List.cons.injEq, exists_eq_left']
        have : decide (a = b) = false := by
          rw [decide_eq_false_iff_not]; rintro rfl; simp at h2
        rw [this]
      · try simp (maxSteps := 1000000) only [go_nil, go_skip, go_region, go_blk, go_ops_nil, go_op, opK_none, contK_some, condK_f, callOf, fstep, gpre, fpre, fstep0, fbinA, fbin, fbin0, St.ev, St.put, List.getD_cons_zero, List.getD_cons_succ, List.set, true_and, Bool.true_and, ew]
        simp only [loopX_normal, St.trunc, St.keep, truncVs, truncV, keepV, List.elem_cons, List.elem_nil, List.take_zero, List.map_nil, Nat.reduceAdd, Nat.reduceBEq, Nat.zero_add, Bool.false_eq_true, ↓reduceIte]
        exact ⟨i + 1, ⟨hlt, (take_take_succ hlt hlt2).2 ⟨he, by simpa using h2⟩⟩, by omega, rfl⟩
    · obtain rfl := at_end hi h
      apply hK
      simp only [Try.results41, retK, ares, List.take_nil, Bool.and_true, Bool.true_and, AV.ofResults, St.trunc, truncVs, truncV, List.getD_cons_zero, List.getD_cons_succ, List.map_nil, true_and, and_true, List.cons.injEq, exists_eq_left']
      rw [List.take_length, hl, List.take_length] at he
      rw [decide_eq_true he]
def clear (l : List Ses) (id : Int) : List Ses := l.filter (fun s => s.id != id)
theorem clear_skip {id : Int} {l : List Ses} {i : Nat} (h : i < l.length) (hl : ((l[i]).id != id) = false) : clear (l.take (i + 1)) id = clear (l.take i) id := by
  rw [take_one h, clear, List.filter_append, clear]; simp only [List.filter_cons, hl, List.filter_nil, List.append_nil, Bool.false_eq_true, if_false]
theorem clear_in {id : Int} {l : List Ses} {i : Nat} (h : i < l.length) (hl : ((l[i]).id != id) = true) : clear (l.take (i + 1)) id = clear (l.take i) id ++ [l[i]] := by
  rw [take_one h, clear, List.filter_append, clear]; simp only [List.filter_cons, hl, List.filter_nil, if_true]

theorem ref06_Clear (l : List Ses) (id : Int) (hlen : l.length ≤ 10000) : PCall P 43 [.sl 4 (avs l), i64 id] (fun x => x = .sl 4 (avs (clear l id))) := by
  refine pcall_go tyOk Try.func43 rfl rfl ?_
  intro K hK
  simp only [Try.ntmps43, List.length_cons, List.length_nil, Nat.reduceAdd, Nat.reduceSub, List.replicate, List.cons_append, List.nil_append]
  try simp (maxSteps := 1000000) only [go_region, go_seq, go_block, go_loop, go_ops_nil, go_op, opK_none, contK_some, callOf, fstep, gpre, fpre, fstep0, St.ev, St.put, List.set, true_and, Bool.true_and]
  refine loopK_turn (Turns.adopt (i := 5) 41 4 rfl) ?_
  refine loopK_rule tyOk (α := Nat) 1 [0, 1, 5, 6] (fun i => i ≤ l.length)
    (fun i => ⟨[.sl 4 (avs l), i64 id, .any, .any, .any, .own 0 4 0 (clear (l.take i) id).length, i64 i, .any, .any, .any, .any, .any, .any, .any, .any, .any, .any, .any, .any, .any, .any, .any, .any, .any, .any, .any, .any, .any], [.row 41 4 (avs (clear (l.take i) id))]⟩)
    (fun i => l.length - i) 0 (Nat.zero_le _) (Nat.zero_le _) rfl ?_
  intro i hi
  try simp (maxSteps := 1000000) only [go_region, go_seq, go_cond, go_ops_nil, go_op, opK_none, contK_some, callOf, fstep, gpre, fpre, fstep0, fbinA, fbin, fbin0, flen, T, St.ev, St.put, List.getD_cons_zero, List.getD_cons_succ, List.set, true_and, Bool.true_and, avs_len]
  (first | refine guardV_split ?_ ?_ | refine condK_split ?_ ?_ | refine drawV_split ?_ ?_ | refine condY_split ?_ ?_ | refine guardY_split ?_ ?_) <;> intro h <;> try simp (maxSteps := 1000000) only [go_skip, go_region, go_seq, go_block, go_exit, go_ret, exitK_code, exitK_blk, exitK_nil, go_ops_nil, go_op, opK_none, contK_some, condK_t, condK_f, callOf, fstep, gpre, gloadB, fpre, fpost, fstep0, fbinA, gbin, gbits, gnil, isSliceTy, isPtrTy, fbin, fbin0, fbinS, fload, fcell, ffieldAddr, findexAddr, isBoolTy, T, TI.isAgg, St.ev, St.put, AV.cells, AV.known, Value.cells, List.getD_cons_zero, List.getD_cons_succ, List.set, List.drop_zero, List.getElem?_cons_zero, List.getElem?_toArray, true_and, Bool.true_and, Bool.false_eq_true, ↓reduceIte, reduceCtorEq, ne_eq, not_false_eq_true, loopX_exit]
  · obtain ⟨hlt, eg, ew, c1⟩ := at_idx (by omega) h
    have hf : (clear (l.take i) id).length ≤ 10000 := Nat.le_trans (List.length_filter_le _ _) (by rw [List.length_take]; omega)
    try simp (maxSteps := 1000000) only [go_cond, go_ops_nil, contK_some, St.ev, St.put, List.getD_cons_zero, List.getD_cons_succ, List.set, List.length_cons, List.length_nil, List.headD_cons, true_and, and_true, Bool.and_true, Bool.true_and, Nat.reduceAdd, Nat.reduceLT, Nat.zero_add, eg, c1, avs_len]
    (first | refine guardV_split ?_ ?_ | refine condK_split ?_ ?_ | refine drawV_split ?_ ?_ | refine condY_split ?_ ?_ | refine guardY_split ?_ ?_) <;> intro h2
    · try simp (maxSteps := 1000000) only [go_nil, go_region, go_blk, go_ops_nil, go_op, opK_none, contK_some, condK_t, callOf, fstep, gpre, gbuildB, gparts, hasBks, bkTop, gloadB, fpre, fstep0, fbinA, fbin, fbin0, fload, fcell, findexAddr, evParts, evOwners, fbuildSlice, felems, fappend, T, TI.isAgg, TI.zeroOk, TI.zav, setParts, partsOk, St.ev, St.put, St.shutAll, St.rehome, killV, killVs, AB.kill, AV.cells, AV.known, AV.flat, AV.pure, pureAll, AV.owners, ownersAll, Value.oneCell', List.getD_cons_zero, List.getD_cons_succ, List.set, List.map_cons, List.map_nil, List.length_cons, List.length_nil, List.all_cons, List.all_nil, List.drop_zero, List.take_succ_cons, List.take_zero, List.cons_append, List.nil_append, List.append_nil, List.getElem?_cons_zero, List.getElem?_cons_succ, List.replicate, true_and, and_true, Bool.and_true, Bool.true_and, Bool.and_self, Bool.or_false, Bool.false_eq_true, ↓reduceIte, decide_true, decide_false, reduceCtorEq, Nat.reduceAdd, Nat.reduceMul, Nat.reduceLeDiff, Nat.reduceEqDiff, Nat.reduceLT, Nat.zero_le, Nat.le_refl, Nat.zero_add, ew, eg, c1, avs_len]
      refine ⟨⟨by simp only [maxLen]; omega, by omega⟩, ?_⟩
      simp only [loopX_normal, St.trunc, St.keep, truncVs, truncV, AB.trunc, keepV, List.drop_zero, List.elem_cons, List.elem_nil, List.take_succ_cons, List.take_zero, List.map_cons, List.map_nil, List.getElem?_cons_zero, List.getElem?_cons_succ, List.length_cons, List.length_nil, Nat.reduceAdd, Nat.reduceBEq, Nat.reduceLeDiff, Nat.le_refl, Nat.zero_add, Bool.false_eq_true, ↓reduceIte]
      exact ⟨i + 1, hlt, by omega, by rw [clear_in hlt h2, ← avs_snoc, List.length_append]; rfl⟩
    · try simp (maxSteps := 1000000) only [go_nil, go_skip, go_region, go_blk, go_ops_nil, go_op, opK_none, contK_some, condK_f, callOf, fstep, gpre, fpre, fstep0, fbinA, fbin, fbin0, St.ev, St.put, List.getD_cons_zero, List.getD_cons_succ, List.set, true_and, Bool.true_and, ew]
      simp only [loopX_normal, St.trunc, St.keep, truncVs, truncV, AB.trunc, keepV, List.elem_cons, List.elem_nil, List.take_succ_cons, List.take_zero, List.map_cons, List.map_nil, Nat.reduceAdd, Nat.reduceBEq, Nat.reduceLeDiff, Nat.zero_add, Bool.false_eq_true, ↓reduceIte]
      exact ⟨i + 1, hlt, by omega, by rw [clear_skip hlt h2]⟩
  · obtain rfl := at_end hi h
    apply hK
    simp only [Try.results43, retK, ares, Bool.and_true, Bool.true_and, AV.ofResults, St.trunc, truncVs, truncV, List.getD_cons_zero, List.getD_cons_succ, List.take_zero, List.drop_zero, List.map_nil, List.getElem?_cons_zero, Nat.le_refl, true_and, and_true, ↓reduceIte, List.cons.injEq, exists_eq_left']
    rw [List.take_length, if_pos (by rw [avs_len]; omega), List.take_of_length_le (by rw [avs_len]; exact Nat.le_refl _)]

/-- With one put where it belongs. -/
def insStep (s : Ses) (o : List Ses × Bool) (r : Ses) : List Ses × Bool := if !o.2 && decide (s.id < r.id) then (o.1 ++ [s] ++ [r], true) else (o.1 ++ [r], o.2)
def insF (s : Ses) (l : List Ses) : List Ses × Bool := l.foldl (insStep s) ([], false)
def ins (s : Ses) (l : List Ses) : List Ses := if (insF s l).2 then (insF s l).1 else (insF s l).1 ++ [s]
theorem insF_next {s : Ses} {l : List Ses} {i : Nat} (h : i < l.length) : insF s (l.take (i + 1)) = insStep s (insF s (l.take i)) l[i] := by
  rw [take_one h, insF, List.foldl_append]; rfl
theorem insF_len (s : Ses) (l : List Ses) : (insF s l).1.length ≤ l.length + 1 ∧ ((insF s l).2 = false → (insF s l).1.length = l.length) := by
  suffices H : ∀ (l : List Ses) (o : List Ses × Bool), (l.foldl (insStep s) o).1.length + (if o.2 then 1 else 0) ≤ o.1.length + l.length + 1 ∧ ((l.foldl (insStep s) o).2 = false → o.2 = false ∧ (l.foldl (insStep s) o).1.length = o.1.length + l.length) by
    have := H l ([], false)
    exact ⟨by simpa [insF] using this.1, fun h => by simpa [insF] using (this.2 h).2⟩
  intro l
  induction l with
  | nil => intro o; simp; split <;> omega
  | cons r l ih =>
    intro o
    have h := ih (insStep s o r)
    simp only [List.foldl_cons, List.length_cons]
    by_cases c : (!o.2 && decide (s.id < r.id)) = true
    · have e : insStep s o r = (o.1 ++ [s] ++ [r], true) := by rw [insStep, if_pos c]
      have ho : o.2 = false := by simp at c; exact c.1
      rw [e] at h ⊢
      simp only [List.length_append, List.length_singleton, if_true] at h
      refine ⟨by rw [ho]; simp only [Bool.false_eq_true, if_false]; omega, fun hh => ?_⟩
      have := (h.2 hh).1
      cases this
    · have e : insStep s o r = (o.1 ++ [r], o.2) := by rw [insStep, if_neg c]
      rw [e] at h ⊢
      simp only [List.length_append, List.length_singleton] at h
      exact ⟨by omega, fun hh => ⟨(h.2 hh).1, by have := (h.2 hh).2; omega⟩⟩

def setF (l : List Ses) (s : Ses) (most : Int) : List Ses × Int := if !has l s.id && decide (most ≤ l.length) then (l, 2) else (ins s (clear l s.id), 0)

theorem ref06_Set (l : List Ses) (s : Ses) (most : Int) (hlen : l.length ≤ 9000) :
    PCall P 39 [.sl 4 (avs l), s.av, i64 most] (fun x => x = .tup [.sl 4 (avs (setF l s most).1), i64 (setF l s most).2]) := by
  refine pcall_go tyOk Try.func39 rfl rfl ?_
  intro K hK
  simp only [Try.ntmps39, List.length_cons, List.length_nil, Nat.reduceAdd, Nat.reduceSub, List.replicate, List.cons_append, List.nil_append]
  try simp (maxSteps := 1000000) only [go_region, go_seq, go_ops_nil, go_op, opK_none, opK_some, contK_some, callOf, callK_eq, callJ_nil, callD_fn, fstep, gpre, gloadB, fpre, fstep0, fload, fcell, ffieldAddr, evs, T, TI.isAgg, St.ev, St.put, AV.cells, AV.known, AV.owners, ownersAll, List.getD_cons_zero, List.getD_cons_succ, List.set, List.length_cons, List.length_nil, List.drop_zero, List.headD_cons, List.nil_append, List.append_nil, List.getElem?_cons_zero, List.getElem?_toArray, true_and, Bool.true_and, Bool.false_eq_true, ↓reduceIte, reduceCtorEq, ne_eq, not_false_eq_true, Nat.reduceAdd, Nat.reduceLT, Nat.add_zero, Nat.zero_add, Ses.av]
  (refine callG_use (ref06_Has l s.id (by omega)) rfl ?_; rintro _ rfl)
  try simp (maxSteps := 1000000) only [go_op, go_guard, opK_none, contK_some, guardK_eq, callOf, fstep, gpre, fpre, fstep0, funary, St.ev, St.put, List.getD_cons_zero, List.getD_cons_succ, List.set, List.getElem?_cons_zero, List.getElem?_cons_succ, Option.bind_some, List.getElem?_toArray, true_and, Bool.true_and]
  (first | refine guardV_split ?_ ?_ | refine condK_split ?_ ?_ | refine drawV_split ?_ ?_ | refine condY_split ?_ ?_ | refine guardY_split ?_ ?_) <;> intro h1
  · try simp (maxSteps := 1000000) only [go_cond, go_ops_nil, go_op, go_guard, opK_none, contK_some, guardK_eq, guardV_tt, callOf, fstep, gpre, fpre, fstep0, fbinA, fbin, fbin0, flen, fpick, T, St.ev, St.put, List.getD_cons_zero, List.getD_cons_succ, List.set, List.getElem?_cons_zero, List.getElem?_cons_succ, Option.bind_some, List.getElem?_toArray, true_and, Bool.true_and, cond_true, avs_len]
    (first | refine guardV_split ?_ ?_ | refine condK_split ?_ ?_ | refine drawV_split ?_ ?_ | refine condY_split ?_ ?_ | refine guardY_split ?_ ?_) <;> intro h2
    · try simp (maxSteps := 1000000) only [go_region, go_seq, go_ret, go_ops_nil, go_op, opK_none, contK_some, condK_t, callOf, fstep, gpre, fpre, fstep0, St.ev, St.put, List.getD_cons_zero, List.getD_cons_succ, List.set, true_and, Bool.true_and]
      apply hK
      simp only [Try.results39, retK, ares, Bool.and_true, Bool.true_and, AV.ofResults, St.trunc, truncVs, truncV, List.getD_cons_zero, List.getD_cons_succ, List.take_zero, List.map_nil, true_and, and_true, List.cons.injEq, exists_eq_left']
      rw [setF, if_pos (by rw [h1, h2]; rfl)]
    · have he : setF l s most = (ins s (clear l s.id), 0) := by rw [setF, if_neg (by rw [h1, h2]; simp)]
      try simp (maxSteps := 1000000) only [go_skip, go_region, go_seq, go_ops_nil, go_op, opK_none, opK_some, contK_some, condK_f, callOf, callK_eq, callJ_nil, callD_fn, fstep, gpre, gloadB, fpre, fstep0, fload, fcell, ffieldAddr, evs, T, TI.isAgg, St.ev, St.put, AV.owners, ownersAll, List.getD_cons_zero, List.getD_cons_succ, List.set, List.length_cons, List.length_nil, List.drop_zero, List.headD_cons, List.append_nil, List.getElem?_cons_zero, List.getElem?_toArray, true_and, Bool.true_and, Bool.false_eq_true, ↓reduceIte, reduceCtorEq, ne_eq, not_false_eq_true, Nat.reduceAdd, Nat.reduceLT, Nat.add_zero, Nat.zero_add]
      rw [he] at hK
      have hR : (clear l s.id).length ≤ 9000 := Nat.le_trans (List.length_filter_le _ _) hlen
      (refine callG_use (ref06_Clear l s.id (by omega)) rfl ?_; rintro _ rfl)
      try simp (maxSteps := 1000000) only [go_region, go_seq, go_block, go_loop, go_ops_nil, go_op, opK_none, contK_some, callOf, fstep, gpre, fpre, fstep0, St.ev, St.put, List.getD_cons_zero, List.getD_cons_succ, List.set, true_and, Bool.true_and]
      generalize clear l s.id = R at hR hK
      refine loopK_turn (Turns.adopt (i := 8) 41 4 rfl) ?_
      refine loopK_rule tyOk (α := Nat) 2 [4, 8, 9, 10, 11] (fun i => i ≤ R.length)
        (fun i => ⟨[.any, .any, .any, .any, .ptr 0 0, .any, .any, .any, .own 1 4 0 (insF s (R.take i)).1.length, bool (insF s (R.take i)).2, .sl 4 (avs R), i64 i, .any, .any, .any, .any, .any, .any, .any, .any, .any, .any, .any, .any, .any, .any, .any, .any, .any, .any, .any, .any, .any, .any, .any, .any, .any, .any, .any, .any, .any, .any, .any, .any, .any, .any, .any, .any, .any, .any, .any, .any, .any, .any, .any, .any, .any, .any, .any, .any, .any, .any, .any, .any], [.box [i64 s.id, i64 s.st, i64 s.pr, u64 s.un], .row 41 4 (avs (insF s (R.take i)).1)]⟩)
        (fun i => R.length - i) 0 (Nat.zero_le _) (Nat.zero_le _) rfl ?_
      intro i hi
      try simp (maxSteps := 1000000) only [go_region, go_seq, go_cond, go_ops_nil, go_op, opK_none, contK_some, callOf, fstep, gpre, fpre, fstep0, fbinA, fbin, fbin0, flen, T, St.ev, St.put, List.getD_cons_zero, List.getD_cons_succ, List.set, true_and, Bool.true_and, avs_len]
      (first | refine guardV_split ?_ ?_ | refine condK_split ?_ ?_ | refine drawV_split ?_ ?_ | refine condY_split ?_ ?_ | refine guardY_split ?_ ?_) <;> intro h <;> try simp (maxSteps := 1000000) only [go_skip, go_region, go_seq, go_cond, go_block, go_exit, go_draws, exitK_code, exitK_blk, exitK_nil, go_ops_nil, go_op, opK_none, contK_some, condK_t, condK_f, callOf, fstep, gpre, fpre, fstep0, funary, St.ev, St.put, List.getD_cons_zero, List.getD_cons_succ, List.set, true_and, Bool.true_and, ↓reduceIte, loopX_exit]
      · obtain ⟨hlt, eg, ew, c1⟩ := at_idx (by omega) h
        have hb := insF_next (s := s) hlt
        have hl := (insF_len s (R.take i)).1
        rw [List.length_take] at hl
        generalize insF s (R.take i) = o at hb hl
        obtain ⟨o1, o2⟩ := o
        simp only at hl
        refine draw_rule tyOk (by rfl) (by simp only [List.length_cons, List.length_nil, Nat.reduceAdd, Nat.zero_le]) (by kernel_rfl) rfl ?_
        try simp (maxSteps := 1000000) only [callOf, fstep0, funary, St.ev, St.put, List.getD_cons_zero, List.getD_cons_succ, List.set, List.length_cons, List.length_nil, List.append_nil, List.getElem?_cons_zero, List.getElem?_cons_succ, List.replicate, Option.bind_some, List.getElem?_toArray, true_and, Bool.true_and, Bool.false_eq_true, ↓reduceIte, Nat.reduceAdd, Nat.add_zero, Nat.zero_add, newCount, drawR_op, drawR_guard, drawW_some, drawP_none, drawQ_some, dstep, isFree, St.app, bump, isNew]
        cases o2 with
        | true =>
          try simp (maxSteps := 1000000) only [go_skip, go_region, go_cond, go_op, opK_none, contK_some, condK_f, undef, callOf, fstep, gpre, gbuildB, gparts, hasBks, bkTop, gloadB, fpre, fpost, fstep0, gappend, gapp, gelems, putSeg, fload, fcell, findexAddr, evParts, evOwners, fbuildSlice, felems, fappend, fpick, T, TI.isAgg, TI.zeroOk, TI.zav, setParts, partsOk, St.ev, St.put, St.rehome, AV.cells, AV.known, AV.owners, Value.cells, Value.oneCell', List.getD_cons_zero, List.getD_cons_succ, List.set, List.map_cons, List.map_nil, List.length_cons, List.length_nil, List.all_cons, List.all_nil, List.append_nil, List.getElem?_cons_zero, List.getElem?_cons_succ, List.replicate, Option.bind_some, List.getElem?_toArray, true_and, and_true, Bool.and_true, Bool.true_and, Bool.and_self, Bool.or_false, Bool.not_true, Bool.false_eq_true, ↓reduceIte, decide_true, decide_false, Nat.reduceAdd, Nat.reduceMul, Nat.reduceLeDiff, Nat.reduceEqDiff, Nat.reduceLT, Nat.zero_le, Nat.zero_add, drawR_nil, drawR_op, drawR_guard, drawW_some, drawV_ft, drawP_none, drawQ_some, dstep, isFree, St.app, bump, isNew, List.length_append]
          refine ⟨by kernel_rfl, ?_⟩
          try simp (maxSteps := 1000000) only [go_nil, go_region, go_blk, go_ops_nil, go_op, opK_none, contK_some, callOf, fstep, gpre, fpre, fstep0, fbinA, fbin, fbin0, St.ev, St.put, St.shutAll, killV, killVs, AB.kill, AV.flat, AV.pure, pureAll, AV.owners, ownersAll, Value.oneCell', List.getD_cons_zero, List.getD_cons_succ, List.set, List.map_cons, List.map_nil, List.length_cons, List.length_nil, List.all_cons, List.all_nil, List.drop_zero, List.take_succ_cons, List.take_zero, List.cons_append, List.nil_append, List.append_nil, List.getElem?_cons_zero, List.getElem?_cons_succ, true_and, and_true, Bool.and_true, Bool.true_and, Bool.and_self, ↓reduceIte, reduceCtorEq, Nat.reduceAdd, Nat.reduceEqDiff, Nat.le_refl, Nat.zero_add, eg, c1, avs_len, ew]
          refine ⟨⟨by simp only [maxLen]; omega, by omega⟩, ?_⟩
          simp only [loopX_normal, St.trunc, St.keep, truncVs, truncV, AB.trunc, keepV, List.drop_zero, List.elem_cons, List.elem_nil, List.take_succ_cons, List.take_zero, List.map_cons, List.map_nil, List.getElem?_cons_zero, List.getElem?_cons_succ, List.length_cons, List.length_nil, Nat.reduceAdd, Nat.reduceBEq, Nat.reduceLeDiff, Nat.le_refl, Nat.zero_add, Bool.false_eq_true, ↓reduceIte]
          exact ⟨i + 1, hlt, by omega, by rw [hb, insStep, if_neg (by simp)]; simp only; rw [← avs_snoc, List.length_append]; rfl⟩
        | false =>
          try simp (maxSteps := 1000000) only [go_cond, callOf, gloadB, dload, fstep0, fbinA, fbin, fbin0, fload, fcell, ffieldAddr, findexAddr, fpick, T, TI.isAgg, St.ev, St.put, AV.cells, AV.known, List.getD_cons_zero, List.getD_cons_succ, List.set, List.length_cons, List.length_nil, List.drop_zero, List.headD_cons, List.getElem?_cons_zero, List.getElem?_cons_succ, Option.bind_some, List.getElem?_toArray, true_and, and_true, Bool.and_true, Bool.true_and, Bool.not_false, Bool.false_eq_true, ↓reduceIte, reduceCtorEq, ne_eq, not_false_eq_true, Nat.reduceAdd, Nat.reduceLT, Nat.add_zero, Nat.zero_add, cond_true, drawR_nil, drawR_op, drawR_guard, drawW_some, drawV_tt, drawP_none, drawQ_some, dstep, isFree, St.app, bump, isNew, eg, c1, avs_len]
          refine ⟨by kernel_rfl, ?_⟩
          (first | refine guardV_split ?_ ?_ | refine condK_split ?_ ?_ | refine drawV_split ?_ ?_ | refine condY_split ?_ ?_ | refine guardY_split ?_ ?_) <;> intro h3
          · try simp (maxSteps := 1000000) only [go_nil, go_region, go_seq, go_blk, go_ops_nil, go_op, opK_none, contK_some, condK_t, callOf, fstep, gpre, gbuildB, gparts, hasBks, bkTop, gloadB, fpre, fstep0, fbinA, fbin, fbin0, fload, fcell, findexAddr, evParts, evOwners, fbuildSlice, felems, fappend, T, TI.isAgg, TI.zeroOk, TI.zav, setParts, partsOk, St.ev, St.put, St.shutAll, St.rehome, killV, killVs, AB.kill, AV.cells, AV.known, AV.flat, AV.pure, pureAll, AV.owners, ownersAll, Value.oneCell', List.getD_cons_zero, List.getD_cons_succ, List.set, List.map_cons, List.map_nil, List.length_cons, List.length_nil, List.all_cons, List.all_nil, List.drop_zero, List.take_succ_cons, List.take_zero, List.cons_append, List.nil_append, List.append_nil, List.getElem?_cons_zero, List.getElem?_cons_succ, List.replicate, true_and, and_true, Bool.and_true, Bool.true_and, Bool.and_self, Bool.or_false, Bool.false_eq_true, ↓reduceIte, decide_true, decide_false, reduceCtorEq, Nat.reduceAdd, Nat.reduceMul, Nat.reduceLeDiff, Nat.reduceEqDiff, Nat.reduceLT, Nat.zero_le, Nat.le_refl, Nat.zero_add, List.length_append, eg, c1, avs_len, ew]
            refine ⟨⟨by simp only [maxLen]; omega, by omega⟩, ⟨by simp only [maxLen]; omega, by omega⟩, ?_⟩
            simp only [loopX_normal, St.trunc, St.keep, truncVs, truncV, AB.trunc, keepV, List.drop_zero, List.elem_cons, List.elem_nil, List.take_succ_cons, List.take_zero, List.map_cons, List.map_nil, List.getElem?_cons_zero, List.getElem?_cons_succ, List.length_cons, List.length_nil, Nat.reduceAdd, Nat.reduceBEq, Nat.reduceLeDiff, Nat.le_refl, Nat.zero_add, Bool.false_eq_true, ↓reduceIte]
            exact ⟨i + 1, hlt, by omega, by rw [hb, insStep, if_pos (by rw [h3]; simp)]; simp only; rw [← avs_snoc, ← avs_snoc, List.length_append, List.length_append]; rfl⟩
          · try simp (maxSteps := 1000000) only [go_nil, go_skip, go_region, go_blk, go_ops_nil, go_op, opK_none, contK_some, condK_f, callOf, fstep, gpre, gbuildB, gparts, hasBks, bkTop, gloadB, fpre, fstep0, fbinA, fbin, fbin0, fload, fcell, findexAddr, evParts, evOwners, fbuildSlice, felems, fappend, T, TI.isAgg, TI.zeroOk, TI.zav, setParts, partsOk, St.ev, St.put, St.shutAll, St.rehome, killV, killVs, AB.kill, AV.cells, AV.known, AV.flat, AV.pure, pureAll, AV.owners, ownersAll, Value.oneCell', List.getD_cons_zero, List.getD_cons_succ, List.set, List.map_cons, List.map_nil, List.length_cons, List.length_nil, List.all_cons, List.all_nil, List.drop_zero, List.take_succ_cons, List.take_zero, List.cons_append, List.nil_append, List.append_nil, List.getElem?_cons_zero, List.getElem?_cons_succ, List.replicate, true_and, and_true, Bool.and_true, Bool.true_and, Bool.and_self, Bool.or_false, Bool.false_eq_true, ↓reduceIte, decide_true, decide_false, reduceCtorEq, Nat.reduceAdd, Nat.reduceMul, Nat.reduceLeDiff, Nat.reduceEqDiff, Nat.reduceLT, Nat.zero_le, Nat.le_refl, Nat.zero_add, eg, c1, avs_len, ew]
            refine ⟨⟨by simp only [maxLen]; omega, by omega⟩, ?_⟩
            simp only [loopX_normal, St.trunc, St.keep, truncVs, truncV, AB.trunc, keepV, List.drop_zero, List.elem_cons, List.elem_nil, List.take_succ_cons, List.take_zero, List.map_cons, List.map_nil, List.getElem?_cons_zero, List.getElem?_cons_succ, List.length_cons, List.length_nil, Nat.reduceAdd, Nat.reduceBEq, Nat.reduceLeDiff, Nat.le_refl, Nat.zero_add, Bool.false_eq_true, ↓reduceIte]
            exact ⟨i + 1, hlt, by omega, by rw [hb, insStep, if_neg (by rw [h3]; simp)]; simp only; rw [← avs_snoc, List.length_append]; rfl⟩
      · obtain rfl := at_end hi h
        rw [List.take_length]
        have hl := (insF_len s R).1
        (first | refine guardV_split ?_ ?_ | refine condK_split ?_ ?_ | refine drawV_split ?_ ?_ | refine condY_split ?_ ?_ | refine guardY_split ?_ ?_) <;> intro h3
        · try simp (maxSteps := 1000000) only [go_region, go_seq, go_ret, go_ops_nil, go_op, opK_none, contK_some, condK_t, callOf, fstep, gpre, gbuildB, gparts, hasBks, bkTop, gloadB, fpre, fstep0, fload, fcell, evParts, evOwners, fbuildSlice, felems, fappend, T, TI.isAgg, TI.zeroOk, TI.zav, setParts, partsOk, St.ev, St.put, St.shutAll, St.rehome, killV, killVs, AB.kill, AV.cells, AV.known, AV.flat, AV.pure, pureAll, AV.owners, ownersAll, Value.oneCell', List.getD_cons_zero, List.getD_cons_succ, List.set, List.map_cons, List.map_nil, List.length_cons, List.length_nil, List.all_cons, List.all_nil, List.drop_zero, List.take_succ_cons, List.take_zero, List.cons_append, List.nil_append, List.append_nil, List.getElem?_cons_zero, List.getElem?_cons_succ, List.replicate, true_and, and_true, Bool.and_true, Bool.true_and, Bool.and_self, Bool.or_false, Bool.false_eq_true, ↓reduceIte, decide_true, decide_false, reduceCtorEq, Nat.reduceAdd, Nat.reduceMul, Nat.reduceLeDiff, Nat.reduceEqDiff, Nat.reduceLT, Nat.zero_le, Nat.le_refl, Nat.zero_add, avs_len]
          refine ⟨⟨by simp only [maxLen]; omega, by omega⟩, ?_⟩
          apply hK
          simp only [Try.results39, retK, ares, Bool.and_true, Bool.true_and, AV.ofResults, St.trunc, truncVs, truncV, List.getD_cons_zero, List.getD_cons_succ, List.take_zero, List.drop_zero, List.map_nil, List.getElem?_cons_zero, List.getElem?_cons_succ, Nat.reduceLeDiff, true_and, and_true, ↓reduceIte, List.cons.injEq, exists_eq_left']
          rw [sl_full (by rw [List.length_append, avs_len]; rfl), ins, if_neg (by simpa using h3), ← avs_snoc]; rfl
        · try simp (maxSteps := 1000000) only [go_skip, go_region, go_seq, go_ret, go_ops_nil, go_op, opK_none, contK_some, condK_f, callOf, fstep, gpre, fpre, fstep0, St.ev, St.put, List.getD_cons_zero, List.getD_cons_succ, List.set, true_and, Bool.true_and]
          apply hK
          simp only [Try.results39, retK, ares, Bool.and_true, Bool.true_and, AV.ofResults, St.trunc, truncVs, truncV, List.getD_cons_zero, List.getD_cons_succ, List.take_zero, List.drop_zero, List.map_nil, List.getElem?_cons_zero, List.getElem?_cons_succ, Nat.reduceLeDiff, true_and, and_true, ↓reduceIte, List.cons.injEq, exists_eq_left']
          rw [sl_full (avs_len _), ins, if_pos (by simpa using h3)]
  · have he : setF l s most = (ins s (clear l s.id), 0) := by rw [setF, if_neg (by rw [h1]; simp)]
    try simp (maxSteps := 1000000) only [go_skip, go_region, go_seq, go_cond, go_ops_nil, go_op, go_guard, opK_none, opK_some, contK_some, condK_f, guardK_eq, guardV_ft, undef, callOf, callK_eq, callJ_nil, callD_fn, fstep, gpre, gloadB, fpre, fstep0, fload, fcell, ffieldAddr, evs, fpick, T, TI.isAgg, St.ev, St.put, AV.owners, ownersAll, List.getD_cons_zero, List.getD_cons_succ, List.set, List.length_cons, List.length_nil, List.drop_zero, List.headD_cons, List.append_nil, List.getElem?_cons_zero, List.getElem?_cons_succ, Option.bind_some, List.getElem?_toArray, true_and, Bool.true_and, Bool.false_eq_true, ↓reduceIte, reduceCtorEq, ne_eq, not_false_eq_true, Nat.reduceAdd, Nat.reduceLT, Nat.add_zero, Nat.zero_add]
    rw [he] at hK
    have hR : (clear l s.id).length ≤ 9000 := Nat.le_trans (List.length_filter_le _ _) hlen
    (refine callG_use (ref06_Clear l s.id (by omega)) rfl ?_; rintro _ rfl)
    try simp (maxSteps := 1000000) only [go_region, go_seq, go_block, go_loop, go_ops_nil, go_op, opK_none, contK_some, callOf, fstep, gpre, fpre, fstep0, St.ev, St.put, List.getD_cons_zero, List.getD_cons_succ, List.set, true_and, Bool.true_and]
    generalize clear l s.id = R at hR hK
    refine loopK_turn (Turns.adopt (i := 8) 41 4 rfl) ?_
    refine loopK_rule tyOk (α := Nat) 2 [4, 8, 9, 10, 11] (fun i => i ≤ R.length)
      (fun i => ⟨[.any, .any, .any, .any, .ptr 0 0, .any, .any, .any, .own 1 4 0 (insF s (R.take i)).1.length, bool (insF s (R.take i)).2, .sl 4 (avs R), i64 i, .any, .any, .any, .any, .any, .any, .any, .any, .any, .any, .any, .any, .any, .any, .any, .any, .any, .any, .any, .any, .any, .any, .any, .any, .any, .any, .any, .any, .any, .any, .any, .any, .any, .any, .any, .any, .any, .any, .any, .any, .any, .any, .any, .any, .any, .any, .any, .any, .any, .any, .any, .any], [.box [i64 s.id, i64 s.st, i64 s.pr, u64 s.un], .row 41 4 (avs (insF s (R.take i)).1)]⟩)
      (fun i => R.length - i) 0 (Nat.zero_le _) (Nat.zero_le _) rfl ?_
    intro i hi
    try simp (maxSteps := 1000000) only [go_region, go_seq, go_cond, go_ops_nil, go_op, opK_none, contK_some, callOf, fstep, gpre, fpre, fstep0, fbinA, fbin, fbin0, flen, T, St.ev, St.put, List.getD_cons_zero, List.getD_cons_succ, List.set, true_and, Bool.true_and, avs_len]
    (first | refine guardV_split ?_ ?_ | refine condK_split ?_ ?_ | refine drawV_split ?_ ?_ | refine condY_split ?_ ?_ | refine guardY_split ?_ ?_) <;> intro h <;> try simp (maxSteps := 1000000) only [go_skip, go_region, go_seq, go_cond, go_block, go_exit, go_draws, exitK_code, exitK_blk, exitK_nil, go_ops_nil, go_op, opK_none, contK_some, condK_t, condK_f, callOf, fstep, gpre, fpre, fstep0, funary, St.ev, St.put, List.getD_cons_zero, List.getD_cons_succ, List.set, true_and, Bool.true_and, ↓reduceIte, loopX_exit]
    · obtain ⟨hlt, eg, ew, c1⟩ := at_idx (by omega) h
      have hb := insF_next (s := s) hlt
      have hl := (insF_len s (R.take i)).1
      rw [List.length_take] at hl
      generalize insF s (R.take i) = o at hb hl
      obtain ⟨o1, o2⟩ := o
      simp only at hl
      refine draw_rule tyOk (by rfl) (by simp only [List.length_cons, List.length_nil, Nat.reduceAdd, Nat.zero_le]) (by kernel_rfl) rfl ?_
      try simp (maxSteps := 1000000) only [callOf, fstep0, funary, St.ev, St.put, List.getD_cons_zero, List.getD_cons_succ, List.set, List.length_cons, List.length_nil, List.append_nil, List.getElem?_cons_zero, List.getElem?_cons_succ, List.replicate, Option.bind_some, List.getElem?_toArray, true_and, Bool.true_and, Bool.false_eq_true, ↓reduceIte, Nat.reduceAdd, Nat.add_zero, Nat.zero_add, newCount, drawR_op, drawR_guard, drawW_some, drawP_none, drawQ_some, dstep, isFree, St.app, bump, isNew]
      cases o2 with
      | true =>
        try simp (maxSteps := 1000000) only [go_skip, go_region, go_cond, go_op, opK_none, contK_some, condK_f, undef, callOf, fstep, gpre, gbuildB, gparts, hasBks, bkTop, gloadB, fpre, fpost, fstep0, gappend, gapp, gelems, putSeg, fload, fcell, findexAddr, evParts, evOwners, fbuildSlice, felems, fappend, fpick, T, TI.isAgg, TI.zeroOk, TI.zav, setParts, partsOk, St.ev, St.put, St.rehome, AV.cells, AV.known, AV.owners, Value.cells, Value.oneCell', List.getD_cons_zero, List.getD_cons_succ, List.set, List.map_cons, List.map_nil, List.length_cons, List.length_nil, List.all_cons, List.all_nil, List.append_nil, List.getElem?_cons_zero, List.getElem?_cons_succ, List.replicate, Option.bind_some, List.getElem?_toArray, true_and, and_true, Bool.and_true, Bool.true_and, Bool.and_self, Bool.or_false, Bool.not_true, Bool.false_eq_true, ↓reduceIte, decide_true, decide_false, Nat.reduceAdd, Nat.reduceMul, Nat.reduceLeDiff, Nat.reduceEqDiff, Nat.reduceLT, Nat.zero_le, Nat.zero_add, drawR_nil, drawR_op, drawR_guard, drawW_some, drawV_ft, drawP_none, drawQ_some, dstep, isFree, St.app, bump, isNew, List.length_append]
        refine ⟨by kernel_rfl, ?_⟩
        try simp (maxSteps := 1000000) only [go_nil, go_region, go_blk, go_ops_nil, go_op, opK_none, contK_some, callOf, fstep, gpre, fpre, fstep0, fbinA, fbin, fbin0, St.ev, St.put, St.shutAll, killV, killVs, AB.kill, AV.flat, AV.pure, pureAll, AV.owners, ownersAll, Value.oneCell', List.getD_cons_zero, List.getD_cons_succ, List.set, List.map_cons, List.map_nil, List.length_cons, List.length_nil, List.all_cons, List.all_nil, List.drop_zero, List.take_succ_cons, List.take_zero, List.cons_append, List.nil_append, List.append_nil, List.getElem?_cons_zero, List.getElem?_cons_succ, true_and, and_true, Bool.and_true, Bool.true_and, Bool.and_self, ↓reduceIte, reduceCtorEq, Nat.reduceAdd, Nat.reduceEqDiff, Nat.le_refl, Nat.zero_add, eg, c1, avs_len, ew]
        refine ⟨⟨by simp only [maxLen]; omega, by omega⟩, ?_⟩
        simp only [loopX_normal, St.trunc, St.keep, truncVs, truncV, AB.trunc, keepV, List.drop_zero, List.elem_cons, List.elem_nil, List.take_succ_cons, List.take_zero, List.map_cons, List.map_nil, List.getElem?_cons_zero, List.getElem?_cons_succ, List.length_cons, List.length_nil, Nat.reduceAdd, Nat.reduceBEq, Nat.reduceLeDiff, Nat.le_refl, Nat.zero_add, Bool.false_eq_true, ↓reduceIte]
        exact ⟨i + 1, hlt, by omega, by rw [hb, insStep, if_neg (by simp)]; simp only; rw [← avs_snoc, List.length_append]; rfl⟩
      | false =>
        try simp (maxSteps := 1000000) only [go_cond, callOf, gloadB, dload, fstep0, fbinA, fbin, fbin0, fload, fcell, ffieldAddr, findexAddr, fpick, T, TI.isAgg, St.ev, St.put, AV.cells, AV.known, List.getD_cons_zero, List.getD_cons_succ, List.set, List.length_cons, List.length_nil, List.drop_zero, List.headD_cons, List.getElem?_cons_zero, List.getElem?_cons_succ, Option.bind_some, List.getElem?_toArray, true_and, and_true, Bool.and_true, Bool.true_and, Bool.not_false, Bool.false_eq_true, ↓reduceIte, reduceCtorEq, ne_eq, not_false_eq_true, Nat.reduceAdd, Nat.reduceLT, Nat.add_zero, Nat.zero_add, cond_true, drawR_nil, drawR_op, drawR_guard, drawW_some, drawV_tt, drawP_none, drawQ_some, dstep, isFree, St.app, bump, isNew, eg, c1, avs_len]
        refine ⟨by kernel_rfl, ?_⟩
        (first | refine guardV_split ?_ ?_ | refine condK_split ?_ ?_ | refine drawV_split ?_ ?_ | refine condY_split ?_ ?_ | refine guardY_split ?_ ?_) <;> intro h3
        · try simp (maxSteps := 1000000) only [go_nil, go_region, go_seq, go_blk, go_ops_nil, go_op, opK_none, contK_some, condK_t, callOf, fstep, gpre, gbuildB, gparts, hasBks, bkTop, gloadB, fpre, fstep0, fbinA, fbin, fbin0, fload, fcell, findexAddr, evParts, evOwners, fbuildSlice, felems, fappend, T, TI.isAgg, TI.zeroOk, TI.zav, setParts, partsOk, St.ev, St.put, St.shutAll, St.rehome, killV, killVs, AB.kill, AV.cells, AV.known, AV.flat, AV.pure, pureAll, AV.owners, ownersAll, Value.oneCell', List.getD_cons_zero, List.getD_cons_succ, List.set, List.map_cons, List.map_nil, List.length_cons, List.length_nil, List.all_cons, List.all_nil, List.drop_zero, List.take_succ_cons, List.take_zero, List.cons_append, List.nil_append, List.append_nil, List.getElem?_cons_zero, List.getElem?_cons_succ, List.replicate, true_and, and_true, Bool.and_true, Bool.true_and, Bool.and_self, Bool.or_false, Bool.false_eq_true, ↓reduceIte, decide_true, decide_false, reduceCtorEq, Nat.reduceAdd, Nat.reduceMul, Nat.reduceLeDiff, Nat.reduceEqDiff, Nat.reduceLT, Nat.zero_le, Nat.le_refl, Nat.zero_add, List.length_append, eg, c1, avs_len, ew]
          refine ⟨⟨by simp only [maxLen]; omega, by omega⟩, ⟨by simp only [maxLen]; omega, by omega⟩, ?_⟩
          simp only [loopX_normal, St.trunc, St.keep, truncVs, truncV, AB.trunc, keepV, List.drop_zero, List.elem_cons, List.elem_nil, List.take_succ_cons, List.take_zero, List.map_cons, List.map_nil, List.getElem?_cons_zero, List.getElem?_cons_succ, List.length_cons, List.length_nil, Nat.reduceAdd, Nat.reduceBEq, Nat.reduceLeDiff, Nat.le_refl, Nat.zero_add, Bool.false_eq_true, ↓reduceIte]
          exact ⟨i + 1, hlt, by omega, by rw [hb, insStep, if_pos (by rw [h3]; simp)]; simp only; rw [← avs_snoc, ← avs_snoc, List.length_append, List.length_append]; rfl⟩
        · try simp (maxSteps := 1000000) only [go_nil, go_skip, go_region, go_blk, go_ops_nil, go_op, opK_none, contK_some, condK_f, callOf, fstep, gpre, gbuildB, gparts, hasBks, bkTop, gloadB, fpre, fstep0, fbinA, fbin, fbin0, fload, fcell, findexAddr, evParts, evOwners, fbuildSlice, felems, fappend, T, TI.isAgg, TI.zeroOk, TI.zav, setParts, partsOk, St.ev, St.put, St.shutAll, St.rehome, killV, killVs, AB.kill, AV.cells, AV.known, AV.flat, AV.pure, pureAll, AV.owners, ownersAll, Value.oneCell', List.getD_cons_zero, List.getD_cons_succ, List.set, List.map_cons, List.map_nil, List.length_cons, List.length_nil, List.all_cons, List.all_nil, List.drop_zero, List.take_succ_cons, List.take_zero, List.cons_append, List.nil_append, List.append_nil, List.getElem?_cons_zero, List.getElem?_cons_succ, List.replicate, true_and, and_true, Bool.and_true, Bool.true_and, Bool.and_self, Bool.or_false, Bool.false_eq_true, ↓reduceIte, decide_true, decide_false, reduceCtorEq, Nat.reduceAdd, Nat.reduceMul, Nat.reduceLeDiff, Nat.reduceEqDiff, Nat.reduceLT, Nat.zero_le, Nat.le_refl, Nat.zero_add, eg, c1, avs_len, ew]
          refine ⟨⟨by simp only [maxLen]; omega, by omega⟩, ?_⟩
          simp only [loopX_normal, St.trunc, St.keep, truncVs, truncV, AB.trunc, keepV, List.drop_zero, List.elem_cons, List.elem_nil, List.take_succ_cons, List.take_zero, List.map_cons, List.map_nil, List.getElem?_cons_zero, List.getElem?_cons_succ, List.length_cons, List.length_nil, Nat.reduceAdd, Nat.reduceBEq, Nat.reduceLeDiff, Nat.le_refl, Nat.zero_add, Bool.false_eq_true, ↓reduceIte]
          exact ⟨i + 1, hlt, by omega, by rw [hb, insStep, if_neg (by rw [h3]; simp)]; simp only; rw [← avs_snoc, List.length_append]; rfl⟩
    · obtain rfl := at_end hi h
      rw [List.take_length]
      have hl := (insF_len s R).1
      (first | refine guardV_split ?_ ?_ | refine condK_split ?_ ?_ | refine drawV_split ?_ ?_ | refine condY_split ?_ ?_ | refine guardY_split ?_ ?_) <;> intro h3
      · try simp (maxSteps := 1000000) only [go_region, go_seq, go_ret, go_ops_nil, go_op, opK_none, contK_some, condK_t, callOf, fstep, gpre, gbuildB, gparts, hasBks, bkTop, gloadB, fpre, fstep0, fload, fcell, evParts, evOwners, fbuildSlice, felems, fappend, T, TI.isAgg, TI.zeroOk, TI.zav, setParts, partsOk, St.ev, St.put, St.shutAll, St.rehome, killV, killVs, AB.kill, AV.cells, AV.known, AV.flat, AV.pure, pureAll, AV.owners, ownersAll, Value.oneCell', List.getD_cons_zero, List.getD_cons_succ, List.set, List.map_cons, List.map_nil, List.length_cons, List.length_nil, List.all_cons, List.all_nil, List.drop_zero, List.take_succ_cons, List.take_zero, List.cons_append, List.nil_append, List.append_nil, List.getElem?_cons_zero, List.getElem?_cons_succ, List.replicate, true_and, and_true, Bool.and_true, Bool.true_and, Bool.and_self, Bool.or_false, Bool.false_eq_true, ↓reduceIte, decide_true, decide_false, reduceCtorEq, Nat.reduceAdd, Nat.reduceMul, Nat.reduceLeDiff, Nat.reduceEqDiff, Nat.reduceLT, Nat.zero_le, Nat.le_refl, Nat.zero_add, avs_len]
        refine ⟨⟨by simp only [maxLen]; omega, by omega⟩, ?_⟩
        apply hK
        simp only [Try.results39, retK, ares, Bool.and_true, Bool.true_and, AV.ofResults, St.trunc, truncVs, truncV, List.getD_cons_zero, List.getD_cons_succ, List.take_zero, List.drop_zero, List.map_nil, List.getElem?_cons_zero, List.getElem?_cons_succ, Nat.reduceLeDiff, true_and, and_true, ↓reduceIte, List.cons.injEq, exists_eq_left']
        rw [sl_full (by rw [List.length_append, avs_len]; rfl), ins, if_neg (by simpa using h3), ← avs_snoc]; rfl
      · try simp (maxSteps := 1000000) only [go_skip, go_region, go_seq, go_ret, go_ops_nil, go_op, opK_none, contK_some, condK_f, callOf, fstep, gpre, fpre, fstep0, St.ev, St.put, List.getD_cons_zero, List.getD_cons_succ, List.set, true_and, Bool.true_and]
        apply hK
        simp only [Try.results39, retK, ares, Bool.and_true, Bool.true_and, AV.ofResults, St.trunc, truncVs, truncV, List.getD_cons_zero, List.getD_cons_succ, List.take_zero, List.drop_zero, List.map_nil, List.getElem?_cons_zero, List.getElem?_cons_succ, Nat.reduceLeDiff, true_and, and_true, ↓reduceIte, List.cons.injEq, exists_eq_left']
        rw [sl_full (avs_len _), ins, if_pos (by simpa using h3)]
theorem ins_len (s : Ses) (l : List Ses) : (ins s l).length ≤ l.length + 1 := by
  have h := insF_len s l
  unfold ins
  split
  · exact h.1
  · rename_i hp
    rw [List.length_append, h.2 (by simpa using hp)]; simp
theorem insF_mem (s : Ses) : ∀ l : List Ses, ∀ x ∈ (insF s l).1, x = s ∨ x ∈ l := by
  refine snoc_ind (fun x hx => by cases hx) ?_
  intro l a ih x hx
  have e : insF s (l ++ [a]) = insStep s (insF s l) a := by rw [insF, List.foldl_append]; rfl
  rw [e, insStep] at hx
  split at hx
  · simp only [List.mem_append, List.mem_singleton] at hx
    rcases hx with (hx | hx) | hx
    · exact (ih x hx).imp id (fun h => by simp [h])
    · exact .inl hx
    · exact .inr (by simp [hx])
  · simp only [List.mem_append, List.mem_singleton] at hx
    rcases hx with hx | hx
    · exact (ih x hx).imp id (fun h => by simp [h])
    · exact .inr (by simp [hx])
theorem ins_mem {s : Ses} {l : List Ses} {x : Ses} (h : x ∈ ins s l) : x = s ∨ x ∈ l := by
  unfold ins at h
  split at h
  · exact insF_mem s l x h
  · rcases List.mem_append.1 h with h | h
    · exact insF_mem s l x h
    · exact .inl (by simpa using h)

/-- No two have one id. -/
def Apart (l : List Ses) : Prop := ∀ a ∈ l, ∀ b ∈ l, a.id = b.id → a = b
def sortStep (o : List Ses) (s : Ses) : List Ses := if has o s.id then o else ins s (clear o s.id)
def sortF (l : List Ses) : List Ses := l.foldl sortStep []
theorem sortF_next {l : List Ses} {i : Nat} (h : i < l.length) : sortF (l.take (i + 1)) = sortStep (sortF (l.take i)) l[i] := by
  rw [take_one h, sortF, List.foldl_append]; rfl
theorem sortF_spec : ∀ l : List Ses, (sortF l).length ≤ l.length ∧ Apart (sortF l) := by
  refine snoc_ind ⟨Nat.le_refl _, fun a ha => by cases ha⟩ ?_
  intro l s ⟨h1, h2⟩
  have e : sortF (l ++ [s]) = sortStep (sortF l) s := by rw [sortF, List.foldl_append]; rfl
  rw [e, sortStep]
  split
  · exact ⟨by rw [List.length_append]; omega, h2⟩
  · refine ⟨?_, ?_⟩
    · have := ins_len s (clear (sortF l) s.id)
      have : (clear (sortF l) s.id).length ≤ (sortF l).length := List.length_filter_le _ _
      rw [List.length_append, List.length_singleton]; omega
    · have cm : ∀ x, x ∈ clear (sortF l) s.id → x ∈ sortF l ∧ x.id ≠ s.id := fun x hx => by
        have := List.mem_filter.1 hx
        exact ⟨this.1, by simpa using this.2⟩
      intro a ha b hb hab
      rcases ins_mem ha with rfl | ha
      · rcases ins_mem hb with rfl | hb
        · rfl
        · exact absurd hab.symm (cm b hb).2
      · rcases ins_mem hb with rfl | hb
        · exact absurd hab (cm a ha).2
        · exact h2 a (cm a ha).1 b (cm b hb).1 hab

theorem ref06_Sorted (l : List Ses) (hlen : l.length ≤ 200) : PCall P 20 [.sl 4 (avs l)] (fun x => x = .sl 4 (avs (sortF l))) := by
  refine pcall_go tyOk Try.func20 rfl rfl ?_
  intro K hK
  simp only [Try.ntmps20, List.length_cons, List.length_nil, Nat.reduceAdd, Nat.reduceSub, List.replicate, List.cons_append, List.nil_append]
  try simp (maxSteps := 1000000) only [go_region, go_seq, go_block, go_loop, go_ops_nil, go_op, opK_none, contK_some, callOf, fstep, gpre, fpre, fstep0, St.ev, St.put, List.set, true_and, Bool.true_and]
  refine loopK_turn (Turns.asSl (i := 3) 4 rfl) ?_
  refine loopK_rule tyOk (α := Nat) 0 [0, 3, 4] (fun i => i ≤ l.length)
    (fun i => ⟨[.sl 4 (avs l), .any, .any, .sl 4 (avs (sortF (l.take i))), i64 i, .any, .any, .any, .any, .any, .any, .any, .any, .any, .any, .any, .any, .any, .any, .any, .any, .any, .any, .any, .any, .any, .any, .any, .any, .any, .any, .any, .any, .any, .any], []⟩)
    (fun i => l.length - i) 0 (Nat.zero_le _) (Nat.zero_le _) rfl ?_
  intro i hi
  try simp (maxSteps := 1000000) only [go_region, go_seq, go_cond, go_ops_nil, go_op, opK_none, contK_some, callOf, fstep, gpre, fpre, fstep0, fbinA, fbin, fbin0, flen, T, St.ev, St.put, List.getD_cons_zero, List.getD_cons_succ, List.set, true_and, Bool.true_and, avs_len]
  (first | refine guardV_split ?_ ?_ | refine condK_split ?_ ?_ | refine drawV_split ?_ ?_ | refine condY_split ?_ ?_ | refine guardY_split ?_ ?_) <;> intro h <;> try simp (maxSteps := 1000000) only [go_skip, go_region, go_seq, go_block, go_exit, go_ret, exitK_code, exitK_blk, exitK_nil, go_ops_nil, go_op, opK_none, opK_some, contK_some, condK_t, condK_f, callOf, callK_eq, fstep, gpre, gloadB, fpre, fstep0, fload, fcell, ffieldAddr, findexAddr, evs, T, TI.isAgg, St.ev, St.put, AV.cells, AV.known, AV.owners, ownersAll, Value.cells, List.getD_cons_zero, List.getD_cons_succ, List.set, List.drop_zero, List.nil_append, List.append_nil, List.getElem?_cons_zero, List.getElem?_toArray, true_and, Bool.true_and, Bool.false_eq_true, ↓reduceIte, reduceCtorEq, ne_eq, not_false_eq_true, loopX_exit]
  · obtain ⟨hlt, eg, ew, c1⟩ := at_idx (by omega) h
    have hb := sortF_next hlt
    have hl := (sortF_spec (l.take i)).1
    rw [List.length_take] at hl
    generalize sortF (l.take i) = o at hb hl
    try simp (maxSteps := 1000000) only [callJ_nil, callD_fn, evs, St.ev, AV.owners, List.getD_cons_zero, List.getD_cons_succ, List.length_cons, List.length_nil, List.headD_cons, List.append_nil, true_and, and_true, Bool.and_true, Bool.true_and, Nat.reduceAdd, Nat.reduceLT, Nat.zero_add, eg, c1, avs_len]
    (refine callG_use (ref06_Has _ _ (by omega)) rfl ?_; rintro _ rfl)
    try simp (maxSteps := 1000000) only [go_cond, go_ops_nil, go_op, opK_none, contK_some, callOf, fstep, gpre, fpre, fstep0, funary, St.ev, St.put, List.getD_cons_zero, List.getD_cons_succ, List.set, true_and, Bool.true_and]
    (first | refine guardV_split ?_ ?_ | refine condK_split ?_ ?_ | refine drawV_split ?_ ?_ | refine condY_split ?_ ?_ | refine guardY_split ?_ ?_) <;> intro h2
    · have ew2 : IntKind.i64.wrap ((o.length : Int) + 1) = (o.length : Int) + 1 := wrap_i64 (by omega) (by omega)
      have h2' : has o (l[i]).id = false := by simpa using h2
      have es : (setF o l[i] ((o.length : Int) + 1)) = (ins l[i] (clear o (l[i]).id), 0) := by rw [setF, if_neg (by simp; intro _; omega)]
      try simp (maxSteps := 1000000) only [go_region, go_seq, go_op, opK_none, opK_some, contK_some, condK_t, callOf, callK_eq, callJ_nil, callD_fn, fstep, gpre, gloadB, fpre, fstep0, fbinA, fbin, fbin0, fload, fcell, findexAddr, flen, evs, T, TI.isAgg, St.ev, St.put, AV.cells, AV.known, AV.owners, ownersAll, List.getD_cons_zero, List.getD_cons_succ, List.set, List.length_cons, List.length_nil, List.take_succ_cons, List.take_zero, List.append_nil, true_and, and_true, Bool.and_true, Bool.true_and, ↓reduceIte, Nat.reduceAdd, Nat.le_refl, Nat.zero_add, eg, c1, avs_len, ew2]
      (refine callG_use (ref06_Set o l[i] _ (by omega)) rfl ?_; rintro _ rfl)
      try simp (maxSteps := 1000000) only [go_nil, go_region, go_blk, go_ops_nil, go_op, opK_none, contK_some, callOf, fstep, gpre, fpre, fstep0, fbinA, fbin, fbin0, St.ev, St.put, List.getD_cons_zero, List.getD_cons_succ, List.set, List.length_cons, List.length_nil, true_and, Bool.true_and, Nat.reduceAdd, Nat.reduceLT, Nat.zero_add, ew, es]
      simp only [loopX_normal, St.trunc, St.keep, truncVs, truncV, keepV, List.elem_cons, List.elem_nil, List.take_zero, List.map_nil, Nat.reduceAdd, Nat.reduceBEq, Nat.zero_add, Bool.false_eq_true, ↓reduceIte]
      exact ⟨i + 1, hlt, by omega, by rw [hb, sortStep, h2']; rfl⟩
    · have h2' : has o (l[i]).id = true := by simpa using h2
      try simp (maxSteps := 1000000) only [go_nil, go_skip, go_region, go_blk, go_ops_nil, go_op, opK_none, contK_some, condK_f, callOf, fstep, gpre, fpre, fstep0, fbinA, fbin, fbin0, St.ev, St.put, List.getD_cons_zero, List.getD_cons_succ, List.set, true_and, Bool.true_and, ew]
      simp only [loopX_normal, St.trunc, St.keep, truncVs, truncV, keepV, List.elem_cons, List.elem_nil, List.take_zero, List.map_nil, Nat.reduceAdd, Nat.reduceBEq, Nat.zero_add, Bool.false_eq_true, ↓reduceIte]
      exact ⟨i + 1, hlt, by omega, by rw [hb, sortStep, h2']; rfl⟩
  · obtain rfl := at_end hi h
    apply hK
    simp only [Try.results20, retK, ares, List.take_nil, Bool.and_true, Bool.true_and, AV.ofResults, St.trunc, truncVs, truncV, List.getD_cons_zero, List.getD_cons_succ, List.map_nil, true_and, and_true, List.cons.injEq, exists_eq_left']
    rw [List.take_length]

end Go.Proofs.Ytfkpjdcjjfpigaa
