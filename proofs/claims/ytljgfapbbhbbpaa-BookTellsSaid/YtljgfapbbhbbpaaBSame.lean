/- Are two books alike? -/
import Derived.Test.YtljgfapbbhbbpaaBFit2
namespace Go.Proofs.Ytljgfapbbhbbpaa
open Go Go.Proofs.Ytljgfapbbhbbpaa.Sym
set_option maxRecDepth 100000
set_option linter.unusedSimpArgs false
set_option linter.unusedVariables false

theorem take_same {α : Type} {a b : List α} {i : Nat} (h1 : i < a.length) (h2 : i < b.length) : (a.take (i + 1) = b.take (i + 1)) ↔ (a.take i = b.take i ∧ a[i] = b[i]) := by
  rw [take_one h1, take_one h2]
  constructor
  · intro h
    have := List.append_inj h (by simp; omega)
    exact ⟨this.1, by simpa using this.2⟩
  · rintro ⟨h3, h4⟩; rw [h3, h4]
theorem en_eq {p q : En} : p = q ↔ p.t = q.t ∧ p.l = q.l := by
  cases p; cases q; simp only [En.mk.injEq]; exact And.comm
theorem str_beq (a b : ByteArray) : (a.toList == b.toList) = decide (a = b) := by
  rw [Bool.eq_iff_iff, decide_eq_true_iff]
  exact eqS_iff a b
theorem equal_str (a b : List ByteArray) (ha : a.length ≤ 10000) (hb : b.length ≤ 10000) : PCall P 68 [.sl 1 (a.map fun x => str x), .sl 1 (b.map fun x => str x)] (fun x => x = bool (decide (a = b))) := by
  refine pcall_go tyOk Try.func68 rfl rfl ?_
  intro K hK
  simp only [Try.ntmps68, List.length_cons, List.length_nil, Nat.reduceAdd, Nat.reduceSub, List.replicate, List.cons_append, List.nil_append]
  try simp (maxSteps := 1000000) only [go_region, go_seq, go_cond, go_ops_nil, go_op, opK_none, contK_some, callOf, fstep, fpre, fstep0, fbinA, fbin, fbin0, flen, T, St.ev, St.put, List.getD_cons_zero, List.getD_cons_succ, List.set, true_and, Bool.true_and, List.length_map]
  (first | refine guardV_split ?_ ?_ | refine condK_split ?_ ?_ | refine drawV_split ?_ ?_ | refine condY_split ?_ ?_ | refine guardY_split ?_ ?_) <;> intro h <;> try simp (maxSteps := 1000000) only [go_skip, go_region, go_seq, go_block, go_ret, go_loop, go_ops_nil, go_op, opK_none, contK_some, condK_t, condK_f, callOf, fstep, fpre, fstep0, flen, T, St.ev, St.put, List.getD_cons_zero, List.getD_cons_succ, List.set, true_and, Bool.true_and]
  · apply hK
    simp only [Try.results68, retK, ares, List.take_nil, Bool.and_true, Bool.true_and, AV.ofResults, St.trunc, truncVs, truncV, List.getD_cons_zero, List.getD_cons_succ, List.map_nil, true_and, and_true, List.cons.injEq, exists_eq_left']
    have : decide (a = b) = false := by
      rw [decide_eq_false_iff_not]; rintro rfl; simp at h
    rw [this]
  · have hl : a.length = b.length := by simp at h; omega
    try simp (maxSteps := 1000000) only [List.length_map]
    refine loopK_rule tyOk (α := Nat) 0 [0, 1, 12, 13] (fun i => i ≤ a.length ∧ a.take i = b.take i)
      (fun i => ⟨[.sl 1 (a.map fun x => str x), .sl 1 (b.map fun x => str x), .any, .any, .any, .any, .any, .any, .any, .any, .any, .any, i64 a.length, i64 i, .any, .any, .any, .any, .any, .any, .any, .any, .any, .any, .any, .any], []⟩)
      (fun i => a.length - i) 0 (Nat.zero_le _) ⟨Nat.zero_le _, rfl⟩ rfl ?_
    intro i ⟨hi, he⟩
    try simp (maxSteps := 1000000) only [go_region, go_seq, go_cond, go_ops_nil, go_op, opK_none, contK_some, callOf, fstep, fpre, fstep0, fbinA, fbin, fbin0, St.ev, St.put, List.getD_cons_zero, List.getD_cons_succ, List.set, true_and, Bool.true_and]
    (first | refine guardV_split ?_ ?_ | refine condK_split ?_ ?_ | refine drawV_split ?_ ?_ | refine condY_split ?_ ?_ | refine guardY_split ?_ ?_) <;> intro h <;> try simp (maxSteps := 1000000) only [go_skip, go_region, go_seq, go_block, go_exit, go_ret, go_draws, exitK_code, exitK_blk, exitK_nil, go_ops_nil, go_op, opK_none, contK_some, condK_t, condK_f, callOf, fstep, fpre, fstep0, St.ev, St.put, List.getD_cons_zero, List.getD_cons_succ, List.set, true_and, Bool.true_and, ↓reduceIte, loopX_exit]
    · have hlt : i < a.length := by simpa using h
      have hlt2 : i < b.length := by omega
      have eg := at_map (f := fun x : ByteArray => str x) hlt
      have eg2 := at_map (f := fun x : ByteArray => str x) hlt2
      have ew : IntKind.i64.wrap ((i : Int) + 1) = ((i + 1 : Nat) : Int) := by rw [wrap_i64 (by omega) (by omega)]; rfl
      have c1 : (0 : Int) ≤ (i : Int) ∧ Int.toNat (i : Int) < a.length := by omega
      have c2 : (0 : Int) ≤ (i : Int) ∧ Int.toNat (i : Int) < b.length := by omega
      refine draw_rule tyOk (by rfl) (by simp only [List.length_nil, Nat.le_refl]) (by kernel_rfl) rfl ?_
      try simp (maxSteps := 1000000) only [go_cond, callOf, fstep0, fbinA, fbin, fbin0, fload, fcell, findexAddr, T, TI.isAgg, St.ev, St.put, AV.cells, AV.known, Value.cells, List.getD_cons_zero, List.getD_cons_succ, List.set, List.map_cons, List.map_nil, List.length_cons, List.length_nil, List.headD_cons, List.append_nil, List.replicate, true_and, and_true, Bool.and_true, Bool.true_and, Bool.false_eq_true, ↓reduceIte, Nat.reduceAdd, Nat.reduceLT, Nat.add_zero, Nat.zero_add, newCount, drawR_nil, drawR_op, drawP_none, drawQ_some, dstep, isFree, St.app, bump, isNew, eg, eg2, c1, c2, List.length_map]
      refine ⟨by kernel_rfl, ?_⟩
      have e1 : (bne a[i].toList b[i].toList) = !decide (a[i] = b[i]) := by rw [bne, str_beq]
      skip
      (first | refine guardV_split ?_ ?_ | refine condK_split ?_ ?_ | refine drawV_split ?_ ?_ | refine condY_split ?_ ?_ | refine guardY_split ?_ ?_) <;> intro h2
      · try simp (maxSteps := 1000000) only [go_region, go_seq, go_ret, go_ops_nil, go_op, opK_none, contK_some, condK_t, callOf, fstep, fpre, fstep0, St.ev, St.put, List.set, true_and, Bool.true_and, loopX_ret]
        apply hK
        simp only [Try.results68, retK, ares, List.take_nil, Bool.and_true, Bool.true_and, AV.ofResults, St.trunc, truncVs, truncV, List.getD_cons_zero, List.getD_cons_succ, List.map_nil, true_and, and_true, List.cons.injEq, exists_eq_left']
        have : decide (a = b) = false := by
          rw [decide_eq_false_iff_not]; rintro rfl; simp at h2
        rw [this]
      · try simp (maxSteps := 1000000) only [go_nil, go_skip, go_region, go_blk, go_ops_nil, go_op, opK_none, contK_some, condK_f, callOf, fstep, fpre, fstep0, fbinA, fbin, fbin0, St.ev, St.put, List.getD_cons_zero, List.getD_cons_succ, List.set, true_and, Bool.true_and, ew]
        simp only [loopX_normal, St.trunc, St.keep, truncVs, truncV, keepV, List.elem_cons, List.elem_nil, List.take_zero, List.map_nil, Nat.reduceAdd, Nat.reduceBEq, Nat.zero_add, Bool.false_eq_true, ↓reduceIte]
        exact ⟨i + 1, ⟨hlt, (take_same hlt hlt2).2 ⟨he, (eqS_iff _ _).1 (by simpa [eqS, bne] using h2)⟩⟩, by omega, rfl⟩
    · obtain rfl := at_end hi h
      apply hK
      simp only [Try.results68, retK, ares, List.take_nil, Bool.and_true, Bool.true_and, AV.ofResults, St.trunc, truncVs, truncV, List.getD_cons_zero, List.getD_cons_succ, List.map_nil, true_and, and_true, List.cons.injEq, exists_eq_left']
      rw [List.take_length, hl, List.take_length] at he
      rw [decide_eq_true he]
theorem equal_ses (a b : List Ses) (ha : a.length ≤ 10000) (hb : b.length ≤ 10000) : PCall P 70 [.sl 4 (avs a), .sl 4 (avs b)] (fun x => x = bool (decide (a = b))) := by
  refine pcall_go tyOk Try.func70 rfl rfl ?_
  intro K hK
  simp only [Try.ntmps70, List.length_cons, List.length_nil, Nat.reduceAdd, Nat.reduceSub, List.replicate, List.cons_append, List.nil_append]
  try simp (maxSteps := 1000000) only [go_region, go_seq, go_cond, go_ops_nil, go_op, opK_none, contK_some, callOf, fstep, fpre, fstep0, fbinA, fbin, fbin0, flen, T, St.ev, St.put, List.getD_cons_zero, List.getD_cons_succ, List.set, true_and, Bool.true_and, avs_len]
  (first | refine guardV_split ?_ ?_ | refine condK_split ?_ ?_ | refine drawV_split ?_ ?_ | refine condY_split ?_ ?_ | refine guardY_split ?_ ?_) <;> intro h <;> try simp (maxSteps := 1000000) only [go_skip, go_region, go_seq, go_block, go_ret, go_loop, go_ops_nil, go_op, opK_none, contK_some, condK_t, condK_f, callOf, fstep, fpre, fstep0, flen, T, St.ev, St.put, List.getD_cons_zero, List.getD_cons_succ, List.set, true_and, Bool.true_and]
  · apply hK
    simp only [Try.results70, retK, ares, List.take_nil, Bool.and_true, Bool.true_and, AV.ofResults, St.trunc, truncVs, truncV, List.getD_cons_zero, List.getD_cons_succ, List.map_nil, true_and, and_true, List.cons.injEq, exists_eq_left']
    have : decide (a = b) = false := by
      rw [decide_eq_false_iff_not]; rintro rfl; simp at h
    rw [this]
  · have hl : a.length = b.length := by simp at h; omega
    try simp (maxSteps := 1000000) only [avs_len]
    refine loopK_rule tyOk (α := Nat) 0 [0, 1, 12, 13] (fun i => i ≤ a.length ∧ a.take i = b.take i)
      (fun i => ⟨[.sl 4 (avs a), .sl 4 (avs b), .any, .any, .any, .any, .any, .any, .any, .any, .any, .any, i64 a.length, i64 i, .any, .any, .any, .any, .any, .any, .any, .any, .any, .any, .any, .any], []⟩)
      (fun i => a.length - i) 0 (Nat.zero_le _) ⟨Nat.zero_le _, rfl⟩ rfl ?_
    intro i ⟨hi, he⟩
    try simp (maxSteps := 1000000) only [go_region, go_seq, go_cond, go_ops_nil, go_op, opK_none, contK_some, callOf, fstep, fpre, fstep0, fbinA, fbin, fbin0, St.ev, St.put, List.getD_cons_zero, List.getD_cons_succ, List.set, true_and, Bool.true_and]
    (first | refine guardV_split ?_ ?_ | refine condK_split ?_ ?_ | refine drawV_split ?_ ?_ | refine condY_split ?_ ?_ | refine guardY_split ?_ ?_) <;> intro h <;> try simp (maxSteps := 1000000) only [go_skip, go_region, go_seq, go_block, go_exit, go_ret, go_draws, exitK_code, exitK_blk, exitK_nil, go_ops_nil, go_op, opK_none, contK_some, condK_t, condK_f, callOf, fstep, fpre, fstep0, St.ev, St.put, List.getD_cons_zero, List.getD_cons_succ, List.set, true_and, Bool.true_and, ↓reduceIte, loopX_exit]
    · obtain ⟨hlt, eg, ew, c1⟩ := at_idx (by omega) h
      obtain ⟨hlt2, eg2, _, c2⟩ := at_idx (l := b) (i := i) (by omega) (by rw [← hl]; exact h)
      refine draw_rule tyOk (by rfl) (by simp only [List.length_nil, Nat.le_refl]) (by kernel_rfl) rfl ?_
      try simp (maxSteps := 1000000) only [go_cond, callOf, fstep0, fbinA, fbin, fbinS, eqVs, eqV, kOks, kOk, fload, fcell, findexAddr, T, TI.isAgg, St.ev, St.put, AV.cells, AV.known, List.getD_cons_zero, List.getD_cons_succ, List.set, List.length_cons, List.length_nil, List.take_succ_cons, List.take_zero, List.append_nil, List.replicate, true_and, and_true, Bool.and_true, Bool.true_and, Bool.and_self, Bool.false_eq_true, ↓reduceIte, decide_true, Nat.reduceAdd, Nat.le_refl, Nat.add_zero, Nat.zero_add, newCount, drawR_nil, drawR_op, drawP_none, drawQ_some, dstep, isFree, St.app, bump, isNew, eqc91, eg, eg2, c1, c2, avs_len]
      refine ⟨by kernel_rfl, ?_⟩
      try simp (maxSteps := 1000000) only [ses_beq]
      (first | refine guardV_split ?_ ?_ | refine condK_split ?_ ?_ | refine drawV_split ?_ ?_ | refine condY_split ?_ ?_ | refine guardY_split ?_ ?_) <;> intro h2
      · try simp (maxSteps := 1000000) only [go_region, go_seq, go_ret, go_ops_nil, go_op, opK_none, contK_some, condK_t, callOf, fstep, fpre, fstep0, St.ev, St.put, List.set, true_and, Bool.true_and, loopX_ret]
        apply hK
        simp only [Try.results70, retK, ares, List.take_nil, Bool.and_true, Bool.true_and, AV.ofResults, St.trunc, truncVs, truncV, List.getD_cons_zero, List.getD_cons_succ, List.map_nil, true_and, and_true, List.cons.injEq, exists_eq_left']
        have : decide (a = b) = false := by
          rw [decide_eq_false_iff_not]; rintro rfl; simp at h2
        rw [this]
      · try simp (maxSteps := 1000000) only [go_nil, go_skip, go_region, go_blk, go_ops_nil, go_op, opK_none, contK_some, condK_f, callOf, fstep, fpre, fstep0, fbinA, fbin, fbin0, St.ev, St.put, List.getD_cons_zero, List.getD_cons_succ, List.set, true_and, Bool.true_and, ew]
        simp only [loopX_normal, St.trunc, St.keep, truncVs, truncV, keepV, List.elem_cons, List.elem_nil, List.take_zero, List.map_nil, Nat.reduceAdd, Nat.reduceBEq, Nat.zero_add, Bool.false_eq_true, ↓reduceIte]
        exact ⟨i + 1, ⟨hlt, (take_same hlt hlt2).2 ⟨he, by simpa using h2⟩⟩, by omega, rfl⟩
    · obtain rfl := at_end hi h
      apply hK
      simp only [Try.results70, retK, ares, List.take_nil, Bool.and_true, Bool.true_and, AV.ofResults, St.trunc, truncVs, truncV, List.getD_cons_zero, List.getD_cons_succ, List.map_nil, true_and, and_true, List.cons.injEq, exists_eq_left']
      rw [List.take_length, hl, List.take_length] at he
      rw [decide_eq_true he]
theorem equal_keys (a b : Bk) (ha : a.length ≤ 10000) (hb : b.length ≤ 10000) : PCall P 68 [.sl 1 (a.map fun p => str p.1), .sl 1 (b.map fun p => str p.1)] (fun x => x = bool (decide (a.map Prod.fst = b.map Prod.fst))) := by
  have h := equal_str (a.map Prod.fst) (b.map Prod.fst) (by rwa [List.length_map]) (by rwa [List.length_map])
  rw [List.map_map, List.map_map] at h
  exact h
set_option maxHeartbeats 1000000 in
theorem same_call (a b : Bk) (ha : bookOk 1000 a) (hb : bookOk 1000 b) : PCall P 44 [map_se a, map_se b] (fun x => x = bool (decide (a = b))) := by
  refine pcall_goY tyOk Try.func44 rfl rfl ?_
  intro K hK
  simp only [Try.ntmps44, List.length_cons, List.length_nil, Nat.reduceAdd, Nat.reduceSub, List.replicate, List.cons_append, List.nil_append]
  have hal := ha.2.1
  have hbl := hb.2.1
  have hka := keys_call_se a (by omega)
  have hkb := keys_call_se b (by omega)
  have hall := all_call_se a
  unfold map_se at hka hkb hall
  try simp (maxSteps := 1000000) only [go_nil, go_region, go_draws, go_ops_nil, go_op, opK_none, contK_some, callOf, fstep, fpre, fstep0, T, St.ev, St.put, AV.cells, AV.known, List.getD_cons_zero, List.getD_cons_succ, List.set, List.map_cons, List.map_nil, List.length_cons, List.length_nil, List.cons_append, List.nil_append, true_and, Bool.true_and, Nat.reduceAdd, Nat.zero_add, goY_region, goY_seq, yK_normal, map_se]
  refine draw_rule tyOk (by rfl) (by simp only [List.length_cons, List.length_nil, Nat.reduceAdd, Nat.zero_le]) (by kernel_rfl) rfl ?_
  try simp (maxSteps := 1000000) only [callOf, newF, fload, fcell, evs, T, TI.isAgg, St.ev, St.put, List.getD_cons_zero, List.getD_cons_succ, List.set, List.length_cons, List.length_nil, List.drop_zero, List.take_succ_cons, List.take_zero, List.append_nil, List.getElem?_cons_zero, List.replicate, true_and, Bool.true_and, Bool.or_false, Bool.false_eq_true, ↓reduceIte, Nat.reduceAdd, Nat.le_refl, Nat.add_zero, Nat.zero_add, Nat.reduceBEq, newCount, drawR_op, drawP_none, drawP_some, drawQ_some, drawH_fn, dstep, isFree, St.app, bump, isNew]
  refine drawCall_use hka rfl ?_
  try simp (maxSteps := 1000000) only [callOf, newF, fload, fcell, evs, T, TI.isAgg, St.ev, St.put, List.getD_cons_zero, List.getD_cons_succ, List.set, List.length_cons, List.length_nil, List.drop_zero, List.take_succ_cons, List.take_zero, List.append_nil, List.getElem?_cons_zero, List.getElem?_cons_succ, true_and, Bool.true_and, Bool.or_false, Bool.false_eq_true, ↓reduceIte, Nat.reduceAdd, Nat.le_refl, Nat.zero_add, Nat.reduceBEq, drawR_op, drawP_none, drawP_some, drawQ_some, drawH_fn, dstep, isFree, St.app, bump, isNew]
  refine drawCall_use hkb rfl ?_
  try simp (maxSteps := 1000000) only [callOf, newF, evs, St.ev, St.put, List.getD_cons_zero, List.getD_cons_succ, List.set, List.append_nil, Bool.or_false, Bool.false_eq_true, ↓reduceIte, Nat.reduceAdd, Nat.reduceBEq, drawR_op, drawP_some, drawH_fn, bump, isNew]
  refine drawCall_use (equal_keys a b (by omega) (by omega)) rfl ?_
  try simp (maxSteps := 1000000) only [go_nil, callOf, fstep0, newF, funary, St.ev, St.put, List.getD_cons_zero, List.getD_cons_succ, List.set, true_and, Bool.true_and, Bool.or_false, Bool.false_eq_true, ↓reduceIte, Nat.reduceAdd, Nat.reduceBEq, drawR_nil, drawR_op, drawP_none, drawQ_some, dstep, isFree, St.app, bump, isNew, goY_cond, yK_normal]
  refine ⟨by kernel_rfl, ?_⟩
  skip
  (first | refine guardV_split ?_ ?_ | refine condK_split ?_ ?_ | refine drawV_split ?_ ?_ | refine condY_split ?_ ?_ | refine guardY_split ?_ ?_) <;> intro h
  · have hne : decide (a = b) = false := by
      rw [decide_eq_false_iff_not]; rintro rfl; simp at h
    try simp (maxSteps := 1000000) only [go_nil, go_region, go_ops_nil, go_op, opK_none, contK_some, callOf, fstep, fpre, fstep0, fstore, T, St.ev, St.put, splice, AV.cells, AV.known, AV.flat, Value.cells, Value.oneCell', List.getD_cons_zero, List.getD_cons_succ, List.set, List.map_cons, List.map_nil, List.length_cons, List.length_nil, List.all_cons, List.all_nil, List.drop_succ_cons, List.drop_zero, List.take_zero, List.nil_append, List.append_nil, List.getElem?_cons_zero, List.getElem?_cons_succ, true_and, and_true, Bool.and_true, Bool.true_and, Bool.and_self, Nat.le_refl, Nat.zero_add, goY_region, goY_seq, goY_ret, condY_t, yK_normal]
    apply hK
    simp only [Try.results44, retK, ares, Bool.and_true, Bool.true_and, AV.ofResults, St.trunc, truncVs, truncV, aload, acell, T, TI.isAgg, List.getD_cons_zero, List.getD_cons_succ, List.take_zero, List.drop_zero, List.map_nil, List.getElem?_cons_zero, List.getElem?_cons_succ, true_and, and_true, ↓reduceIte, Bool.false_eq_true, List.cons.injEq, exists_eq_left']
    rw [hne]
  · have hk : a.map Prod.fst = b.map Prod.fst := by simpa using h
    have hlen : a.length = b.length := by have := congrArg List.length hk; simpa using this
    try simp (maxSteps := 1000000) only [go_region, go_op, opK_none, opK_some, contK_some, callOf, callK_eq, callJ_nil, callD_fn, fstep, fpre, fstep0, fload, fcell, evs, T, TI.isAgg, St.ev, St.put, AV.owners, ownersAll, List.getD_cons_zero, List.getD_cons_succ, List.set, List.length_cons, List.length_nil, List.drop_zero, List.take_succ_cons, List.take_zero, List.append_nil, List.getElem?_cons_zero, true_and, Bool.true_and, ↓reduceIte, Nat.reduceAdd, Nat.le_refl, Nat.zero_add, goY_skip, goY_region, goY_seq, condY_f]
    (refine callG_use hall rfl ?_; rintro _ rfl)
    try simp (maxSteps := 1000000) only [go_nil, go_ops_nil, St.put, List.set, goY_block, goY_range, yK_normal]
    refine range_rule tyOk (seq_se a (by omega)) (α := Nat) 3 3 [2, 3, 4] ([.any, .any, .ptr 0 0, .ptr 1 0, .ptr 2 0, .any, .any, .any, .any, .any, .any, .any, .any, .any, .any, .any, .any, .any, .any, .any, .any, .any, .any, .any, .any, .any, .any, .any, .any, .any, .any, .any, .any, .any, .any, .any, .any, .any]) (fun xs i => i = xs.length ∧ i ≤ a.length ∧ a.take i = b.take i)
      (fun i => [ebox a, ebox b, .box [bool false]]) 0 rfl rfl
      (fun x hx => by simp only [pairs_se, List.mem_map] at hx; obtain ⟨p, _, rfl⟩ := hx; rfl) (Nat.zero_le _) (by decide) (by rfl) ⟨rfl, Nat.zero_le _, rfl⟩ rfl ?_ ?_
    · rintro xs x _ hpre ⟨rfl, hle, he⟩
      obtain ⟨hi, _, rfl⟩ := prefix_next hpre
      have hi2 : xs.length < b.length := by omega
      have hts := take_same hi hi2
      have hk1 : a[xs.length].1 = b[xs.length].1 := by
        have h1 : (a.map Prod.fst)[xs.length]'(by simpa using hi) = (b.map Prod.fst)[xs.length]'(by simpa using hi2) := by simp only [hk]
        simpa using h1
      have hw : wasOf b a[xs.length].1 = b[xs.length].2 := by
        rw [wasOf, get_mem ordS eqS_iff hb.1 (k := a[xs.length].1) (v := b[xs.length].2) (by rw [hk1]; exact List.getElem_mem hi2)]
      have hlp := (ha.2.2 _ (List.getElem_mem hi)).2
      have hlq := (hb.2.2 _ (List.getElem_mem hi2)).2
      have hgo := get_open b a[xs.length].1 hb.1 (by omega)
      rw [hw] at hgo
      have hne : a[xs.length] ≠ b[xs.length] → decide (a = b) = false := by
        intro hne
        rw [decide_eq_false_iff_not]; rintro rfl; exact hne rfl
      have hpq : a[xs.length].2 = b[xs.length].2 → a[xs.length] = b[xs.length] := fun h2 => Prod.ext hk1 h2
      unfold map_se at hgo
      generalize a[xs.length] = p at *
      generalize b[xs.length] = q at *
      have ev0 : En.av p.2 = .agg [.sl 4 (avs p.2.l), i64 p.2.t.st, i64 p.2.t.pr, i64 p.2.t.n] := rfl
      try simp (maxSteps := 1000000) only [go_nil, go_region, go_seq, go_block, go_ops_nil, go_op, opK_none, opK_some, contK_some, callOf, callK_eq, callJ_nil, callD_fn, fstep, fpre, fstep0, fload, fcell, fstore, evs, T, TI.isAgg, St.ev, St.put, splice, AV.cells, AV.known, AV.flat, AV.owners, ownersAll, Value.oneCell', List.getD_cons_zero, List.getD_cons_succ, List.set, List.map_cons, List.map_nil, List.length_cons, List.length_nil, List.all_cons, List.all_nil, List.drop_succ_cons, List.drop_zero, List.take_succ_cons, List.take_zero, List.cons_append, List.nil_append, List.append_nil, List.getElem?_cons_zero, List.getElem?_cons_succ, true_and, and_true, Bool.and_true, Bool.true_and, Bool.and_self, ↓reduceIte, Nat.reduceAdd, Nat.le_refl, Nat.zero_add, List.length_append, setPs, roundA_normal, ev0]
      (refine callG_use hgo rfl ?_; rintro _ rfl)
      try simp (maxSteps := 1000000) only [go_region, go_seq, go_ops_nil, go_op, go_guard, opK_none, contK_some, guardK_eq, callOf, fstep, fpre, fstep0, fbinA, fbin, fbinS, eqVs, eqV, kOks, kOk, fload, fcell, fstore, ffieldAddr, T, TI.isAgg, St.ev, St.put, splice, AV.cells, AV.known, AV.flat, Value.oneCell', List.getD_cons_zero, List.getD_cons_succ, List.set, List.map_cons, List.map_nil, List.length_cons, List.length_nil, List.all_cons, List.all_nil, List.drop_succ_cons, List.drop_zero, List.take_succ_cons, List.take_zero, List.cons_append, List.nil_append, List.append_nil, List.getElem?_cons_zero, List.getElem?_cons_succ, Option.bind_some, List.getElem?_toArray, true_and, and_true, Bool.and_true, Bool.true_and, Bool.and_self, ↓reduceIte, decide_true, reduceCtorEq, ne_eq, not_false_eq_true, Nat.reduceAdd, Nat.reduceLT, Nat.le_refl, Nat.zero_add, eqc28, pr_beq]
      (first | refine guardV_split ?_ ?_ | refine condK_split ?_ ?_ | refine drawV_split ?_ ?_ | refine condY_split ?_ ?_ | refine guardY_split ?_ ?_) <;> intro h2
      · have h2' : p ≠ q := by rintro rfl; simp at h2
        try simp (maxSteps := 1000000) only [go_region, go_seq, go_cond, go_ret, go_ops_nil, go_op, go_guard, opK_none, contK_some, condK_t, guardK_eq, guardV_tf, undef, callOf, fstep, fpre, fstep0, fstore, fpick, T, St.ev, St.put, splice, AV.cells, AV.known, AV.flat, Value.cells, Value.oneCell', List.getD_cons_zero, List.getD_cons_succ, List.set, List.map_cons, List.map_nil, List.length_cons, List.length_nil, List.all_cons, List.all_nil, List.drop_succ_cons, List.drop_zero, List.take_zero, List.nil_append, List.append_nil, List.getElem?_cons_zero, List.getElem?_cons_succ, Option.bind_some, List.getElem?_toArray, true_and, and_true, Bool.and_true, Bool.true_and, Bool.and_self, ↓reduceIte, Nat.le_refl, Nat.zero_add, roundX_ret, stopY_ret]
        apply hK
        simp only [Try.results44, retK, ares, pureAll, AV.pure, Bool.and_self, Bool.and_true, Bool.true_and, AV.ofResults, St.trunc, truncVs, truncV, AB.trunc, aload, acell, T, TI.isAgg, List.getD_cons_zero, List.getD_cons_succ, List.take_zero, List.take_succ_cons, List.drop_zero, List.drop_succ_cons, List.map_nil, List.map_cons, List.getElem?_cons_zero, List.getElem?_cons_succ, Nat.reduceLeDiff, Nat.le_refl, true_and, and_true, ↓reduceIte, Bool.false_eq_true, List.cons.injEq, exists_eq_left']
        rw [hne h2']
      · have h2' : p.2.t = q.2.t := by simpa using h2
        try simp (maxSteps := 1000000) only [go_guard, opK_none, opK_some, contK_some, guardK_eq, guardV_ff, callOf, callK_eq, callJ_nil, callD_fn, fstep, fpre, fstep0, fload, fcell, ffieldAddr, evs, T, TI.isAgg, St.ev, St.put, AV.owners, ownersAll, List.getD_cons_zero, List.getD_cons_succ, List.set, List.length_cons, List.length_nil, List.drop_zero, List.headD_cons, List.append_nil, List.getElem?_cons_zero, List.getElem?_cons_succ, Option.bind_some, List.getElem?_toArray, true_and, Bool.true_and, Bool.false_eq_true, ↓reduceIte, reduceCtorEq, ne_eq, not_false_eq_true, Nat.reduceAdd, Nat.reduceLT, Nat.add_zero, Nat.zero_add]
        (refine callG_use (equal_ses p.2.l q.2.l (by omega) (by omega)) rfl ?_; rintro _ rfl)
        try simp (maxSteps := 1000000) only [go_cond, go_ops_nil, go_op, go_guard, opK_none, contK_some, guardK_eq, guardV_ff, callOf, fstep, fpre, fstep0, funary, fpick, St.ev, St.put, List.getD_cons_zero, List.getD_cons_succ, List.set, List.getElem?_cons_zero, List.getElem?_cons_succ, Option.bind_some, List.getElem?_toArray, true_and, Bool.true_and, cond_false]
        (first | refine guardV_split ?_ ?_ | refine condK_split ?_ ?_ | refine drawV_split ?_ ?_ | refine condY_split ?_ ?_ | refine guardY_split ?_ ?_) <;> intro h3
        · have h3' : p ≠ q := by rintro rfl; simp at h3
          try simp (maxSteps := 1000000) only [go_region, go_seq, go_ret, go_ops_nil, go_op, opK_none, contK_some, condK_t, callOf, fstep, fpre, fstep0, fstore, T, St.ev, St.put, splice, AV.cells, AV.known, AV.flat, Value.cells, Value.oneCell', List.getD_cons_zero, List.getD_cons_succ, List.set, List.map_cons, List.map_nil, List.length_cons, List.length_nil, List.all_cons, List.all_nil, List.drop_succ_cons, List.drop_zero, List.take_zero, List.nil_append, List.append_nil, List.getElem?_cons_zero, List.getElem?_cons_succ, true_and, and_true, Bool.and_true, Bool.true_and, Bool.and_self, Nat.le_refl, Nat.zero_add, roundX_ret, stopY_ret]
          apply hK
          simp only [Try.results44, retK, ares, pureAll, AV.pure, Bool.and_self, Bool.and_true, Bool.true_and, AV.ofResults, St.trunc, truncVs, truncV, AB.trunc, aload, acell, T, TI.isAgg, List.getD_cons_zero, List.getD_cons_succ, List.take_zero, List.take_succ_cons, List.drop_zero, List.drop_succ_cons, List.map_nil, List.map_cons, List.getElem?_cons_zero, List.getElem?_cons_succ, Nat.reduceLeDiff, Nat.le_refl, true_and, and_true, ↓reduceIte, Bool.false_eq_true, List.cons.injEq, exists_eq_left']
          rw [hne h3']
        · have h3' : p.2.l = q.2.l := by simpa using h3
          have hpq2 := hpq (en_eq.2 ⟨h2', h3'⟩)
          try simp (maxSteps := 1000000) only [go_nil, go_skip, go_blk, condK_f]
          simp only [roundX_normal, St.trunc, truncVs, truncV, AB.trunc, pureAll, AV.pure, Bool.and_self, List.drop_zero, List.drop_succ_cons, List.take_succ_cons, List.take_zero, List.map_cons, List.map_nil, List.getElem?_cons_zero, List.getElem?_cons_succ, Nat.reduceLeDiff, Nat.le_refl, ↓reduceIte]
          exact ⟨xs.length + 1, ⟨by first | rfl | simp, by omega, hts.2 ⟨he, hpq2⟩⟩, by first | rfl | trivial⟩
    · rintro _ ⟨rfl, hle, he⟩
      have e1 : (pairs_se a).length = a.length := by simp [pairs_se]
      rw [e1, List.take_length, hlen, List.take_length] at he
      try simp (maxSteps := 1000000) only [go_nil, go_region, go_ops_nil, go_op, opK_none, contK_some, callOf, fstep, fpre, fstep0, fstore, T, St.ev, St.put, splice, AV.cells, AV.known, AV.flat, Value.cells, Value.oneCell', List.getD_cons_zero, List.getD_cons_succ, List.set, List.map_cons, List.map_nil, List.length_cons, List.length_nil, List.all_cons, List.all_nil, List.drop_succ_cons, List.drop_zero, List.take_zero, List.nil_append, List.append_nil, List.getElem?_cons_zero, List.getElem?_cons_succ, true_and, and_true, Bool.and_true, Bool.true_and, Bool.and_self, Nat.le_refl, Nat.zero_add, goY_region, goY_seq, goY_blk, goY_ret, yK_normal]
      apply hK
      simp only [Try.results44, retK, ares, Bool.and_true, Bool.true_and, AV.ofResults, St.trunc, truncVs, truncV, aload, acell, T, TI.isAgg, List.getD_cons_zero, List.getD_cons_succ, List.take_zero, List.drop_zero, List.map_nil, List.getElem?_cons_zero, List.getElem?_cons_succ, true_and, and_true, ↓reduceIte, Bool.false_eq_true, List.cons.injEq, exists_eq_left']
      rw [decide_eq_true he]
end Go.Proofs.Ytljgfapbbhbbpaa
