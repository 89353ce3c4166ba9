/- The document's answer of the layer omap, and that a map is these pairs. -/
import Derived.Test.YtfkpjdcjjfpigaaOmap
namespace Go.Proofs.Ytfkpjdcjjfpigaa
open Go Go.Proofs.Ytfkpjdcjjfpigaa.Sym
set_option maxRecDepth 100000
set_option linter.unusedSimpArgs false
set_option linter.unusedVariables false

abbrev Prs := List (ByteArray × Int)
def prav (p : ByteArray × Int) : AV := .agg [str p.1, i64 p.2]
def prs (m : Prs) : List AV := m.map prav
theorem prs_len (m : Prs) : (prs m).length = m.length := by simp [prs]
theorem prs_snoc (m : Prs) (p : ByteArray × Int) : prs m ++ [prav p] = prs (m ++ [p]) := by simp [prs]
theorem pr_idx {l : Prs} {i : Nat} (hb : l.length ≤ 9223372036854775807) (h : decide ((i : Int) < (l.length : Int)) = true) :
    ∃ hlt : i < l.length, (prs l).getD (Int.toNat (i : Int)) .any = .agg [str (l[i]).1, i64 (l[i]).2] ∧ IntKind.i64.wrap ((i : Int) + 1) = ((i + 1 : Nat) : Int) ∧ ((0 : Int) ≤ (i : Int) ∧ Int.toNat (i : Int) < l.length) := by
  have hlt : i < l.length := by simpa using h
  exact ⟨hlt, at_map hlt, by rw [wrap_i64 (by omega) (by omega)]; rfl, by omega⟩
def outF (m : Prs) (k : ByteArray) : Prs := m.filter fun p => !eqS p.1 k
theorem outF_len (m : Prs) (k : ByteArray) : (outF m k).length ≤ m.length := List.length_filter_le _ _
theorem outF_skip {k : ByteArray} {l : Prs} {i : Nat} (h : i < l.length) (hl : eqS (l[i]).1 k = true) : outF (l.take (i + 1)) k = outF (l.take i) k := by
  rw [take_one h, outF, List.filter_append, outF]; simp [hl]
theorem outF_in {k : ByteArray} {l : Prs} {i : Nat} (h : i < l.length) (hl : eqS (l[i]).1 k = false) : outF (l.take (i + 1)) k = outF (l.take i) k ++ [l[i]] := by
  rw [take_one h, outF, List.filter_append, outF]; simp [hl]

theorem ref04_Without (l : Prs) (k : ByteArray) (hlen : l.length ≤ 10000) : PCall P 29 [.sl 2 (prs l), str k] (fun x => x = .sl 2 (prs (outF l k))) := by
  refine pcall_go tyOk Try.func29 rfl rfl ?_
  intro K hK
  simp only [Try.ntmps29, List.length_cons, List.length_nil, Nat.reduceAdd, Nat.reduceSub, List.replicate, List.cons_append, List.nil_append]
  try simp (maxSteps := 1000000) only [go_region, go_seq, go_block, go_loop, go_ops_nil, go_op, opK_none, contK_some, callOf, fstep, fpre, fstep0, St.ev, St.put, List.set, true_and, Bool.true_and]
  refine loopK_turn (Turns.adopt (i := 5) 64 2 rfl) ?_
  refine loopK_rule tyOk (α := Nat) 1 [0, 1, 5, 6] (fun i => i ≤ l.length)
    (fun i => ⟨[.sl 2 (prs l), str k, .any, .any, .any, .own 0 2 0 (outF (l.take i) k).length, i64 i, .any, .any, .any, .any, .any, .any, .any, .any, .any, .any, .any, .any, .any, .any, .any, .any, .any, .any, .any, .any, .any], [.row 64 2 (prs (outF (l.take i) k))]⟩)
    (fun i => l.length - i) 0 (Nat.zero_le _) (Nat.zero_le _) rfl ?_
  intro i hi
  try simp (maxSteps := 1000000) only [go_region, go_seq, go_cond, go_ops_nil, go_op, opK_none, contK_some, callOf, fstep, fpre, fstep0, fbinA, fbin, fbin0, flen, T, St.ev, St.put, List.getD_cons_zero, List.getD_cons_succ, List.set, true_and, Bool.true_and, prs_len]
  (first | refine guardV_split ?_ ?_ | refine condK_split ?_ ?_ | refine drawV_split ?_ ?_ | refine condY_split ?_ ?_ | refine guardY_split ?_ ?_) <;> intro h <;> try simp (maxSteps := 1000000) only [go_skip, go_region, go_seq, go_block, go_exit, go_ret, exitK_code, exitK_blk, exitK_nil, go_ops_nil, go_op, opK_none, contK_some, condK_t, condK_f, callOf, fstep, fpre, fpost, fstep0, fbinA, gbin, gbits, gnil, isSliceTy, fbin, fbin0, fbinS, fload, fcell, ffieldAddr, findexAddr, isBoolTy, T, TI.isAgg, St.ev, St.put, AV.cells, AV.known, Value.cells, List.getD_cons_zero, List.getD_cons_succ, List.set, List.drop_zero, List.getElem?_cons_zero, List.getElem?_toArray, true_and, Bool.true_and, Bool.false_eq_true, ↓reduceIte, reduceCtorEq, ne_eq, not_false_eq_true, loopX_exit]
  · obtain ⟨hlt, eg, ew, c1⟩ := pr_idx (by omega) h
    have hf : (outF (l.take i) k).length ≤ 10000 := Nat.le_trans (outF_len _ _) (by rw [List.length_take]; omega)
    try simp (maxSteps := 1000000) only [go_cond, go_ops_nil, contK_some, St.ev, St.put, List.getD_cons_zero, List.getD_cons_succ, List.set, List.length_cons, List.length_nil, List.headD_cons, true_and, and_true, Bool.and_true, Bool.true_and, Nat.reduceAdd, Nat.reduceLT, Nat.zero_add, eg, c1, prs_len]
    (first | refine guardV_split ?_ ?_ | refine condK_split ?_ ?_ | refine drawV_split ?_ ?_ | refine condY_split ?_ ?_ | refine guardY_split ?_ ?_) <;> intro h2
    · have hl : eqS (l[i]).1 k = false := by simpa [eqS, bne] using h2
      try simp (maxSteps := 1000000) only [go_nil, go_region, go_blk, go_ops_nil, go_op, opK_none, contK_some, condK_t, callOf, fstep, fpre, fstep0, fbinA, fbin, fbin0, fload, fcell, findexAddr, evParts, evOwners, fbuildSlice, felems, fappend, T, TI.isAgg, TI.zeroOk, TI.zav, setParts, partsOk, St.ev, St.put, St.shutAll, St.rehome, killV, killVs, AB.kill, AV.cells, AV.known, AV.flat, AV.pure, pureAll, AV.owners, ownersAll, Value.oneCell', List.getD_cons_zero, List.getD_cons_succ, List.set, List.map_cons, List.map_nil, List.length_cons, List.length_nil, List.all_cons, List.all_nil, List.drop_zero, List.take_succ_cons, List.take_zero, List.cons_append, List.nil_append, List.append_nil, List.getElem?_cons_zero, List.getElem?_cons_succ, List.replicate, true_and, and_true, Bool.and_true, Bool.true_and, Bool.and_self, Bool.or_false, ↓reduceIte, decide_true, decide_false, reduceCtorEq, Nat.reduceAdd, Nat.reduceMul, Nat.reduceLeDiff, Nat.reduceEqDiff, Nat.reduceLT, Nat.zero_le, Nat.le_refl, Nat.zero_add, ew, eg, c1, prs_len]
      refine ⟨⟨by simp only [maxLen]; omega, by omega⟩, ?_⟩
      simp only [loopX_normal, St.trunc, St.keep, truncVs, truncV, AB.trunc, keepV, List.drop_zero, List.elem_cons, List.elem_nil, List.take_succ_cons, List.take_zero, List.map_cons, List.map_nil, List.getElem?_cons_zero, List.getElem?_cons_succ, List.length_cons, List.length_nil, Nat.reduceAdd, Nat.reduceBEq, Nat.reduceLeDiff, Nat.le_refl, Nat.zero_add, Bool.false_eq_true, ↓reduceIte]
      exact ⟨i + 1, hlt, by omega, by rw [outF_in hlt hl, ← prs_snoc, List.length_append]; rfl⟩
    · have hl : eqS (l[i]).1 k = true := by simpa [eqS, bne] using h2
      try simp (maxSteps := 1000000) only [go_nil, go_skip, go_region, go_blk, go_ops_nil, go_op, opK_none, contK_some, condK_f, callOf, fstep, fpre, fstep0, fbinA, fbin, fbin0, St.ev, St.put, List.getD_cons_zero, List.getD_cons_succ, List.set, true_and, Bool.true_and, ew]
      simp only [loopX_normal, St.trunc, St.keep, truncVs, truncV, AB.trunc, keepV, List.elem_cons, List.elem_nil, List.take_succ_cons, List.take_zero, List.map_cons, List.map_nil, Nat.reduceAdd, Nat.reduceBEq, Nat.reduceLeDiff, Nat.zero_add, Bool.false_eq_true, ↓reduceIte]
      exact ⟨i + 1, hlt, by omega, by rw [outF_skip hlt hl]⟩
  · obtain rfl := at_end hi h
    apply hK
    simp only [Try.results29, retK, ares, Bool.and_true, Bool.true_and, AV.ofResults, St.trunc, truncVs, truncV, List.getD_cons_zero, List.getD_cons_succ, List.take_zero, List.drop_zero, List.map_nil, List.getElem?_cons_zero, Nat.le_refl, true_and, and_true, ↓reduceIte, List.cons.injEq, exists_eq_left']
    rw [List.take_length, if_pos (by rw [prs_len]; omega), List.take_of_length_le (by rw [prs_len]; exact Nat.le_refl _)]

theorem gtS (a b : ByteArray) : (!(Op.bytesLess a.toList b.toList || a.toList == b.toList)) = ltS b a := by
  have h1 := ordS.total a b
  have h2 := ordS.irrefl a
  have h3 := ordS.trans a b a
  show (!(ltS a b || eqS a b)) = ltS b a
  cases hab : ltS a b with
  | true =>
    cases hba : ltS b a with
    | false => rfl
    | true => rw [h3 hab hba] at h2; cases h2
  | false =>
    cases hba : ltS b a with
    | true =>
      cases he : eqS a b with
      | false => rfl
      | true => rw [(eqS_iff _ _).1 he, ordS.irrefl] at hba; cases hba
    | false => rw [(eqS_iff _ _).2 (h1 hab hba)]; rfl
def stepW (k : ByteArray) (v : Int) (s : Prs × Bool) (x : ByteArray × Int) : Prs × Bool := if (!s.2 && ltS k x.1) = true then (s.1 ++ [(k, v)] ++ [x], true) else (s.1 ++ [x], s.2)
def runW (k : ByteArray) (v : Int) (l : Prs) : Prs × Bool := l.foldl (stepW k v) ([], false)
def refW (m : Prs) (k : ByteArray) (v : Int) : Prs := if (runW k v (outF m k)).2 = true then (runW k v (outF m k)).1 else (runW k v (outF m k)).1 ++ [(k, v)]
theorem stepW_len (k : ByteArray) (v : Int) (s : Prs × Bool) (x : ByteArray × Int) : (stepW k v s x).1.length ≤ s.1.length + 2 := by
  unfold stepW; split <;> simp
theorem runW_len (k : ByteArray) (v : Int) (l : Prs) : (runW k v l).1.length ≤ 2 * l.length := by
  have : ∀ s : Prs × Bool, (l.foldl (stepW k v) s).1.length ≤ s.1.length + 2 * l.length := by
    induction l with
    | nil => intro s; simp
    | cons x xs ih =>
      intro s
      have := ih (stepW k v s x)
      have := stepW_len k v s x
      simp only [List.foldl_cons, List.length_cons]
      have := ih (stepW k v s x)
      omega
  have := this ([], false)
  simp only [List.length_nil, Nat.zero_add] at this
  exact this
theorem runW_next {k : ByteArray} {v : Int} {l : Prs} {i : Nat} (h : i < l.length) : runW k v (l.take (i + 1)) = stepW k v (runW k v (l.take i)) l[i] := by
  rw [take_one h, runW, List.foldl_append]; rfl
theorem foldW_put (k : ByteArray) (v : Int) (l : Prs) : ∀ out, l.foldl (stepW k v) (out, true) = (out ++ l, true) := by
  induction l with
  | nil => intro out; simp
  | cons x xs ih =>
    intro out
    have e : stepW k v (out, true) x = (out ++ [x], true) := by simp [stepW]
    rw [List.foldl_cons, e, ih]
    simp
theorem foldW_eq (k : ByteArray) (v : Int) (l : Prs) (hr : rises_si l) (hn : ∀ p ∈ l, eqS p.1 k = false) : ∀ out, (fun s : Prs × Bool => if s.2 = true then s.1 else s.1 ++ [(k, v)]) (l.foldl (stepW k v) (out, false)) = out ++ (l.filter (fun p => ltS p.1 k) ++ [(k, v)] ++ l.filter (fun p => ltS k p.1)) := by
  induction l with
  | nil => intro out; simp
  | cons x xs ih =>
    intro out
    have hp := List.pairwise_cons.1 (risesM_iff.1 hr)
    have hx := hn x List.mem_cons_self
    cases hkx : ltS k x.1 with
    | true =>
      have e : stepW k v (out, false) x = (out ++ [(k, v)] ++ [x], true) := by simp [stepW, hkx]
      have hxk : ltS x.1 k = false := by
        cases hc : ltS x.1 k with
        | false => rfl
        | true => have := ordS.trans _ _ _ hkx hc; rw [ordS.irrefl] at this; cases this
      have f1 : xs.filter (fun p => ltS p.1 k) = [] := filter_none' fun y hy => by
        cases hc : ltS y.1 k with
        | false => rfl
        | true => have := ordS.trans _ _ _ (hp.1 y hy) hc; rw [hxk] at this; cases this
      have f2 : xs.filter (fun p => ltS k p.1) = xs := filter_all' fun y hy => ordS.trans _ _ _ hkx (hp.1 y hy)
      rw [List.foldl_cons, e, foldW_put, List.filter_cons, List.filter_cons, hkx, hxk, f1, f2]
      simp
    | false =>
      have hxk : ltS x.1 k = true := by
        cases hc : ltS x.1 k with
        | true => rfl
        | false => rw [(eqS_iff _ _).2 (ordS.total _ _ hc hkx)] at hx; cases hx
      have e : stepW k v (out, false) x = (out ++ [x], false) := by simp [stepW, hkx]
      rw [List.foldl_cons, e, ih (risesM_iff.2 hp.2) (fun p hpm => hn p (List.mem_cons_of_mem _ hpm)), List.filter_cons, List.filter_cons, hkx, hxk]
      simp
theorem refW_eq {m : Prs} (hr : rises_si m) (k : ByteArray) (v : Int) : refW m k v = withG ltS eqS m k v := by
  have h := foldW_eq k v (outF m k) (risesM_iff.2 ((risesM_iff.1 hr).sublist List.filter_sublist)) (fun p hp => by simpa using (List.mem_filter.1 hp).2) []
  have f1 : (outF m k).filter (fun p => ltS p.1 k) = m.filter (fun p => ltS p.1 k) := by
    rw [outF, List.filter_filter]
    refine List.filter_congr fun x hx => ?_
    cases hc : ltS x.1 k with
    | false => rfl
    | true =>
      cases he : eqS x.1 k with
      | false => rfl
      | true => rw [(eqS_iff _ _).1 he, ordS.irrefl] at hc; cases hc
  have f2 : (outF m k).filter (fun p => ltS k p.1) = m.filter (fun p => ltS k p.1) := by
    rw [outF, List.filter_filter]
    refine List.filter_congr fun x hx => ?_
    cases hc : ltS k x.1 with
    | false => rfl
    | true =>
      cases he : eqS x.1 k with
      | false => rfl
      | true => rw [(eqS_iff _ _).1 he, ordS.irrefl] at hc; cases hc
  rw [f1, f2] at h
  rw [with_eq ordS eqS_iff hr]
  exact h
theorem outF_eq {m : Prs} (hr : rises_si m) (k : ByteArray) : outF m k = withoutG ltS eqS m k := (without_eq ordS eqS_iff hr k).symm

theorem ref04_With (l : Prs) (k : ByteArray) (v : Int) (hlen : l.length ≤ 10000) : PCall P 30 [.sl 2 (prs l), str k, i64 v] (fun x => x = .sl 2 (prs (refW l k v))) := by
  refine pcall_go tyOk Try.func30 rfl rfl ?_
  intro K hK
  simp only [Try.ntmps30, List.length_cons, List.length_nil, Nat.reduceAdd, Nat.reduceSub, List.replicate, List.cons_append, List.nil_append]
  try simp (maxSteps := 1000000) only [go_region, go_seq, go_ops_nil, go_op, opK_none, opK_some, contK_some, callOf, callK_eq, callJ_nil, callD_fn, fstep, fpre, fstep0, evs, St.ev, St.put, AV.owners, ownersAll, List.getD_cons_zero, List.getD_cons_succ, List.set, List.append_nil, true_and, Bool.true_and]
  (refine callG_use (ref04_Without l k hlen) rfl ?_; rintro _ rfl)
  have hol := outF_len l k
  unfold refW at hK
  generalize outF l k = r at *
  try simp (maxSteps := 1000000) only [go_region, go_seq, go_block, go_loop, go_ops_nil, go_op, opK_none, contK_some, callOf, fstep, fpre, fstep0, St.ev, St.put, List.getD_cons_zero, List.getD_cons_succ, List.set, true_and, Bool.true_and]
  refine loopK_turn (Turns.adopt (i := 7) 64 2 rfl) ?_
  refine loopK_rule tyOk (α := Nat) 1 [0, 1, 2, 7, 8, 9, 10] (fun i => i ≤ r.length)
    (fun i => ⟨[.sl 2 (prs l), str k, i64 v, .any, .any, .any, .any, .own 0 2 0 (runW k v (r.take i)).1.length, bool (runW k v (r.take i)).2, .sl 2 (prs r), i64 i, .any, .any, .any, .any, .any, .any, .any, .any, .any, .any, .any, .any, .any, .any, .any, .any, .any, .any, .any, .any, .any, .any, .any, .any, .any, .any, .any, .any, .any, .any, .any, .any, .any, .any, .any, .any, .any, .any, .any, .any, .any, .any], [.row 64 2 (prs (runW k v (r.take i)).1)]⟩)
    (fun i => r.length - i) 0 (Nat.zero_le _) (Nat.zero_le _) rfl ?_
  intro i hi
  have hrl := runW_len k v (r.take i)
  have hrl2 : (runW k v (r.take i)).1.length ≤ 20000 := by rw [List.length_take] at hrl; omega
  try simp (maxSteps := 1000000) only [go_region, go_seq, go_cond, go_ops_nil, go_op, opK_none, contK_some, callOf, fstep, fpre, fstep0, fbinA, fbin, fbin0, flen, T, St.ev, St.put, List.getD_cons_zero, List.getD_cons_succ, List.set, true_and, Bool.true_and, prs_len]
  (first | refine guardV_split ?_ ?_ | refine condK_split ?_ ?_ | refine drawV_split ?_ ?_ | refine condY_split ?_ ?_ | refine guardY_split ?_ ?_) <;> intro h <;> try simp (maxSteps := 1000000) only [go_skip, go_region, go_seq, go_cond, go_block, go_exit, exitK_code, exitK_blk, exitK_nil, go_ops_nil, go_op, go_guard, opK_none, contK_some, condK_t, condK_f, guardK_eq, callOf, fstep, fpre, fstep0, funary, St.ev, St.put, List.getD_cons_zero, List.getD_cons_succ, List.set, List.getElem?_cons_zero, List.getElem?_cons_succ, Option.bind_some, List.getElem?_toArray, true_and, Bool.true_and, ↓reduceIte, loopX_exit]
  · obtain ⟨hlt, eg, ew, c1⟩ := pr_idx (by omega) h
    have hnext := runW_next (k := k) (v := v) hlt
    obtain ⟨⟨O, put⟩, hO⟩ : ∃ s, runW k v (r.take i) = s := ⟨_, rfl⟩
    rw [hO] at hnext hrl2 ⊢
    simp only at hrl2
    try simp (maxSteps := 1000000) only [go_nil]
    cases put with
    | true =>
      have en : stepW k v (O, true) r[i] = (O ++ [r[i]], true) := by simp [stepW]
      try simp (maxSteps := 1000000) only [go_nil, go_skip, go_region, go_cond, go_blk, go_ops_nil, go_op, go_guard, opK_none, contK_some, condK_f, guardK_eq, guardV_ft, undef, callOf, fstep, fpre, fstep0, fbinA, fbin, fbin0, fload, fcell, findexAddr, evParts, evOwners, fbuildSlice, felems, fappend, fpick, T, TI.isAgg, TI.zeroOk, TI.zav, setParts, partsOk, St.ev, St.put, St.shutAll, St.rehome, killV, killVs, AB.kill, AV.cells, AV.known, AV.flat, AV.pure, pureAll, AV.owners, ownersAll, Value.oneCell', List.getD_cons_zero, List.getD_cons_succ, List.set, List.map_cons, List.map_nil, List.length_cons, List.length_nil, List.all_cons, List.all_nil, List.drop_zero, List.take_succ_cons, List.take_zero, List.cons_append, List.nil_append, List.append_nil, List.getElem?_cons_zero, List.getElem?_cons_succ, List.replicate, Option.bind_some, List.getElem?_toArray, true_and, and_true, Bool.and_true, Bool.true_and, Bool.and_self, Bool.or_false, Bool.not_true, Bool.false_eq_true, ↓reduceIte, decide_true, decide_false, reduceCtorEq, Nat.reduceAdd, Nat.reduceMul, Nat.reduceLeDiff, Nat.reduceEqDiff, Nat.reduceLT, Nat.zero_le, Nat.le_refl, Nat.zero_add, eg, c1, prs_len]
      refine ⟨⟨by simp only [maxLen]; omega, by omega⟩, ?_⟩
      try simp (maxSteps := 1000000) only [ew]
      simp only [loopX_normal, St.trunc, St.keep, truncVs, truncV, AB.trunc, keepV, List.drop_zero, List.elem_cons, List.elem_nil, List.take_succ_cons, List.take_zero, List.map_cons, List.map_nil, List.getElem?_cons_zero, List.getElem?_cons_succ, List.length_cons, List.length_nil, Nat.reduceAdd, Nat.reduceBEq, Nat.reduceLeDiff, Nat.le_refl, Nat.zero_add, Bool.false_eq_true, ↓reduceIte]
      exact ⟨i + 1, hlt, by omega, by rw [hnext, en, ← prs_snoc, List.length_append]; rfl⟩
    | false =>
      try simp (maxSteps := 1000000) only [go_cond, go_ops_nil, go_op, go_guard, opK_none, contK_some, guardK_eq, guardV_tt, callOf, fstep, fpre, fstep0, fbinA, gbin, gbits, gnil, fbin, fbin0, fload, fcell, ffieldAddr, findexAddr, fpick, T, TI.isAgg, St.ev, St.put, AV.cells, AV.known, List.getD_cons_zero, List.getD_cons_succ, List.set, List.length_cons, List.length_nil, List.drop_zero, List.headD_cons, List.getElem?_cons_zero, List.getElem?_cons_succ, Option.bind_some, List.getElem?_toArray, true_and, and_true, Bool.and_true, Bool.true_and, Bool.not_false, Bool.false_eq_true, ↓reduceIte, reduceCtorEq, ne_eq, not_false_eq_true, Nat.reduceAdd, Nat.reduceLT, Nat.zero_add, cond_true, eg, c1, prs_len]
      (first | refine guardV_split ?_ ?_ | refine condK_split ?_ ?_ | refine drawV_split ?_ ?_ | refine condY_split ?_ ?_ | refine guardY_split ?_ ?_) <;> intro h2
      · have en : stepW k v (O, false) r[i] = (O ++ [(k, v)] ++ [r[i]], true) := by
          have h3 : ltS k r[i].1 = true := by rw [← gtS]; exact h2
          simp [stepW, h3]
        try simp (maxSteps := 1000000) only [go_nil, go_region, go_seq, go_blk, go_ops_nil, go_op, opK_none, contK_some, condK_t, callOf, fstep, fpre, fstep0, fbinA, fbin, fbin0, fload, fcell, findexAddr, ffill, fieldPlaces, fieldsOk, fbuild, evParts, evOwners, fbuildSlice, felems, fappend, T, TI.isAgg, TI.zeroOk, TI.zav, setParts, partsOk, St.ev, St.put, St.shutAll, St.rehome, killV, killVs, AB.kill, splice, AV.cells, AV.known, AV.flat, AV.pure, pureAll, AV.owners, ownersAll, Value.cells, Value.oneCell', List.getD_cons_zero, List.getD_cons_succ, List.set, List.map_cons, List.map_nil, List.length_cons, List.length_nil, List.all_cons, List.all_nil, List.drop_succ_cons, List.drop_zero, List.take_succ_cons, List.take_zero, List.cons_append, List.nil_append, List.append_nil, List.getElem?_cons_zero, List.getElem?_cons_succ, List.replicate, Option.isSome_some, List.getElem?_toArray, true_and, and_true, Bool.and_true, Bool.true_and, Bool.and_self, Bool.or_false, ↓reduceIte, decide_true, decide_false, reduceCtorEq, Nat.reduceAdd, Nat.reduceMul, Nat.reduceLeDiff, Nat.reduceEqDiff, Nat.reduceLT, Nat.zero_le, Nat.le_refl, Nat.zero_add, List.length_append, eg, c1, prs_len]
        refine ⟨⟨by simp only [maxLen]; omega, by omega⟩, ?_⟩
        try simp (maxSteps := 1000000) only [ew]
        refine ⟨⟨by simp only [maxLen]; omega, by omega⟩, ?_⟩
        skip
        simp only [loopX_normal, St.trunc, St.keep, truncVs, truncV, AB.trunc, keepV, List.drop_zero, List.elem_cons, List.elem_nil, List.take_succ_cons, List.take_zero, List.map_cons, List.map_nil, List.getElem?_cons_zero, List.getElem?_cons_succ, List.length_cons, List.length_nil, Nat.reduceAdd, Nat.reduceBEq, Nat.reduceLeDiff, Nat.le_refl, Nat.zero_add, Bool.false_eq_true, ↓reduceIte]
        exact ⟨i + 1, hlt, by omega, by rw [hnext, en, ← prs_snoc, ← prs_snoc, List.length_append, List.length_append]; rfl⟩
      · have en : stepW k v (O, false) r[i] = (O ++ [r[i]], false) := by
          have h3 : ltS k r[i].1 = false := by rw [← gtS]; exact h2
          simp [stepW, h3]
        try simp (maxSteps := 1000000) only [go_nil, go_skip, go_region, go_blk, go_ops_nil, go_op, opK_none, contK_some, condK_f, callOf, fstep, fpre, fstep0, fbinA, fbin, fbin0, fload, fcell, findexAddr, evParts, evOwners, fbuildSlice, felems, fappend, T, TI.isAgg, TI.zeroOk, TI.zav, setParts, partsOk, St.ev, St.put, St.shutAll, St.rehome, killV, killVs, AB.kill, AV.cells, AV.known, AV.flat, AV.pure, pureAll, AV.owners, ownersAll, Value.oneCell', List.getD_cons_zero, List.getD_cons_succ, List.set, List.map_cons, List.map_nil, List.length_cons, List.length_nil, List.all_cons, List.all_nil, List.drop_zero, List.take_succ_cons, List.take_zero, List.cons_append, List.nil_append, List.append_nil, List.getElem?_cons_zero, List.getElem?_cons_succ, List.replicate, true_and, and_true, Bool.and_true, Bool.true_and, Bool.and_self, Bool.or_false, ↓reduceIte, decide_true, decide_false, reduceCtorEq, Nat.reduceAdd, Nat.reduceMul, Nat.reduceLeDiff, Nat.reduceEqDiff, Nat.reduceLT, Nat.zero_le, Nat.le_refl, Nat.zero_add, eg, c1, prs_len]
        refine ⟨⟨by simp only [maxLen]; omega, by omega⟩, ?_⟩
        try simp (maxSteps := 1000000) only [ew]
        simp only [loopX_normal, St.trunc, St.keep, truncVs, truncV, AB.trunc, keepV, List.drop_zero, List.elem_cons, List.elem_nil, List.take_succ_cons, List.take_zero, List.map_cons, List.map_nil, List.getElem?_cons_zero, List.getElem?_cons_succ, List.length_cons, List.length_nil, Nat.reduceAdd, Nat.reduceBEq, Nat.reduceLeDiff, Nat.le_refl, Nat.zero_add, Bool.false_eq_true, ↓reduceIte]
        exact ⟨i + 1, hlt, by omega, by rw [hnext, en, ← prs_snoc, List.length_append]; rfl⟩
  · obtain rfl := at_end hi h
    rw [List.take_length] at hrl2 ⊢
    obtain ⟨⟨O, put⟩, hO⟩ : ∃ s, runW k v r = s := ⟨_, rfl⟩
    rw [hO] at hK hrl2 ⊢
    simp only at hrl2 hK
    cases put with
    | true =>
      try simp (maxSteps := 1000000) only [go_skip, go_region, go_seq, go_ret, go_ops_nil, go_op, opK_none, contK_some, condK_f, callOf, fstep, fpre, fstep0, St.ev, St.put, List.getD_cons_zero, List.getD_cons_succ, List.set, true_and, Bool.true_and, Bool.not_true]
      apply hK
      simp only [Try.results30, retK, ares, Bool.and_true, Bool.true_and, AV.ofResults, St.trunc, truncVs, truncV, List.getD_cons_zero, List.getD_cons_succ, List.take_zero, List.drop_zero, List.map_nil, List.getElem?_cons_zero, Nat.le_refl, true_and, and_true, ↓reduceIte, List.cons.injEq, exists_eq_left']
      rw [if_pos (by rw [prs_len]; omega), List.take_of_length_le (by rw [prs_len]; exact Nat.le_refl _)]
    | false =>
      try simp (maxSteps := 1000000) only [go_region, go_seq, go_ret, go_ops_nil, go_op, opK_none, contK_some, condK_t, callOf, fstep, fpre, fstep0, ffill, fieldPlaces, fieldsOk, fbuild, evParts, evOwners, fbuildSlice, felems, fappend, T, TI.isAgg, TI.zeroOk, TI.zav, setParts, partsOk, St.ev, St.put, St.shutAll, St.rehome, killV, killVs, AB.kill, splice, AV.cells, AV.known, AV.flat, AV.pure, pureAll, AV.owners, ownersAll, Value.cells, Value.oneCell', List.getD_cons_zero, List.getD_cons_succ, List.set, List.map_cons, List.map_nil, List.length_cons, List.length_nil, List.all_cons, List.all_nil, List.drop_succ_cons, List.drop_zero, List.take_succ_cons, List.take_zero, List.cons_append, List.nil_append, List.append_nil, List.getElem?_cons_zero, List.getElem?_cons_succ, List.replicate, Option.isSome_some, List.getElem?_toArray, true_and, and_true, Bool.and_true, Bool.true_and, Bool.and_self, Bool.or_false, Bool.not_false, ↓reduceIte, decide_true, decide_false, reduceCtorEq, Nat.reduceAdd, Nat.reduceMul, Nat.reduceLeDiff, Nat.reduceEqDiff, Nat.reduceLT, Nat.zero_le, Nat.le_refl, Nat.zero_add, prs_len]
      refine ⟨⟨by simp only [maxLen]; omega, by omega⟩, ?_⟩
      skip
      apply hK
      simp only [Try.results30, retK, ares, Bool.and_true, Bool.true_and, AV.ofResults, St.trunc, truncVs, truncV, List.getD_cons_zero, List.getD_cons_succ, List.take_zero, List.drop_zero, List.map_nil, List.getElem?_cons_zero, Nat.le_refl, true_and, and_true, ↓reduceIte, Bool.false_eq_true, List.cons.injEq, exists_eq_left']
      have e := prs_snoc O (k, v)
      simp only [prav] at e
      rw [e, if_pos (by rw [prs_len]; simp), List.take_of_length_le (by rw [prs_len]; simp)]

/-! ### A map is these pairs -/
def isMem (m : Prs) (n : Nat) : List AB := [.box [.sl 1 (m.map fun p => str p.1), .sl 1 (m.map fun p => i64 p.2)], .box [.sl 2 (prs m)], .box [.sl 1 (m.map fun p => str p.1)], .box [i64 n], .box [bool true]]
theorem is_yield (m : Prs) (n : Nat) (hn : n < m.length) (hm : m.length ≤ 10000) :
    ACallN P 5 62 (isMem m n) [str m[n].1, i64 m[n].2, .ptr 4 0, .ptr 3 0, .ptr 1 0, .ptr 2 0]
      (fun r m' => r = bool true ∧ m' = isMem m (n + 1)) := by
  unfold isMem
  refine acallN_go tyOk Try.func62 rfl rfl (by simp) ?_
  intro K hK
  simp only [Try.ntmps62, List.length_cons, List.length_nil, Nat.reduceAdd, Nat.reduceSub, List.replicate, List.cons_append, List.nil_append]
  have eg : (prs m).getD (Int.toNat (n : Int)) .any = .agg [str (m[n]).1, i64 (m[n]).2] := at_map hn
  have eg2 := at_map (f := fun p : ByteArray × Int => str p.1) hn
  have c1 : (0 : Int) ≤ (n : Int) ∧ Int.toNat (n : Int) < m.length := by omega
  have c2 : decide ((n : Int) < (m.length : Int)) = true := by simp; omega
  have ew2 : IntKind.i64.wrap ((n : Int) + 1) = ((n + 1 : Nat) : Int) := by rw [wrap_i64 (by omega) (by omega)]; rfl
  try simp (maxSteps := 1000000) only [go_region, go_seq, go_ret, go_ops_nil, go_op, go_guard, opK_none, contK_some, guardK_eq, guardV_tt, callOf, fstep, fpre, fstep0, fbinA, fbin, fbin0, fload, fcell, fstore, ffieldAddr, findexAddr, flen, fpick, T, TI.isAgg, St.ev, St.put, splice, AV.cells, AV.known, AV.flat, Value.cells, Value.oneCell', List.getD_cons_zero, List.getD_cons_succ, List.set, List.map_cons, List.map_nil, List.length_cons, List.length_nil, List.all_cons, List.all_nil, List.drop_succ_cons, List.drop_zero, List.take_zero, List.headD_cons, List.nil_append, List.append_nil, List.getElem?_cons_zero, List.getElem?_cons_succ, Option.bind_some, List.getElem?_toArray, true_and, and_true, Bool.and_true, Bool.true_and, Bool.and_self, Bool.false_eq_true, ↓reduceIte, reduceCtorEq, ne_eq, not_false_eq_true, Nat.reduceAdd, Nat.reduceLT, Nat.le_refl, Nat.zero_add, cond_true, beq_self_eq_true, prs_len, List.length_map, c2, eg, eg2, c1, ew2]
  apply hK
  simp only [Try.results62, retK, ares, List.take_nil, Bool.and_true, AV.ofResults, St.trunc, truncVs, truncV, AB.trunc, List.getD_cons_zero, List.getD_cons_succ, List.take_succ_cons, List.map_nil, List.map_cons, List.length_cons, List.length_nil, Nat.reduceAdd, and_true, List.cons.injEq, exists_eq_left']
theorem is_call (m : Prs) (hm : m.length ≤ 10000) : PCall P 31 [map_si m, .sl 2 (prs m)] (fun x => x = bool true) := by
  refine pcall_go tyOk Try.func31 rfl rfl ?_
  intro K hK
  simp only [Try.ntmps31, List.length_cons, List.length_nil, Nat.reduceAdd, Nat.reduceSub, List.replicate, List.cons_append, List.nil_append]
  have lme : (m.map fun p => str p.1).length = m.length := List.length_map ..
  have hall := all_call_si m
  unfold map_si at hall
  try simp (maxSteps := 1000000) only [go_region, go_seq, go_ops_nil, go_op, opK_none, opK_some, contK_some, callOf, callK_eq, callJ_nil, callD_fn, fstep, fpre, fstep0, fload, fcell, evs, T, TI.isAgg, St.ev, St.put, AV.cells, AV.known, AV.owners, ownersAll, List.getD_cons_zero, List.getD_cons_succ, List.set, List.length_cons, List.length_nil, List.drop_zero, List.take_succ_cons, List.take_zero, List.cons_append, List.nil_append, List.append_nil, List.getElem?_cons_zero, true_and, Bool.true_and, ↓reduceIte, Nat.reduceAdd, Nat.le_refl, Nat.zero_add, map_si]
  (refine callG_use (keys_call_si m (by omega)) rfl ?_; rintro _ rfl)
  try simp (maxSteps := 1000000) only [go_seq, go_draws, go_ops_nil, go_op, opK_none, contK_some, callOf, fstep, fpre, fstep0, fstore, T, St.ev, St.put, splice, AV.cells, AV.known, AV.flat, List.getD_cons_zero, List.getD_cons_succ, List.set, List.map_cons, List.map_nil, List.length_cons, List.length_nil, List.all_cons, List.all_nil, List.drop_succ_cons, List.drop_zero, List.take_zero, List.cons_append, List.nil_append, List.append_nil, List.getElem?_cons_zero, List.getElem?_cons_succ, true_and, and_true, Bool.and_true, Bool.true_and, Bool.and_self, Nat.reduceAdd, Nat.le_refl, Nat.zero_add]
  refine draw_rule tyOk (by rfl) (by simp only [List.length_cons, List.length_nil, Nat.reduceAdd, Nat.zero_le]) (by kernel_rfl) rfl ?_
  try simp (maxSteps := 1000000) only [callOf, newF, fload, fcell, evs, T, TI.isAgg, St.ev, St.put, List.getD_cons_zero, List.getD_cons_succ, List.set, List.length_cons, List.length_nil, List.drop_zero, List.take_succ_cons, List.take_zero, List.append_nil, List.getElem?_cons_zero, List.replicate, true_and, Bool.true_and, Bool.or_false, Bool.false_eq_true, ↓reduceIte, Nat.reduceAdd, Nat.le_refl, Nat.add_zero, Nat.zero_add, Nat.reduceBEq, newCount, drawR_op, drawP_none, drawP_some, drawQ_some, drawH_fn, dstep, isFree, St.app, bump, isNew]
  refine drawCall_use (len_call_si m) rfl ?_
  try simp (maxSteps := 1000000) only [go_skip, go_region, go_seq, go_cond, go_ops_nil, go_op, opK_none, opK_some, contK_some, condK_f, callOf, callK_eq, callJ_nil, callD_fn, fstep, fpre, fstep0, fbinA, newF, fbin, fbin0, fload, fcell, fstore, flen, evs, fpick, T, TI.isAgg, St.ev, St.put, splice, AV.cells, AV.known, AV.flat, AV.owners, ownersAll, Value.cells, Value.oneCell', List.getD_cons_zero, List.getD_cons_succ, List.set, List.map_cons, List.map_nil, List.length_cons, List.length_nil, List.all_cons, List.all_nil, List.drop_succ_cons, List.drop_zero, List.take_succ_cons, List.take_zero, List.headD_cons, List.cons_append, List.nil_append, List.append_nil, List.getElem?_cons_zero, List.getElem?_cons_succ, Option.bind_some, List.getElem?_toArray, true_and, and_true, Bool.and_true, Bool.true_and, Bool.and_self, Bool.or_false, Bool.false_eq_true, ↓reduceIte, Nat.reduceAdd, Nat.reduceLT, Nat.le_refl, Nat.zero_add, Nat.reduceBEq, cond_false, bne_self_eq_false, drawR_nil, drawR_op, drawR_guard, drawW_some, drawV_ff, drawP_none, drawQ_some, dstep, isFree, St.app, bump, isNew, lme, prs_len]
  refine ⟨by kernel_rfl, ?_⟩
  skip
  (refine callG_use hall rfl ?_; rintro _ rfl)
  try simp (maxSteps := 1000000) only [go_op, opK_none, opK_some, contK_some, callOf, callK_eq, callJ_nil, callD_fn, fstep, fpre, fstep0, evs, St.ev, St.put, AV.owners, ownersAll, List.getD_cons_zero, List.getD_cons_succ, List.set, List.length_nil, List.cons_append, List.nil_append, List.append_nil, List.size_toArray, true_and, Bool.true_and]
  refine callG_turnN (N := 5) (Nat.zero_le _) (Turns.refl _) ?_
  refine acall_iter (seq_si m (by omega)) (fun xs (i : Nat) => i = xs.length) (isMem m) (fun _ _ => False) 0 rfl rfl rfl rfl ?_ ?_ ?_
  · rintro xs x _ hpre rfl
    obtain ⟨hi, _, rfl⟩ := prefix_next hpre
    refine (is_yield m xs.length hi hm).mono ?_
    rintro r m' ⟨rfl, rfl⟩
    exact .inl ⟨rfl, xs.length + 1, by simp, rfl⟩
  · rintro _ rfl
    have hpl2 : (pairs_si m).length = m.length := by rw [pairs_si, List.length_map]
    rw [hpl2]
    try simp (maxSteps := 1000000) only [go_region, go_seq, go_ret, go_ops_nil, go_op, go_guard, opK_none, contK_some, guardK_eq, guardV_tt, callOf, fstep, fpre, fstep0, fbinA, fbin, fbin0, fload, fcell, flen, fpick, T, TI.isAgg, St.ev, St.put, cutVs, cutV, bks, bksAll, List.getD_cons_zero, List.getD_cons_succ, List.set, List.length_cons, List.length_nil, List.all_cons, List.all_nil, List.drop_zero, List.headD_cons, List.cons_append, List.nil_append, List.append_nil, List.getElem?_cons_zero, List.getElem?_cons_succ, Option.bind_some, List.getElem?_toArray, true_and, Bool.true_and, Bool.and_self, Bool.false_eq_true, ↓reduceIte, decide_true, Nat.reduceLT, Nat.zero_add, cond_true, beq_self_eq_true, isMem, prs_len]
    apply hK
    simp only [Try.results31, retK, ares, Bool.and_true, Bool.true_and, AV.ofResults, St.trunc, truncVs, truncV, List.getD_cons_zero, List.getD_cons_succ, List.take_zero, List.map_nil, true_and, and_true, List.cons.injEq, exists_eq_left']
  · intro xs m' _ h; exact h.elim
end Go.Proofs.Ytfkpjdcjjfpigaa
