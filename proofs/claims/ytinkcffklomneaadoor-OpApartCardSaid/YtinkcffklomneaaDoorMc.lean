/- An op's line: package op's, and the document's. -/
import Derived.Test.YtinkcffklomneaaDoorMb
namespace Go.Proofs.YtinkcffklomneaaDoor
open Go Go.Proofs.YtinkcffklomneaaDoor.Sym
set_option maxRecDepth 100000
set_option linter.unusedSimpArgs false
set_option linter.unusedVariables false
abbrev spB : ByteArray := ⟨#[32]⟩
theorem quo_size (s : ByteArray) : (quo s).size ≤ 10 * s.size + 2 := by rw [quo, strOfNums_size]; exact Lib.quoteZ_length_le _ s
theorem joinB_snoc (x : ByteArray) (r : List ByteArray) (y : ByteArray) : joinB spB (x :: (r ++ [y])) = joinB spB (x :: r) ++ spB ++ y := by simp [joinB, List.foldl_append]
theorem foldl_size (B : Nat) : ∀ (r : List ByteArray) (x : ByteArray), (∀ y ∈ r, y.size ≤ B) → (r.foldl (fun a y => a ++ spB ++ y) x).size ≤ x.size + r.length * (B + 1)
  | [], x, _ => by simp
  | y :: r, x, h => by
    have h1 := foldl_size B r (x ++ spB ++ y) (fun z hz => h z (by simp [hz]))
    have h2 := h y (by simp)
    have e : ByteArray.size spB = 1 := rfl
    rw [ByteArray.size_append, ByteArray.size_append, e] at h1
    rw [List.foldl_cons, List.length_cons, Nat.add_mul, Nat.one_mul]
    omega
theorem joinB_size (B : Nat) (x : ByteArray) (r : List ByteArray) (h : ∀ y ∈ x :: r, y.size ≤ B) : (joinB spB (x :: r)).size ≤ (r.length + 1) * (B + 1) := by
  have h1 := foldl_size B r x (fun y hy => h y (by simp [hy]))
  have h2 := h x (by simp)
  rw [Nat.add_mul, Nat.one_mul]
  have e : joinB spB (x :: r) = r.foldl (fun a y => a ++ spB ++ y) x := rfl
  rw [e]
  omega
structure Opv where
  kind : Int
  user : ByteArray
  id : Int
  st : Int
  pr : Int
  ttl : Nat
  users : List ByteArray
structure Opv.ok (x : Opv) : Prop where
  id : In64 x.id
  st : In64 x.st
  pr : In64 x.pr
  ttl : x.ttl < 18446744073709551616
  user : x.user.size ≤ 40
  len : x.users.length ≤ 20
  users : ∀ y ∈ x.users, y.size ≤ 40
abbrev Opv.cells (x : Opv) : List AV := [i64 x.kind, str x.user, i64 x.id, i64 x.st, i64 x.pr, u64 x.ttl, .sl 1 (strs x.users)]
abbrev Opv.av (x : Opv) : AV := .agg x.cells
/-- The words behind a kind's name. -/
def Opv.words (x : Opv) : List ByteArray :=
  if x.kind = 1 then [quo x.user, itB x.id, itB x.st, itB x.pr, dgt x.ttl]
  else if x.kind = 2 then [quo x.user, itB x.id, dgt x.ttl]
  else if x.kind = 3 then [quo x.user, itB x.id]
  else if x.kind = 4 ∨ x.kind = 6 ∨ x.kind = 7 then [quo x.user]
  else if x.kind = 5 then x.users.map quo
  else []
def badB : ByteArray := ⟨#[98, 97, 100]⟩
def Opv.line (x : Opv) : ByteArray := if x.kind < 1 ∨ 9 < x.kind then badB else joinB spB (nmB x.kind :: x.words)
theorem nmB_size (k : Int) : (nmB k).size ≤ 7 := by
  unfold nmB
  split
  · rename_i h
    rcases (by omega : k = 0 ∨ k = 1 ∨ k = 2 ∨ k = 3 ∨ k = 4 ∨ k = 5 ∨ k = 6 ∨ k = 7 ∨ k = 8 ∨ k = 9) with rfl | rfl | rfl | rfl | rfl | rfl | rfl | rfl | rfl | rfl <;> decide
  · decide
theorem Opv.words_size (x : Opv) (h : x.ok) : ∀ y ∈ x.words, y.size ≤ 402 := by
  have s0 := quo_size x.user
  have s1 := itB_size _ h.id
  have s2 := itB_size _ h.st
  have s3 := itB_size _ h.pr
  have s4 := dgt_size _ h.ttl
  have hu := h.user
  intro y hy
  unfold Opv.words at hy
  repeat' split at hy
  all_goals (simp at hy)
  · rcases hy with rfl | rfl | rfl | rfl | rfl <;> omega
  · rcases hy with rfl | rfl | rfl <;> omega
  · rcases hy with rfl | rfl <;> omega
  · subst hy; omega
  · obtain ⟨z, hz, rfl⟩ := hy
    have := quo_size z
    have := h.users z hz
    omega
theorem Opv.line_size (x : Opv) (h : x.ok) : (joinB spB (nmB x.kind :: x.words)).size ≤ 20000 := by
  have h1 := joinB_size 402 (nmB x.kind) x.words (fun y hy => by
    rcases List.mem_cons.1 hy with rfl | hy
    · have := nmB_size x.kind; omega
    · exact x.words_size h y hy)
  have h2 : x.words.length ≤ 20 := by
    have := h.len
    unfold Opv.words
    repeat' split
    all_goals (simp; try omega)
  have : (x.words.length + 1) * 403 ≤ 21 * 403 := Nat.mul_le_mul_right _ (by omega)
  omega
theorem strs_get {l : List ByteArray} {i : Nat} (h : i < l.length) : (strs l).getD (Int.toNat (i : Int)) .any = str l[i] := by
  rw [Int.toNat_natCast]; simp [List.getD, h]
theorem strs_len (l : List ByteArray) : (strs l).length = l.length := by simp

theorem op_Line (x : Opv) (h : x.ok) : PCall P 11 [x.av] (fun y => y = str x.line) := by
  have hls := x.line_size h
  have s0 := quo_size x.user
  have hu := h.user
  refine pcall_go tyOk Tryd.func11 rfl rfl ?_
  intro K hK
  simp only [Tryd.ntmps11, List.length_cons, List.length_nil, Nat.reduceAdd, Nat.reduceSub, List.replicate, List.cons_append, List.nil_append]
  try simp (maxSteps := 1000000) only [go_region, go_seq, go_ops_nil, go_op, opK_none, opK_some, contK_some, callOf, callK_eq, callJ_nil, callD_fn, fstep, fpre, fstep0, fload, fcell, ffieldAddr, evs, T, TI.isAgg, St.ev, St.put, AV.cells, AV.known, AV.owners, ownersAll, List.getD_cons_zero, List.getD_cons_succ, List.set, List.length_cons, List.length_nil, List.drop_zero, List.headD_cons, List.nil_append, List.append_nil, List.getElem?_cons_zero, List.getElem?_toArray, true_and, Bool.true_and, Bool.false_eq_true, ↓reduceIte, reduceCtorEq, ne_eq, not_false_eq_true, Nat.reduceAdd, Nat.reduceLT, Nat.add_zero, Nat.zero_add]
  (refine callG_use (op_Name x.kind) rfl ?_; rintro _ rfl)
  try simp (maxSteps := 1000000) only [go_region, go_seq, go_cond, go_block, go_ops_nil, go_op, opK_none, contK_some, callOf, fstep, fpre, fstep0, fbinA, fbin, fbin0, fload, fcell, ffieldAddr, T, TI.isAgg, St.ev, St.put, List.getD_cons_zero, List.getD_cons_succ, List.set, List.length_cons, List.length_nil, List.drop_zero, List.headD_cons, List.getElem?_cons_zero, List.getElem?_toArray, true_and, Bool.true_and, Bool.false_eq_true, ↓reduceIte, reduceCtorEq, ne_eq, not_false_eq_true, Nat.reduceAdd, Nat.reduceLT, Nat.add_zero, Nat.zero_add]
  rcases (by omega : x.kind = 1 ∨ x.kind = 2 ∨ x.kind = 3 ∨ x.kind = 4 ∨ x.kind = 5 ∨ x.kind = 6 ∨ x.kind = 7 ∨ x.kind = 8 ∨ x.kind = 9 ∨ (x.kind < 1 ∨ 9 < x.kind)) with hk | hk | hk | hk | hk | hk | hk | hk | hk | hk
  · have c1 : (x.kind == 1) = true := by simp [hk]
    have c2 : (x.kind == 2) = false := by simp [hk]
    have c3 : (x.kind == 3) = false := by simp [hk]
    have c4 : (x.kind == 4) = false := by simp [hk]
    have c5 : (x.kind == 5) = false := by simp [hk]
    have c6 : (x.kind == 6) = false := by simp [hk]
    have c7 : (x.kind == 7) = false := by simp [hk]
    have c8 : (x.kind == 8) = false := by simp [hk]
    have c9 : (x.kind == 9) = false := by simp [hk]
    have hw : x.words = [quo x.user, itB x.id, itB x.st, itB x.pr, dgt x.ttl] := by unfold Opv.words; simp [hk]
    have hl : x.line = joinB spB [nmB x.kind, quo x.user, itB x.id, itB x.st, itB x.pr, dgt x.ttl] := by rw [Opv.line, if_neg (by omega), hw]
    rw [hl] at hK
    rw [hw] at hls
    try simp (maxSteps := 1000000) only [go_seq, go_draws, condK_t, c1]
    refine draw_rule tyOk (by rfl) (by simp only [List.length_cons, List.length_nil, Nat.reduceAdd, Nat.zero_le]) (by kernel_rfl) rfl ?_
    try simp (maxSteps := 1000000) only [callOf, fstep0, newF, fload, fcell, ffieldAddr, evs, T, TI.isAgg, St.ev, St.put, List.getD_cons_zero, List.getD_cons_succ, List.set, List.length_cons, List.length_nil, List.drop_succ_cons, List.drop_zero, List.headD_cons, List.append_nil, List.getElem?_cons_zero, List.getElem?_cons_succ, List.replicate, List.getElem?_toArray, true_and, Bool.true_and, Bool.false_eq_true, ↓reduceIte, reduceCtorEq, ne_eq, not_false_eq_true, Nat.reduceAdd, Nat.reduceLT, Nat.add_zero, Nat.zero_add, newCount, drawR_op, drawP_none, drawP_some, drawQ_some, drawH_fn, dstep, isFree, St.app, bump, isNew]
    refine drawCall_use (op_quoted x.user (by omega)) rfl ?_
    try simp (maxSteps := 1000000) only [callOf, fstep0, newF, fload, fcell, ffieldAddr, evs, T, TI.isAgg, St.ev, St.put, List.getD_cons_zero, List.getD_cons_succ, List.set, List.length_cons, List.length_nil, List.drop_succ_cons, List.drop_zero, List.headD_cons, List.append_nil, List.getElem?_cons_zero, List.getElem?_cons_succ, List.getElem?_toArray, true_and, Bool.true_and, Bool.false_eq_true, ↓reduceIte, reduceCtorEq, ne_eq, not_false_eq_true, Nat.reduceAdd, Nat.reduceLT, Nat.zero_add, drawR_op, drawP_none, drawP_some, drawQ_some, drawH_fn, dstep, isFree, St.app, bump, isNew]
    refine drawCall_use (op_digits x.id h.id) rfl ?_
    try simp (maxSteps := 1000000) only [callOf, fstep0, newF, fload, fcell, ffieldAddr, evs, T, TI.isAgg, St.ev, St.put, List.getD_cons_zero, List.getD_cons_succ, List.set, List.length_cons, List.length_nil, List.drop_succ_cons, List.drop_zero, List.headD_cons, List.append_nil, List.getElem?_cons_zero, List.getElem?_cons_succ, List.getElem?_toArray, true_and, Bool.true_and, Bool.false_eq_true, ↓reduceIte, reduceCtorEq, ne_eq, not_false_eq_true, Nat.reduceAdd, Nat.reduceLT, Nat.zero_add, drawR_op, drawP_none, drawP_some, drawQ_some, drawH_fn, dstep, isFree, St.app, bump, isNew]
    refine drawCall_use (op_digits x.st h.st) rfl ?_
    try simp (maxSteps := 1000000) only [callOf, fstep0, newF, fload, fcell, ffieldAddr, evs, T, TI.isAgg, St.ev, St.put, List.getD_cons_zero, List.getD_cons_succ, List.set, List.length_cons, List.length_nil, List.drop_succ_cons, List.drop_zero, List.headD_cons, List.append_nil, List.getElem?_cons_zero, List.getElem?_cons_succ, List.getElem?_toArray, true_and, Bool.true_and, Bool.false_eq_true, ↓reduceIte, reduceCtorEq, ne_eq, not_false_eq_true, Nat.reduceAdd, Nat.reduceLT, Nat.zero_add, drawR_op, drawP_none, drawP_some, drawQ_some, drawH_fn, dstep, isFree, St.app, bump, isNew]
    refine drawCall_use (op_digits x.pr h.pr) rfl ?_
    try simp (maxSteps := 1000000) only [callOf, fstep0, newF, fload, fcell, ffieldAddr, evs, T, TI.isAgg, St.ev, St.put, List.getD_cons_zero, List.getD_cons_succ, List.set, List.length_cons, List.length_nil, List.drop_succ_cons, List.drop_zero, List.headD_cons, List.append_nil, List.getElem?_cons_zero, List.getElem?_cons_succ, List.getElem?_toArray, true_and, Bool.true_and, Bool.false_eq_true, ↓reduceIte, reduceCtorEq, ne_eq, not_false_eq_true, Nat.reduceAdd, Nat.reduceLT, Nat.zero_add, drawR_op, drawP_none, drawP_some, drawQ_some, drawH_fn, dstep, isFree, St.app, bump, isNew]
    refine drawCall_use (op_digitsU x.ttl h.ttl) rfl ?_
    try simp (maxSteps := 1000000) only [undef, callOf, newF, evParts, evs, T, TI.isAgg, TI.zeroOk, TI.zav, setParts, partsOk, St.ev, St.put, AV.cells, AV.known, AV.flat, AV.pure, Value.cells, Value.oneCell', List.getD_cons_zero, List.getD_cons_succ, List.set, List.map_cons, List.map_nil, List.length_cons, List.length_nil, List.all_cons, List.all_nil, List.headD_cons, List.append_nil, List.replicate, true_and, and_true, Bool.and_true, Bool.true_and, Bool.and_self, Bool.or_true, Bool.false_eq_true, ↓reduceIte, decide_true, Nat.reduceAdd, Nat.reduceMul, Nat.reduceLeDiff, Nat.reduceLT, Nat.zero_add, drawR_op, drawP_none, drawP_some, drawQ_some, drawH_fn, dstep, isFree, dbuildSlice, St.app, bump, isNew]
    refine drawCall_use (op_words (nmB x.kind) [quo x.user, itB x.id, itB x.st, itB x.pr, dgt x.ttl] (by simp) (Nat.le_trans hls (by omega))) rfl ?_
    try simp (maxSteps := 1000000) only [go_ret, callOf, fstep0, newF, St.ev, St.put, List.getD_cons_zero, List.getD_cons_succ, List.set, true_and, Bool.true_and, Bool.false_eq_true, ↓reduceIte, Nat.reduceAdd, drawR_nil, drawR_op, drawP_none, drawQ_some, dstep, isFree, St.app, bump, isNew]
    refine ⟨by kernel_rfl, ?_⟩
    skip
    apply hK
    simp only [Tryd.results11, retK, ares, Bool.and_true, Bool.true_and, AV.ofResults, St.trunc, truncVs, truncV, List.getD_cons_zero, List.getD_cons_succ, List.take_zero, List.map_nil, true_and, and_true, List.cons.injEq, exists_eq_left']
  · have c1 : (x.kind == 1) = false := by simp [hk]
    have c2 : (x.kind == 2) = true := by simp [hk]
    have c3 : (x.kind == 3) = false := by simp [hk]
    have c4 : (x.kind == 4) = false := by simp [hk]
    have c5 : (x.kind == 5) = false := by simp [hk]
    have c6 : (x.kind == 6) = false := by simp [hk]
    have c7 : (x.kind == 7) = false := by simp [hk]
    have c8 : (x.kind == 8) = false := by simp [hk]
    have c9 : (x.kind == 9) = false := by simp [hk]
    have hw : x.words = [quo x.user, itB x.id, dgt x.ttl] := by unfold Opv.words; simp [hk]
    have hl : x.line = joinB spB [nmB x.kind, quo x.user, itB x.id, dgt x.ttl] := by rw [Opv.line, if_neg (by omega), hw]
    rw [hl] at hK
    rw [hw] at hls
    try simp (maxSteps := 1000000) only [go_region, go_seq, go_cond, go_draws, go_ops_nil, go_op, opK_none, contK_some, condK_t, condK_f, callOf, fstep, fpre, fstep0, fbinA, fbin, fbin0, St.ev, St.put, List.getD_cons_zero, List.getD_cons_succ, List.set, true_and, Bool.true_and, c1, c2]
    refine draw_rule tyOk (by rfl) (by simp only [List.length_cons, List.length_nil, Nat.reduceAdd, Nat.zero_le]) (by kernel_rfl) rfl ?_
    try simp (maxSteps := 1000000) only [callOf, fstep0, newF, fload, fcell, ffieldAddr, evs, T, TI.isAgg, St.ev, St.put, List.getD_cons_zero, List.getD_cons_succ, List.set, List.length_cons, List.length_nil, List.drop_succ_cons, List.drop_zero, List.headD_cons, List.append_nil, List.getElem?_cons_zero, List.getElem?_cons_succ, List.replicate, List.getElem?_toArray, true_and, Bool.true_and, Bool.false_eq_true, ↓reduceIte, reduceCtorEq, ne_eq, not_false_eq_true, Nat.reduceAdd, Nat.reduceLT, Nat.add_zero, Nat.zero_add, newCount, drawR_op, drawP_none, drawP_some, drawQ_some, drawH_fn, dstep, isFree, St.app, bump, isNew]
    refine drawCall_use (op_quoted x.user (by omega)) rfl ?_
    try simp (maxSteps := 1000000) only [callOf, fstep0, newF, fload, fcell, ffieldAddr, evs, T, TI.isAgg, St.ev, St.put, List.getD_cons_zero, List.getD_cons_succ, List.set, List.length_cons, List.length_nil, List.drop_succ_cons, List.drop_zero, List.headD_cons, List.append_nil, List.getElem?_cons_zero, List.getElem?_cons_succ, List.getElem?_toArray, true_and, Bool.true_and, Bool.false_eq_true, ↓reduceIte, reduceCtorEq, ne_eq, not_false_eq_true, Nat.reduceAdd, Nat.reduceLT, Nat.zero_add, drawR_op, drawP_none, drawP_some, drawQ_some, drawH_fn, dstep, isFree, St.app, bump, isNew]
    refine drawCall_use (op_digits x.id h.id) rfl ?_
    try simp (maxSteps := 1000000) only [callOf, fstep0, newF, fload, fcell, ffieldAddr, evs, T, TI.isAgg, St.ev, St.put, List.getD_cons_zero, List.getD_cons_succ, List.set, List.length_cons, List.length_nil, List.drop_succ_cons, List.drop_zero, List.headD_cons, List.append_nil, List.getElem?_cons_zero, List.getElem?_cons_succ, List.getElem?_toArray, true_and, Bool.true_and, Bool.false_eq_true, ↓reduceIte, reduceCtorEq, ne_eq, not_false_eq_true, Nat.reduceAdd, Nat.reduceLT, Nat.zero_add, drawR_op, drawP_none, drawP_some, drawQ_some, drawH_fn, dstep, isFree, St.app, bump, isNew]
    refine drawCall_use (op_digitsU x.ttl h.ttl) rfl ?_
    try simp (maxSteps := 1000000) only [undef, callOf, newF, evParts, evs, T, TI.isAgg, TI.zeroOk, TI.zav, setParts, partsOk, St.ev, St.put, AV.cells, AV.known, AV.flat, AV.pure, Value.cells, Value.oneCell', List.getD_cons_zero, List.getD_cons_succ, List.set, List.map_cons, List.map_nil, List.length_cons, List.length_nil, List.all_cons, List.all_nil, List.headD_cons, List.append_nil, List.replicate, true_and, and_true, Bool.and_true, Bool.true_and, Bool.and_self, Bool.or_true, Bool.false_eq_true, ↓reduceIte, decide_true, Nat.reduceAdd, Nat.reduceMul, Nat.reduceLeDiff, Nat.reduceLT, Nat.zero_add, drawR_op, drawP_none, drawP_some, drawQ_some, drawH_fn, dstep, isFree, dbuildSlice, St.app, bump, isNew]
    refine drawCall_use (op_words (nmB x.kind) [quo x.user, itB x.id, dgt x.ttl] (by simp) (Nat.le_trans hls (by omega))) rfl ?_
    try simp (maxSteps := 1000000) only [go_ret, callOf, fstep0, newF, St.ev, St.put, List.getD_cons_zero, List.getD_cons_succ, List.set, true_and, Bool.true_and, Bool.false_eq_true, ↓reduceIte, Nat.reduceAdd, drawR_nil, drawR_op, drawP_none, drawQ_some, dstep, isFree, St.app, bump, isNew]
    refine ⟨by kernel_rfl, ?_⟩
    skip
    apply hK
    simp only [Tryd.results11, retK, ares, Bool.and_true, Bool.true_and, AV.ofResults, St.trunc, truncVs, truncV, List.getD_cons_zero, List.getD_cons_succ, List.take_zero, List.map_nil, true_and, and_true, List.cons.injEq, exists_eq_left']
  · have c1 : (x.kind == 1) = false := by simp [hk]
    have c2 : (x.kind == 2) = false := by simp [hk]
    have c3 : (x.kind == 3) = true := by simp [hk]
    have c4 : (x.kind == 4) = false := by simp [hk]
    have c5 : (x.kind == 5) = false := by simp [hk]
    have c6 : (x.kind == 6) = false := by simp [hk]
    have c7 : (x.kind == 7) = false := by simp [hk]
    have c8 : (x.kind == 8) = false := by simp [hk]
    have c9 : (x.kind == 9) = false := by simp [hk]
    have hw : x.words = [quo x.user, itB x.id] := by unfold Opv.words; simp [hk]
    have hl : x.line = joinB spB [nmB x.kind, quo x.user, itB x.id] := by rw [Opv.line, if_neg (by omega), hw]
    rw [hl] at hK
    rw [hw] at hls
    try simp (maxSteps := 1000000) only [go_region, go_seq, go_cond, go_draws, go_ops_nil, go_op, opK_none, contK_some, condK_t, condK_f, callOf, fstep, fpre, fstep0, fbinA, fbin, fbin0, St.ev, St.put, List.getD_cons_zero, List.getD_cons_succ, List.set, true_and, Bool.true_and, c1, c2, c3]
    refine draw_rule tyOk (by rfl) (by simp only [List.length_cons, List.length_nil, Nat.reduceAdd, Nat.zero_le]) (by kernel_rfl) rfl ?_
    try simp (maxSteps := 1000000) only [callOf, fstep0, newF, fload, fcell, ffieldAddr, evs, T, TI.isAgg, St.ev, St.put, List.getD_cons_zero, List.getD_cons_succ, List.set, List.length_cons, List.length_nil, List.drop_succ_cons, List.drop_zero, List.headD_cons, List.append_nil, List.getElem?_cons_zero, List.getElem?_cons_succ, List.replicate, List.getElem?_toArray, true_and, Bool.true_and, Bool.false_eq_true, ↓reduceIte, reduceCtorEq, ne_eq, not_false_eq_true, Nat.reduceAdd, Nat.reduceLT, Nat.add_zero, Nat.zero_add, newCount, drawR_op, drawP_none, drawP_some, drawQ_some, drawH_fn, dstep, isFree, St.app, bump, isNew]
    refine drawCall_use (op_quoted x.user (by omega)) rfl ?_
    try simp (maxSteps := 1000000) only [callOf, fstep0, newF, fload, fcell, ffieldAddr, evs, T, TI.isAgg, St.ev, St.put, List.getD_cons_zero, List.getD_cons_succ, List.set, List.length_cons, List.length_nil, List.drop_succ_cons, List.drop_zero, List.headD_cons, List.append_nil, List.getElem?_cons_zero, List.getElem?_cons_succ, List.getElem?_toArray, true_and, Bool.true_and, Bool.false_eq_true, ↓reduceIte, reduceCtorEq, ne_eq, not_false_eq_true, Nat.reduceAdd, Nat.reduceLT, Nat.zero_add, drawR_op, drawP_none, drawP_some, drawQ_some, drawH_fn, dstep, isFree, St.app, bump, isNew]
    refine drawCall_use (op_digits x.id h.id) rfl ?_
    try simp (maxSteps := 1000000) only [undef, callOf, newF, evParts, evs, T, TI.isAgg, TI.zeroOk, TI.zav, setParts, partsOk, St.ev, St.put, AV.cells, AV.known, AV.flat, AV.pure, Value.cells, Value.oneCell', List.getD_cons_zero, List.getD_cons_succ, List.set, List.map_cons, List.map_nil, List.length_cons, List.length_nil, List.all_cons, List.all_nil, List.headD_cons, List.append_nil, List.replicate, true_and, and_true, Bool.and_true, Bool.true_and, Bool.and_self, Bool.or_true, Bool.false_eq_true, ↓reduceIte, decide_true, Nat.reduceAdd, Nat.reduceMul, Nat.reduceLeDiff, Nat.reduceLT, Nat.zero_add, drawR_op, drawP_none, drawP_some, drawQ_some, drawH_fn, dstep, isFree, dbuildSlice, St.app, bump, isNew]
    refine drawCall_use (op_words (nmB x.kind) [quo x.user, itB x.id] (by simp) (Nat.le_trans hls (by omega))) rfl ?_
    try simp (maxSteps := 1000000) only [go_ret, callOf, fstep0, newF, St.ev, St.put, List.getD_cons_zero, List.getD_cons_succ, List.set, true_and, Bool.true_and, Bool.false_eq_true, ↓reduceIte, Nat.reduceAdd, drawR_nil, drawR_op, drawP_none, drawQ_some, dstep, isFree, St.app, bump, isNew]
    refine ⟨by kernel_rfl, ?_⟩
    skip
    apply hK
    simp only [Tryd.results11, retK, ares, Bool.and_true, Bool.true_and, AV.ofResults, St.trunc, truncVs, truncV, List.getD_cons_zero, List.getD_cons_succ, List.take_zero, List.map_nil, true_and, and_true, List.cons.injEq, exists_eq_left']
  · have c1 : (x.kind == 1) = false := by simp [hk]
    have c2 : (x.kind == 2) = false := by simp [hk]
    have c3 : (x.kind == 3) = false := by simp [hk]
    have c4 : (x.kind == 4) = true := by simp [hk]
    have c5 : (x.kind == 5) = false := by simp [hk]
    have c6 : (x.kind == 6) = false := by simp [hk]
    have c7 : (x.kind == 7) = false := by simp [hk]
    have c8 : (x.kind == 8) = false := by simp [hk]
    have c9 : (x.kind == 9) = false := by simp [hk]
    have hw : x.words = [quo x.user] := by unfold Opv.words; simp [hk]
    have hl : x.line = joinB spB [nmB x.kind, quo x.user] := by rw [Opv.line, if_neg (by omega), hw]
    rw [hl] at hK
    rw [hw] at hls
    try simp (maxSteps := 1000000) only [go_skip, go_region, go_seq, go_cond, go_ops_nil, go_op, opK_none, opK_some, contK_some, condK_t, condK_f, callOf, callK_eq, callJ_nil, callD_fn, fstep, fpre, fstep0, fbinA, fbin, fbin0, fload, fcell, ffieldAddr, evs, T, TI.isAgg, St.ev, St.put, AV.owners, ownersAll, List.getD_cons_zero, List.getD_cons_succ, List.set, List.length_cons, List.length_nil, List.drop_succ_cons, List.drop_zero, List.headD_cons, List.append_nil, List.getElem?_cons_zero, List.getElem?_cons_succ, List.getElem?_toArray, true_and, Bool.true_and, Bool.false_eq_true, ↓reduceIte, reduceCtorEq, ne_eq, not_false_eq_true, Nat.reduceAdd, Nat.reduceLT, Nat.zero_add, c1, c2, c3, c4]
    (refine callG_use (op_quoted x.user (by omega)) rfl ?_; rintro _ rfl)
    try simp (maxSteps := 1000000) only [go_op, opK_none, opK_some, contK_some, undef, callOf, callK_eq, callJ_cons, fstep, fpre, fstep0, evParts, evOwners, fbuildSlice, evs, T, TI.isAgg, TI.zeroOk, TI.zav, setParts, partsOk, St.ev, St.put, St.shutAll, AV.cells, AV.known, AV.flat, AV.pure, AV.owners, ownersAll, Value.cells, Value.oneCell', List.getD_cons_zero, List.getD_cons_succ, List.set, List.map_cons, List.map_nil, List.length_cons, List.length_nil, List.all_cons, List.all_nil, List.headD_cons, List.cons_append, List.nil_append, List.append_nil, List.replicate, true_and, and_true, Bool.and_true, Bool.true_and, Bool.and_self, Bool.or_true, Bool.false_eq_true, ↓reduceIte, decide_true, Nat.reduceMul, Nat.reduceLeDiff, Nat.reduceLT, Nat.zero_le, Nat.zero_add]
    refine callO_shut ?_
    try simp (maxSteps := 1000000) only [callH_fn, evs, St.ev, St.shutAll, St.shut, shutV, shutVs, AB.shut, List.getD_cons_zero, List.getD_cons_succ, List.set, List.map_cons, List.map_nil, List.length_cons, List.length_nil, List.all_cons, List.all_nil, List.drop_zero, List.take_succ_cons, List.take_zero, List.append_nil, List.getElem?_cons_zero, List.getElem?_cons_succ, true_and, and_true, Bool.and_true, Bool.true_and, Bool.and_self, ↓reduceIte, decide_true, reduceCtorEq, Nat.reduceAdd, Nat.zero_le, Nat.le_refl, Nat.zero_add]
    (refine callG_use (op_words (nmB x.kind) [quo x.user] (by simp) (Nat.le_trans hls (by omega))) rfl ?_; rintro _ rfl)
    try simp (maxSteps := 1000000) only [go_ret, go_ops_nil, go_op, opK_none, contK_some, callOf, fstep, fpre, fstep0, St.ev, St.put, List.getD_cons_zero, List.getD_cons_succ, List.set, true_and, Bool.true_and]
    apply hK
    simp only [Tryd.results11, retK, ares, Bool.and_true, Bool.true_and, AV.ofResults, St.trunc, truncVs, truncV, List.getD_cons_zero, List.getD_cons_succ, List.take_zero, List.map_nil, true_and, and_true, List.cons.injEq, exists_eq_left']
  · have c1 : (x.kind == 1) = false := by simp [hk]
    have c2 : (x.kind == 2) = false := by simp [hk]
    have c3 : (x.kind == 3) = false := by simp [hk]
    have c4 : (x.kind == 4) = false := by simp [hk]
    have c5 : (x.kind == 5) = true := by simp [hk]
    have c6 : (x.kind == 6) = false := by simp [hk]
    have c7 : (x.kind == 7) = false := by simp [hk]
    have c8 : (x.kind == 8) = false := by simp [hk]
    have c9 : (x.kind == 9) = false := by simp [hk]
    have hw : x.words = x.users.map quo := by unfold Opv.words; simp [hk]
    have hl : x.line = joinB spB (nmB x.kind :: x.users.map quo) := by rw [Opv.line, if_neg (by omega), hw]
    rw [hl] at hK
    rw [hw] at hls
    try simp (maxSteps := 1000000) only [go_region, go_seq, go_cond, go_block, go_loop, go_ops_nil, go_op, opK_none, contK_some, condK_t, condK_f, undef, callOf, fstep, fpre, fstep0, fbinA, fbin, fbin0, fload, fcell, ffieldAddr, evParts, evOwners, fbuildSlice, flen, T, TI.isAgg, TI.zeroOk, TI.zav, setParts, partsOk, St.ev, St.put, St.shutAll, AV.cells, AV.known, AV.flat, AV.pure, AV.owners, Value.cells, Value.oneCell', List.getD_cons_zero, List.getD_cons_succ, List.set, List.map_cons, List.map_nil, List.length_cons, List.length_nil, List.all_cons, List.all_nil, List.drop_succ_cons, List.drop_zero, List.headD_cons, List.cons_append, List.nil_append, List.append_nil, List.getElem?_cons_zero, List.getElem?_cons_succ, List.replicate, List.getElem?_toArray, true_and, and_true, Bool.and_true, Bool.true_and, Bool.and_self, Bool.or_true, Bool.false_eq_true, ↓reduceIte, decide_true, reduceCtorEq, ne_eq, not_false_eq_true, Nat.reduceMul, Nat.reduceLeDiff, Nat.reduceLT, Nat.zero_le, Nat.zero_add, c1, c2, c3, c4, c5, c6, c7, strs_len]
    have hn := h.len
    refine loopK_rule tyOk (α := Nat) 2 [1, 2, 4, 72, 73, 74] (fun i => i ≤ x.users.length)
      (fun i => ⟨[.any, .ptr 0 0, str ⟨#[]⟩, .any, .own 1 1 0 (i + 1), .any, .any, .any, .any, .any, .any, .any, .any, .any, .any, .any, .any, .any, .any, .any, .any, .any, .any, .any, .any, .any, .any, .any, .any, .any, .any, .any, .any, .any, .any, .any, .any, .any, .any, .any, .any, .any, .any, .any, .any, .any, .any, .any, .any, .any, .any, .any, .any, .any, .any, .any, .any, .any, .any, .any, .any, .any, .any, .any, .any, .any, .any, .any, .any, .any, .any, .any, .sl 1 (strs x.users), i64 x.users.length, i64 i, .any, .any, .any, .any, .any, .any, .any, .any, .any, .any, .any, .any, .any, .any, .any, .any, .any], [.box x.cells, .row 9 1 (strs (nmB x.kind :: (x.users.take i).map quo))]⟩)
      (fun i => x.users.length - i) 0 (by simp) (Nat.zero_le _) rfl ?_
    intro i hi
    try simp (maxSteps := 1000000) only [go_region, go_seq, go_cond, go_ops_nil, go_op, opK_none, contK_some, callOf, fstep, fpre, fstep0, fbinA, fbin, fbin0, St.ev, St.put, List.getD_cons_zero, List.getD_cons_succ, List.set, List.map_cons, true_and, Bool.true_and]
    (first | refine guardV_split ?_ ?_ | refine condK_split ?_ ?_ | refine drawV_split ?_ ?_ | refine condY_split ?_ ?_ | refine guardY_split ?_ ?_) <;> intro hf <;> try simp (maxSteps := 1000000) only [go_skip, go_region, go_seq, go_block, go_exit, exitK_code, exitK_blk, exitK_nil, go_ops_nil, go_op, opK_none, opK_some, contK_some, condK_t, condK_f, callOf, callK_eq, callJ_cons, fstep, fpre, fstep0, fload, fcell, findexAddr, evs, T, TI.isAgg, St.ev, St.put, AV.cells, AV.known, AV.owners, ownersAll, Value.cells, List.getD_cons_zero, List.getD_cons_succ, List.set, List.append_nil, true_and, Bool.true_and, Bool.false_eq_true, ↓reduceIte, loopX_exit]
    · have hlt : i < x.users.length := by simpa using hf
      have eg := strs_get hlt
      have ew : IntKind.i64.wrap ((i : Int) + 1) = ((i + 1 : Nat) : Int) := by rw [wrap_i64 (by omega) (by omega)]; rfl
      have b1 : (0 : Int) ≤ (i : Int) ∧ Int.toNat (i : Int) < x.users.length := by omega
      have hq := h.users x.users[i] (List.getElem_mem _)
      try simp (maxSteps := 1000000) only [callJ_nil, callD_fn, evs, St.ev, AV.owners, List.getD_cons_zero, List.getD_cons_succ, List.map_cons, List.map_nil, List.length_cons, List.length_nil, List.headD_cons, List.append_nil, true_and, and_true, Bool.and_true, Bool.true_and, Nat.reduceLT, Nat.zero_add, eg, b1, strs_len]
      (refine callG_use (op_quoted x.users[i] (by omega)) rfl ?_; rintro _ rfl)
      try simp (maxSteps := 1000000) only [go_nil, go_region, go_blk, go_ops_nil, go_op, opK_none, contK_some, undef, callOf, fstep, fpre, fstep0, fbinA, fbin, fbin0, evParts, evOwners, fbuildSlice, felems, fappend, T, TI.isAgg, TI.zeroOk, TI.zav, setParts, partsOk, St.ev, St.put, St.shutAll, St.rehome, killV, killVs, AB.kill, AV.cells, AV.known, AV.flat, AV.pure, AV.owners, Value.cells, Value.oneCell', List.getD_cons_zero, List.getD_cons_succ, List.set, List.map_cons, List.map_nil, List.length_cons, List.length_nil, List.all_cons, List.all_nil, List.drop_zero, List.take_succ_cons, List.take_zero, List.headD_cons, List.cons_append, List.nil_append, List.append_nil, List.getElem?_cons_zero, List.getElem?_cons_succ, List.replicate, true_and, and_true, Bool.and_true, Bool.true_and, Bool.and_self, Bool.or_true, Bool.false_eq_true, ↓reduceIte, decide_true, reduceCtorEq, Nat.reduceAdd, Nat.reduceMul, Nat.reduceLeDiff, Nat.reduceEqDiff, Nat.reduceLT, Nat.zero_le, Nat.le_refl, Nat.zero_add, ew]
      refine ⟨⟨by simp; omega, by simp only [maxLen]; omega, by omega⟩, ?_⟩
      simp only [loopX_normal, St.trunc, St.keep, truncVs, truncV, AB.trunc, keepV, List.drop_zero, List.elem_cons, List.elem_nil, List.take_succ_cons, List.take_zero, List.map_cons, List.map_nil, List.getElem?_cons_zero, List.getElem?_cons_succ, List.length_cons, List.length_nil, Nat.reduceAdd, Nat.reduceBEq, Nat.reduceLeDiff, Nat.le_refl, Nat.zero_add, Bool.false_eq_true, ↓reduceIte]
      exact ⟨i + 1, hlt, by omega, by rw [List.take_succ_eq_append_getElem hlt]; simp only [List.map_append, List.map_cons, List.map_nil]⟩
    · obtain rfl : i = x.users.length := by have := of_decide_eq_false hf; omega
      have em : (List.map (fun s => str s) (List.map quo (List.take x.users.length x.users))).length = x.users.length := by simp
      have et : List.take x.users.length (List.map (fun s => str s) (List.map quo (List.take x.users.length x.users))) = List.map (fun s => str s) (List.map quo (List.take x.users.length x.users)) := List.take_of_length_le (by rw [em]; exact Nat.le_refl _)
      refine callO_shut ?_
      try simp (maxSteps := 1000000) only [callH_fn, evs, St.ev, St.shutAll, St.shut, shutV, shutVs, AB.shut, List.getD_cons_zero, List.getD_cons_succ, List.set, List.map_cons, List.map_nil, List.length_cons, List.all_cons, List.all_nil, List.drop_zero, List.take_succ_cons, List.append_nil, List.getElem?_cons_zero, List.getElem?_cons_succ, true_and, Bool.true_and, Bool.and_self, ↓reduceIte, decide_true, reduceCtorEq, Nat.reduceLeDiff, Nat.zero_le, Nat.zero_add]
      rw [em, if_pos (Nat.le_refl _), et]
      (refine callG_use (op_words (nmB x.kind) ((x.users.take x.users.length).map quo) (by simp; omega) (by rw [List.take_length]; exact Nat.le_trans hls (by omega))) rfl ?_; rintro _ rfl)
      try simp (maxSteps := 1000000) only [go_ret, go_ops_nil, go_op, opK_none, contK_some, callOf, fstep, fpre, fstep0, St.ev, St.put, List.getD_cons_zero, List.getD_cons_succ, List.set, true_and, Bool.true_and]
      rw [List.take_length]
      apply hK
      simp only [Tryd.results11, retK, ares, Bool.and_true, Bool.true_and, AV.ofResults, St.trunc, truncVs, truncV, List.getD_cons_zero, List.getD_cons_succ, List.take_zero, List.map_nil, true_and, and_true, List.cons.injEq, exists_eq_left']
  · have c1 : (x.kind == 1) = false := by simp [hk]
    have c2 : (x.kind == 2) = false := by simp [hk]
    have c3 : (x.kind == 3) = false := by simp [hk]
    have c4 : (x.kind == 4) = false := by simp [hk]
    have c5 : (x.kind == 5) = false := by simp [hk]
    have c6 : (x.kind == 6) = true := by simp [hk]
    have c7 : (x.kind == 7) = false := by simp [hk]
    have c8 : (x.kind == 8) = false := by simp [hk]
    have c9 : (x.kind == 9) = false := by simp [hk]
    have hw : x.words = [quo x.user] := by unfold Opv.words; simp [hk]
    have hl : x.line = joinB spB [nmB x.kind, quo x.user] := by rw [Opv.line, if_neg (by omega), hw]
    rw [hl] at hK
    rw [hw] at hls
    try simp (maxSteps := 1000000) only [go_skip, go_region, go_seq, go_cond, go_ops_nil, go_op, opK_none, opK_some, contK_some, condK_t, condK_f, callOf, callK_eq, callJ_nil, callD_fn, fstep, fpre, fstep0, fbinA, fbin, fbin0, fload, fcell, ffieldAddr, evs, T, TI.isAgg, St.ev, St.put, AV.owners, ownersAll, List.getD_cons_zero, List.getD_cons_succ, List.set, List.length_cons, List.length_nil, List.drop_succ_cons, List.drop_zero, List.headD_cons, List.append_nil, List.getElem?_cons_zero, List.getElem?_cons_succ, List.getElem?_toArray, true_and, Bool.true_and, Bool.false_eq_true, ↓reduceIte, reduceCtorEq, ne_eq, not_false_eq_true, Nat.reduceAdd, Nat.reduceLT, Nat.zero_add, c1, c2, c3, c4, c6]
    (refine callG_use (op_quoted x.user (by omega)) rfl ?_; rintro _ rfl)
    try simp (maxSteps := 1000000) only [go_op, opK_none, opK_some, contK_some, undef, callOf, callK_eq, callJ_cons, fstep, fpre, fstep0, evParts, evOwners, fbuildSlice, evs, T, TI.isAgg, TI.zeroOk, TI.zav, setParts, partsOk, St.ev, St.put, St.shutAll, AV.cells, AV.known, AV.flat, AV.pure, AV.owners, ownersAll, Value.cells, Value.oneCell', List.getD_cons_zero, List.getD_cons_succ, List.set, List.map_cons, List.map_nil, List.length_cons, List.length_nil, List.all_cons, List.all_nil, List.headD_cons, List.cons_append, List.nil_append, List.append_nil, List.replicate, true_and, and_true, Bool.and_true, Bool.true_and, Bool.and_self, Bool.or_true, Bool.false_eq_true, ↓reduceIte, decide_true, Nat.reduceMul, Nat.reduceLeDiff, Nat.reduceLT, Nat.zero_le, Nat.zero_add]
    refine callO_shut ?_
    try simp (maxSteps := 1000000) only [callH_fn, evs, St.ev, St.shutAll, St.shut, shutV, shutVs, AB.shut, List.getD_cons_zero, List.getD_cons_succ, List.set, List.map_cons, List.map_nil, List.length_cons, List.length_nil, List.all_cons, List.all_nil, List.drop_zero, List.take_succ_cons, List.take_zero, List.append_nil, List.getElem?_cons_zero, List.getElem?_cons_succ, true_and, and_true, Bool.and_true, Bool.true_and, Bool.and_self, ↓reduceIte, decide_true, reduceCtorEq, Nat.reduceAdd, Nat.zero_le, Nat.le_refl, Nat.zero_add]
    (refine callG_use (op_words (nmB x.kind) [quo x.user] (by simp) (Nat.le_trans hls (by omega))) rfl ?_; rintro _ rfl)
    try simp (maxSteps := 1000000) only [go_ret, go_ops_nil, go_op, opK_none, contK_some, callOf, fstep, fpre, fstep0, St.ev, St.put, List.getD_cons_zero, List.getD_cons_succ, List.set, true_and, Bool.true_and]
    apply hK
    simp only [Tryd.results11, retK, ares, Bool.and_true, Bool.true_and, AV.ofResults, St.trunc, truncVs, truncV, List.getD_cons_zero, List.getD_cons_succ, List.take_zero, List.map_nil, true_and, and_true, List.cons.injEq, exists_eq_left']
  · have c1 : (x.kind == 1) = false := by simp [hk]
    have c2 : (x.kind == 2) = false := by simp [hk]
    have c3 : (x.kind == 3) = false := by simp [hk]
    have c4 : (x.kind == 4) = false := by simp [hk]
    have c5 : (x.kind == 5) = false := by simp [hk]
    have c6 : (x.kind == 6) = false := by simp [hk]
    have c7 : (x.kind == 7) = true := by simp [hk]
    have c8 : (x.kind == 8) = false := by simp [hk]
    have c9 : (x.kind == 9) = false := by simp [hk]
    have hw : x.words = [quo x.user] := by unfold Opv.words; simp [hk]
    have hl : x.line = joinB spB [nmB x.kind, quo x.user] := by rw [Opv.line, if_neg (by omega), hw]
    rw [hl] at hK
    rw [hw] at hls
    try simp (maxSteps := 1000000) only [go_region, go_seq, go_cond, go_ops_nil, go_op, opK_none, opK_some, contK_some, condK_t, condK_f, callOf, callK_eq, callJ_nil, callD_fn, fstep, fpre, fstep0, fbinA, fbin, fbin0, fload, fcell, ffieldAddr, evs, T, TI.isAgg, St.ev, St.put, AV.owners, ownersAll, List.getD_cons_zero, List.getD_cons_succ, List.set, List.length_cons, List.length_nil, List.drop_succ_cons, List.drop_zero, List.headD_cons, List.append_nil, List.getElem?_cons_zero, List.getElem?_cons_succ, List.getElem?_toArray, true_and, Bool.true_and, Bool.false_eq_true, ↓reduceIte, reduceCtorEq, ne_eq, not_false_eq_true, Nat.reduceAdd, Nat.reduceLT, Nat.zero_add, c1, c2, c3, c4, c6, c7]
    (refine callG_use (op_quoted x.user (by omega)) rfl ?_; rintro _ rfl)
    try simp (maxSteps := 1000000) only [go_op, opK_none, opK_some, contK_some, undef, callOf, callK_eq, callJ_cons, fstep, fpre, fstep0, evParts, evOwners, fbuildSlice, evs, T, TI.isAgg, TI.zeroOk, TI.zav, setParts, partsOk, St.ev, St.put, St.shutAll, AV.cells, AV.known, AV.flat, AV.pure, AV.owners, ownersAll, Value.cells, Value.oneCell', List.getD_cons_zero, List.getD_cons_succ, List.set, List.map_cons, List.map_nil, List.length_cons, List.length_nil, List.all_cons, List.all_nil, List.headD_cons, List.cons_append, List.nil_append, List.append_nil, List.replicate, true_and, and_true, Bool.and_true, Bool.true_and, Bool.and_self, Bool.or_true, Bool.false_eq_true, ↓reduceIte, decide_true, Nat.reduceMul, Nat.reduceLeDiff, Nat.reduceLT, Nat.zero_le, Nat.zero_add]
    refine callO_shut ?_
    try simp (maxSteps := 1000000) only [callH_fn, evs, St.ev, St.shutAll, St.shut, shutV, shutVs, AB.shut, List.getD_cons_zero, List.getD_cons_succ, List.set, List.map_cons, List.map_nil, List.length_cons, List.length_nil, List.all_cons, List.all_nil, List.drop_zero, List.take_succ_cons, List.take_zero, List.append_nil, List.getElem?_cons_zero, List.getElem?_cons_succ, true_and, and_true, Bool.and_true, Bool.true_and, Bool.and_self, ↓reduceIte, decide_true, reduceCtorEq, Nat.reduceAdd, Nat.zero_le, Nat.le_refl, Nat.zero_add]
    (refine callG_use (op_words (nmB x.kind) [quo x.user] (by simp) (Nat.le_trans hls (by omega))) rfl ?_; rintro _ rfl)
    try simp (maxSteps := 1000000) only [go_ret, go_ops_nil, go_op, opK_none, contK_some, callOf, fstep, fpre, fstep0, St.ev, St.put, List.getD_cons_zero, List.getD_cons_succ, List.set, true_and, Bool.true_and]
    apply hK
    simp only [Tryd.results11, retK, ares, Bool.and_true, Bool.true_and, AV.ofResults, St.trunc, truncVs, truncV, List.getD_cons_zero, List.getD_cons_succ, List.take_zero, List.map_nil, true_and, and_true, List.cons.injEq, exists_eq_left']
  · have c1 : (x.kind == 1) = false := by simp [hk]
    have c2 : (x.kind == 2) = false := by simp [hk]
    have c3 : (x.kind == 3) = false := by simp [hk]
    have c4 : (x.kind == 4) = false := by simp [hk]
    have c5 : (x.kind == 5) = false := by simp [hk]
    have c6 : (x.kind == 6) = false := by simp [hk]
    have c7 : (x.kind == 7) = false := by simp [hk]
    have c8 : (x.kind == 8) = true := by simp [hk]
    have c9 : (x.kind == 9) = false := by simp [hk]
    have hw : x.words = [] := by unfold Opv.words; simp [hk]
    have hl : x.line = joinB spB [nmB x.kind] := by rw [Opv.line, if_neg (by omega), hw]
    rw [hl] at hK
    rw [hw] at hls
    try simp (maxSteps := 1000000) only [go_skip, go_region, go_seq, go_cond, go_ops_nil, go_op, opK_none, opK_some, contK_some, condK_t, condK_f, undef, callOf, callK_eq, callJ_cons, fstep, fpre, fstep0, fbinA, fbin, fbin0, evParts, evOwners, fbuildSlice, evs, T, TI.isAgg, TI.zeroOk, TI.zav, setParts, partsOk, St.ev, St.put, St.shutAll, AV.cells, AV.known, AV.flat, AV.pure, AV.owners, ownersAll, Value.cells, Value.oneCell', List.getD_cons_zero, List.getD_cons_succ, List.set, List.map_cons, List.map_nil, List.length_cons, List.length_nil, List.all_cons, List.all_nil, List.headD_cons, List.cons_append, List.nil_append, List.append_nil, List.replicate, true_and, and_true, Bool.and_true, Bool.true_and, Bool.and_self, Bool.or_true, Bool.false_eq_true, ↓reduceIte, decide_true, Nat.reduceMul, Nat.reduceLeDiff, Nat.reduceLT, Nat.zero_le, Nat.zero_add, c1, c2, c3, c4, c5, c6, c7, c8]
    refine callO_shut ?_
    try simp (maxSteps := 1000000) only [callH_fn, evs, St.ev, St.shutAll, St.shut, shutV, shutVs, AB.shut, List.getD_cons_zero, List.getD_cons_succ, List.set, List.map_cons, List.map_nil, List.length_cons, List.length_nil, List.all_cons, List.all_nil, List.drop_zero, List.take_succ_cons, List.take_zero, List.append_nil, List.getElem?_cons_zero, List.getElem?_cons_succ, true_and, and_true, Bool.and_true, Bool.true_and, Bool.and_self, ↓reduceIte, decide_true, reduceCtorEq, Nat.zero_le, Nat.le_refl, Nat.zero_add]
    (refine callG_use (op_words (nmB x.kind) [] (by simp) (Nat.le_trans hls (by omega))) rfl ?_; rintro _ rfl)
    try simp (maxSteps := 1000000) only [go_ret, go_ops_nil, go_op, opK_none, contK_some, callOf, fstep, fpre, fstep0, St.ev, St.put, List.getD_cons_zero, List.getD_cons_succ, List.set, true_and, Bool.true_and]
    apply hK
    simp only [Tryd.results11, retK, ares, Bool.and_true, Bool.true_and, AV.ofResults, St.trunc, truncVs, truncV, List.getD_cons_zero, List.getD_cons_succ, List.take_zero, List.map_nil, true_and, and_true, List.cons.injEq, exists_eq_left']
  · have c1 : (x.kind == 1) = false := by simp [hk]
    have c2 : (x.kind == 2) = false := by simp [hk]
    have c3 : (x.kind == 3) = false := by simp [hk]
    have c4 : (x.kind == 4) = false := by simp [hk]
    have c5 : (x.kind == 5) = false := by simp [hk]
    have c6 : (x.kind == 6) = false := by simp [hk]
    have c7 : (x.kind == 7) = false := by simp [hk]
    have c8 : (x.kind == 8) = false := by simp [hk]
    have c9 : (x.kind == 9) = true := by simp [hk]
    have hw : x.words = [] := by unfold Opv.words; simp [hk]
    have hl : x.line = joinB spB [nmB x.kind] := by rw [Opv.line, if_neg (by omega), hw]
    rw [hl] at hK
    rw [hw] at hls
    try simp (maxSteps := 1000000) only [go_region, go_seq, go_cond, go_ops_nil, go_op, opK_none, opK_some, contK_some, condK_t, condK_f, undef, callOf, callK_eq, callJ_cons, fstep, fpre, fstep0, fbinA, fbin, fbin0, evParts, evOwners, fbuildSlice, evs, T, TI.isAgg, TI.zeroOk, TI.zav, setParts, partsOk, St.ev, St.put, St.shutAll, AV.cells, AV.known, AV.flat, AV.pure, AV.owners, ownersAll, Value.cells, Value.oneCell', List.getD_cons_zero, List.getD_cons_succ, List.set, List.map_cons, List.map_nil, List.length_cons, List.length_nil, List.all_cons, List.all_nil, List.headD_cons, List.cons_append, List.nil_append, List.append_nil, List.replicate, true_and, and_true, Bool.and_true, Bool.true_and, Bool.and_self, Bool.or_true, Bool.false_eq_true, ↓reduceIte, decide_true, Nat.reduceMul, Nat.reduceLeDiff, Nat.reduceLT, Nat.zero_le, Nat.zero_add, c1, c2, c3, c4, c5, c6, c7, c8, c9]
    refine callO_shut ?_
    try simp (maxSteps := 1000000) only [callH_fn, evs, St.ev, St.shutAll, St.shut, shutV, shutVs, AB.shut, List.getD_cons_zero, List.getD_cons_succ, List.set, List.map_cons, List.map_nil, List.length_cons, List.length_nil, List.all_cons, List.all_nil, List.drop_zero, List.take_succ_cons, List.take_zero, List.append_nil, List.getElem?_cons_zero, List.getElem?_cons_succ, true_and, and_true, Bool.and_true, Bool.true_and, Bool.and_self, ↓reduceIte, decide_true, reduceCtorEq, Nat.zero_le, Nat.le_refl, Nat.zero_add]
    (refine callG_use (op_words (nmB x.kind) [] (by simp) (Nat.le_trans hls (by omega))) rfl ?_; rintro _ rfl)
    try simp (maxSteps := 1000000) only [go_ret, go_ops_nil, go_op, opK_none, contK_some, callOf, fstep, fpre, fstep0, St.ev, St.put, List.getD_cons_zero, List.getD_cons_succ, List.set, true_and, Bool.true_and]
    apply hK
    simp only [Tryd.results11, retK, ares, Bool.and_true, Bool.true_and, AV.ofResults, St.trunc, truncVs, truncV, List.getD_cons_zero, List.getD_cons_succ, List.take_zero, List.map_nil, true_and, and_true, List.cons.injEq, exists_eq_left']
  · have c1 : (x.kind == 1) = false := by simp; omega
    have c2 : (x.kind == 2) = false := by simp; omega
    have c3 : (x.kind == 3) = false := by simp; omega
    have c4 : (x.kind == 4) = false := by simp; omega
    have c5 : (x.kind == 5) = false := by simp; omega
    have c6 : (x.kind == 6) = false := by simp; omega
    have c7 : (x.kind == 7) = false := by simp; omega
    have c8 : (x.kind == 8) = false := by simp; omega
    have c9 : (x.kind == 9) = false := by simp; omega
    have hl : x.line = badB := by rw [Opv.line, if_pos hk]
    rw [hl] at hK
    try simp (maxSteps := 1000000) only [go_skip, go_region, go_seq, go_cond, go_blk, go_ret, go_ops_nil, go_op, opK_none, contK_some, condK_f, callOf, fstep, fpre, fstep0, fbinA, fbin, fbin0, St.ev, St.put, List.getD_cons_zero, List.getD_cons_succ, List.set, true_and, Bool.true_and, c1, c2, c3, c4, c5, c6, c7, c8, c9]
    apply hK
    simp only [Tryd.results11, retK, ares, Bool.and_true, Bool.true_and, AV.ofResults, St.trunc, truncVs, truncV, List.getD_cons_zero, List.getD_cons_succ, List.take_zero, List.map_nil, true_and, and_true, List.cons.injEq, exists_eq_left']
    rfl

theorem nm_get (k : Int) (h : 1 ≤ k) (h2 : k ≤ 9) : nmV.getD k.toNat .any = str (nmB k) := by
  rcases (by omega : k = 1 ∨ k = 2 ∨ k = 3 ∨ k = 4 ∨ k = 5 ∨ k = 6 ∨ k = 7 ∨ k = 8 ∨ k = 9) with rfl | rfl | rfl | rfl | rfl | rfl | rfl | rfl | rfl <;> rfl
theorem ref_Line (x : Opv) (h : x.ok) : PCall P 12 [x.av] (fun y => y = str x.line) := by
  have hls := x.line_size h
  have s0 := quo_size x.user
  have hu := h.user
  have sn := nmB_size x.kind
  have s1 := itB_size _ h.id
  have s2 := itB_size _ h.st
  have s3 := itB_size _ h.pr
  have s4 := dgt_size _ h.ttl
  have e1 : ByteArray.size spB = 1 := rfl
  refine pcall_go tyOk Tryd.func12 rfl rfl ?_
  intro K hK
  simp only [Tryd.ntmps12, List.length_cons, List.length_nil, Nat.reduceAdd, Nat.reduceSub, List.replicate, List.cons_append, List.nil_append]
  by_cases hb : x.kind < 1 ∨ 9 < x.kind
  · have hl : x.line = badB := by rw [Opv.line, if_pos hb]
    rw [hl] at hK
    by_cases h1 : x.kind < 1
    · have d1 : decide (x.kind < 1) = true := decide_eq_true h1
      try simp (maxSteps := 1000000) only [go_region, go_seq, go_cond, go_ret, go_ops_nil, go_op, go_guard, opK_none, contK_some, condK_t, guardK_eq, guardV_tf, undef, callOf, fstep, fpre, fstep0, fbinA, fbin, fbin0, fload, fcell, ffieldAddr, fpick, T, TI.isAgg, St.ev, St.put, AV.cells, AV.known, List.getD_cons_zero, List.getD_cons_succ, List.set, List.length_cons, List.length_nil, List.drop_zero, List.headD_cons, List.nil_append, List.getElem?_cons_zero, List.getElem?_cons_succ, Option.bind_some, List.getElem?_toArray, true_and, Bool.true_and, Bool.false_eq_true, ↓reduceIte, reduceCtorEq, ne_eq, not_false_eq_true, Nat.reduceAdd, Nat.reduceLT, Nat.add_zero, Nat.zero_add, d1]
      apply hK
      simp only [Tryd.results12, retK, ares, Bool.and_true, Bool.true_and, AV.ofResults, St.trunc, truncVs, truncV, List.getD_cons_zero, List.getD_cons_succ, List.take_zero, List.map_nil, true_and, and_true, List.cons.injEq, exists_eq_left']
      rfl
    · have d1 : decide (x.kind < 1) = false := decide_eq_false h1
      have d2 : decide (9 < x.kind) = true := decide_eq_true (by omega)
      have d2' : decide (x.kind > 9) = true := decide_eq_true (by omega)
      try simp (maxSteps := 1000000) only [go_region, go_seq, go_cond, go_ret, go_ops_nil, go_op, go_guard, opK_none, contK_some, condK_t, guardK_eq, guardV_ff, callOf, fstep, fpre, fstep0, fbinA, fbin, fbin0, fload, fcell, ffieldAddr, fpick, T, TI.isAgg, St.ev, St.put, AV.cells, AV.known, List.getD_cons_zero, List.getD_cons_succ, List.set, List.length_cons, List.length_nil, List.drop_zero, List.headD_cons, List.nil_append, List.getElem?_cons_zero, List.getElem?_cons_succ, Option.bind_some, List.getElem?_toArray, true_and, Bool.true_and, Bool.false_eq_true, ↓reduceIte, reduceCtorEq, ne_eq, not_false_eq_true, Nat.reduceAdd, Nat.reduceLT, Nat.add_zero, Nat.zero_add, cond_false, d1, d2]
      apply hK
      simp only [Tryd.results12, retK, ares, Bool.and_true, Bool.true_and, AV.ofResults, St.trunc, truncVs, truncV, List.getD_cons_zero, List.getD_cons_succ, List.take_zero, List.map_nil, true_and, and_true, List.cons.injEq, exists_eq_left']
      rfl
  · have d1 : decide (x.kind < 1) = false := decide_eq_false (by omega)
    have d2 : decide (9 < x.kind) = false := decide_eq_false (by omega)
    have d2' : decide (x.kind > 9) = false := decide_eq_false (by omega)
    have ng := nm_get x.kind (by omega) (by omega)
    have nb : (0 : Int) ≤ x.kind ∧ x.kind.toNat < 10 := by omega
    have nl : nmV.length = 10 := rfl
    have zu : ((ByteArray.size spB + (quo x.user).size : Nat) : Int) ≤ 9223372036854775807 := by omega
    try simp (maxSteps := 1000000) only [go_skip, go_region, go_seq, go_cond, go_draws, go_ops_nil, go_op, go_guard, opK_none, contK_some, condK_f, guardK_eq, guardV_ff, callOf, fstep, fpre, fstep0, fbinA, fbin, fbin0, fload, fcell, ffieldAddr, fpick, T, TI.isAgg, St.ev, St.put, AV.cells, AV.known, List.getD_cons_zero, List.getD_cons_succ, List.set, List.length_cons, List.length_nil, List.drop_zero, List.headD_cons, List.nil_append, List.getElem?_cons_zero, List.getElem?_cons_succ, Option.bind_some, List.getElem?_toArray, true_and, Bool.true_and, Bool.false_eq_true, ↓reduceIte, reduceCtorEq, ne_eq, not_false_eq_true, Nat.reduceAdd, Nat.reduceLT, Nat.add_zero, Nat.zero_add, cond_false, d1, d2]
    refine draw_rule tyOk (by rfl) (by simp only [List.length_cons, List.length_nil, Nat.reduceAdd, Nat.zero_le]) (by kernel_rfl) rfl ?_
    try simp (maxSteps := 1000000) only [callOf, newF, evs, St.ev, List.length_cons, List.length_nil, List.append_nil, List.replicate, Bool.false_eq_true, ↓reduceIte, Nat.add_zero, Nat.zero_add, newCount, drawR_op, drawP_some, drawH_fn, isNew]
    refine drawCall_use ref_Names rfl ?_
    try simp (maxSteps := 1000000) only [go_region, go_seq, go_op, opK_none, opK_some, contK_some, callOf, callK_eq, callJ_nil, callD_fn, fstep, fpre, fstep0, newF, fload, fcell, ffieldAddr, findexAddr, evs, T, TI.isAgg, St.ev, St.put, AV.cells, AV.known, AV.owners, ownersAll, Value.cells, List.getD_cons_zero, List.getD_cons_succ, List.set, List.map_cons, List.map_nil, List.length_cons, List.length_nil, List.drop_succ_cons, List.drop_zero, List.headD_cons, List.append_nil, List.getElem?_cons_zero, List.getElem?_cons_succ, List.getElem?_toArray, true_and, and_true, Bool.and_true, Bool.true_and, Bool.false_eq_true, ↓reduceIte, reduceCtorEq, ne_eq, not_false_eq_true, Nat.reduceAdd, Nat.reduceLT, Nat.add_zero, Nat.zero_add, drawR_nil, drawR_op, drawP_none, drawQ_some, dstep, isFree, St.app, bump, isNew, ng, nl, nb]
    refine ⟨by kernel_rfl, ?_⟩
    skip
    (refine callG_use (quote_call x.user (by omega)) rfl ?_; rintro _ rfl)
    try simp (maxSteps := 1000000) only [go_region, go_seq, go_cond, go_block, go_ops_nil, go_op, opK_none, contK_some, callOf, fstep, fpre, fstep0, fbinA, fbin, fbin0, fload, fcell, ffieldAddr, T, TI.isAgg, St.ev, St.put, List.getD_cons_zero, List.getD_cons_succ, List.set, List.length_cons, List.length_nil, List.drop_zero, List.headD_cons, List.getElem?_cons_zero, List.getElem?_toArray, true_and, Bool.true_and, Bool.false_eq_true, ↓reduceIte, reduceCtorEq, ne_eq, not_false_eq_true, Nat.reduceAdd, Nat.reduceLT, Nat.add_zero, Nat.zero_add, zu]
    rcases (by omega : x.kind = 1 ∨ x.kind = 2 ∨ x.kind = 3 ∨ x.kind = 4 ∨ x.kind = 5 ∨ x.kind = 6 ∨ x.kind = 7 ∨ x.kind = 8 ∨ x.kind = 9) with hk | hk | hk | hk | hk | hk | hk | hk | hk
    · have c1 : (x.kind == 1) = true := by simp [hk]
      have c2 : (x.kind == 2) = false := by simp [hk]
      have c3 : (x.kind == 3) = false := by simp [hk]
      have c4 : (x.kind == 4) = false := by simp [hk]
      have c5 : (x.kind == 5) = false := by simp [hk]
      have c6 : (x.kind == 6) = false := by simp [hk]
      have c7 : (x.kind == 7) = false := by simp [hk]
      have c8 : (x.kind == 8) = false := by simp [hk]
      have c9 : (x.kind == 9) = false := by simp [hk]
      have hw : x.words = [quo x.user, itB x.id, itB x.st, itB x.pr, dgt x.ttl] := by unfold Opv.words; simp [hk]
      have hl : x.line = joinB spB [nmB x.kind, quo x.user, itB x.id, itB x.st, itB x.pr, dgt x.ttl] := by rw [Opv.line, if_neg (by omega), hw]
      rw [hl] at hK
      have z0 : (((nmB x.kind).size + (ByteArray.size spB + (quo x.user).size) : Nat) : Int) ≤ 9223372036854775807 := by omega
      have z1 : (((nmB x.kind).size + (ByteArray.size spB + (quo x.user).size) + ByteArray.size spB : Nat) : Int) ≤ 9223372036854775807 := by omega
      have z2 : (((nmB x.kind).size + (ByteArray.size spB + (quo x.user).size) + ByteArray.size spB + (itB x.id).size : Nat) : Int) ≤ 9223372036854775807 := by omega
      have z3 : (((nmB x.kind).size + (ByteArray.size spB + (quo x.user).size) + ByteArray.size spB + (itB x.id).size + ByteArray.size spB : Nat) : Int) ≤ 9223372036854775807 := by omega
      have z4 : (((nmB x.kind).size + (ByteArray.size spB + (quo x.user).size) + ByteArray.size spB + (itB x.id).size + ByteArray.size spB + (itB x.st).size : Nat) : Int) ≤ 9223372036854775807 := by omega
      have z5 : (((nmB x.kind).size + (ByteArray.size spB + (quo x.user).size) + ByteArray.size spB + (itB x.id).size + ByteArray.size spB + (itB x.st).size + ByteArray.size spB : Nat) : Int) ≤ 9223372036854775807 := by omega
      have z6 : (((nmB x.kind).size + (ByteArray.size spB + (quo x.user).size) + ByteArray.size spB + (itB x.id).size + ByteArray.size spB + (itB x.st).size + ByteArray.size spB + (itB x.pr).size : Nat) : Int) ≤ 9223372036854775807 := by omega
      have z7 : (((nmB x.kind).size + (ByteArray.size spB + (quo x.user).size) + ByteArray.size spB + (itB x.id).size + ByteArray.size spB + (itB x.st).size + ByteArray.size spB + (itB x.pr).size + ByteArray.size spB : Nat) : Int) ≤ 9223372036854775807 := by omega
      have z8 : (((nmB x.kind).size + (ByteArray.size spB + (quo x.user).size) + ByteArray.size spB + (itB x.id).size + ByteArray.size spB + (itB x.st).size + ByteArray.size spB + (itB x.pr).size + ByteArray.size spB + (dgt x.ttl).size : Nat) : Int) ≤ 9223372036854775807 := by omega
      try simp (maxSteps := 1000000) only [go_seq, go_draws, condK_t, c1]
      refine draw_rule tyOk (by rfl) (by simp only [List.length_cons, List.length_nil, Nat.reduceAdd, Nat.zero_le]) (by kernel_rfl) rfl ?_
      try simp (maxSteps := 1000000) only [callOf, fstep0, fbinA, newF, fbin, fbin0, fload, fcell, ffieldAddr, evs, T, TI.isAgg, St.ev, St.put, List.getD_cons_zero, List.getD_cons_succ, List.set, List.length_cons, List.length_nil, List.drop_succ_cons, List.drop_zero, List.headD_cons, List.append_nil, List.getElem?_cons_zero, List.getElem?_cons_succ, List.replicate, List.getElem?_toArray, true_and, Bool.true_and, Bool.false_eq_true, ↓reduceIte, reduceCtorEq, ne_eq, not_false_eq_true, Nat.reduceAdd, Nat.reduceLT, Nat.add_zero, Nat.zero_add, newCount, drawR_op, drawP_none, drawP_some, drawQ_some, drawH_fn, dstep, isFree, St.app, bump, isNew, ByteArray.size_append, z0, z1]
      refine drawCall_use (ref_Int x.id h.id) rfl ?_
      try simp (maxSteps := 1000000) only [callOf, fstep0, fbinA, newF, fbin, fbin0, fload, fcell, ffieldAddr, evs, T, TI.isAgg, St.ev, St.put, List.getD_cons_zero, List.getD_cons_succ, List.set, List.length_cons, List.length_nil, List.drop_succ_cons, List.drop_zero, List.headD_cons, List.append_nil, List.getElem?_cons_zero, List.getElem?_cons_succ, List.getElem?_toArray, true_and, Bool.true_and, Bool.false_eq_true, ↓reduceIte, reduceCtorEq, ne_eq, not_false_eq_true, Nat.reduceAdd, Nat.reduceLT, Nat.zero_add, drawR_op, drawP_none, drawP_some, drawQ_some, drawH_fn, dstep, isFree, St.app, bump, isNew, ByteArray.size_append, z2, z3]
      refine drawCall_use (ref_Int x.st h.st) rfl ?_
      try simp (maxSteps := 1000000) only [callOf, fstep0, fbinA, newF, fbin, fbin0, fload, fcell, ffieldAddr, evs, T, TI.isAgg, St.ev, St.put, List.getD_cons_zero, List.getD_cons_succ, List.set, List.length_cons, List.length_nil, List.drop_succ_cons, List.drop_zero, List.headD_cons, List.append_nil, List.getElem?_cons_zero, List.getElem?_cons_succ, List.getElem?_toArray, true_and, Bool.true_and, Bool.false_eq_true, ↓reduceIte, reduceCtorEq, ne_eq, not_false_eq_true, Nat.reduceAdd, Nat.reduceLT, Nat.zero_add, drawR_op, drawP_none, drawP_some, drawQ_some, drawH_fn, dstep, isFree, St.app, bump, isNew, ByteArray.size_append, z4, z5]
      refine drawCall_use (ref_Int x.pr h.pr) rfl ?_
      try simp (maxSteps := 1000000) only [callOf, fstep0, fbinA, newF, fbin, fbin0, fload, fcell, ffieldAddr, evs, T, TI.isAgg, St.ev, St.put, List.getD_cons_zero, List.getD_cons_succ, List.set, List.length_cons, List.length_nil, List.drop_succ_cons, List.drop_zero, List.headD_cons, List.append_nil, List.getElem?_cons_zero, List.getElem?_cons_succ, List.getElem?_toArray, true_and, Bool.true_and, Bool.false_eq_true, ↓reduceIte, reduceCtorEq, ne_eq, not_false_eq_true, Nat.reduceAdd, Nat.reduceLT, Nat.zero_add, drawR_op, drawP_none, drawP_some, drawQ_some, drawH_fn, dstep, isFree, St.app, bump, isNew, ByteArray.size_append, z6, z7]
      refine drawCall_use (ref_Digits x.ttl h.ttl) rfl ?_
      try simp (maxSteps := 1000000) only [go_ret, callOf, fstep0, fbinA, newF, fbin, fbin0, St.ev, St.put, List.getD_cons_zero, List.getD_cons_succ, List.set, true_and, Bool.true_and, Bool.false_eq_true, ↓reduceIte, Nat.reduceAdd, drawR_nil, drawR_op, drawP_none, drawQ_some, dstep, isFree, St.app, bump, isNew, ByteArray.size_append, z8]
      refine ⟨by kernel_rfl, ?_⟩
      skip
      apply hK
      simp only [Tryd.results12, retK, ares, Bool.and_true, Bool.true_and, AV.ofResults, St.trunc, truncVs, truncV, List.getD_cons_zero, List.getD_cons_succ, List.take_zero, List.map_nil, true_and, and_true, List.cons.injEq, exists_eq_left']
      simp [joinB, ByteArray.append_assoc]
    · have c1 : (x.kind == 1) = false := by simp [hk]
      have c2 : (x.kind == 2) = true := by simp [hk]
      have c3 : (x.kind == 3) = false := by simp [hk]
      have c4 : (x.kind == 4) = false := by simp [hk]
      have c5 : (x.kind == 5) = false := by simp [hk]
      have c6 : (x.kind == 6) = false := by simp [hk]
      have c7 : (x.kind == 7) = false := by simp [hk]
      have c8 : (x.kind == 8) = false := by simp [hk]
      have c9 : (x.kind == 9) = false := by simp [hk]
      have hw : x.words = [quo x.user, itB x.id, dgt x.ttl] := by unfold Opv.words; simp [hk]
      have hl : x.line = joinB spB [nmB x.kind, quo x.user, itB x.id, dgt x.ttl] := by rw [Opv.line, if_neg (by omega), hw]
      rw [hl] at hK
      have z0 : (((nmB x.kind).size + (ByteArray.size spB + (quo x.user).size) : Nat) : Int) ≤ 9223372036854775807 := by omega
      have z1 : (((nmB x.kind).size + (ByteArray.size spB + (quo x.user).size) + ByteArray.size spB : Nat) : Int) ≤ 9223372036854775807 := by omega
      have z2 : (((nmB x.kind).size + (ByteArray.size spB + (quo x.user).size) + ByteArray.size spB + (itB x.id).size : Nat) : Int) ≤ 9223372036854775807 := by omega
      have z3 : (((nmB x.kind).size + (ByteArray.size spB + (quo x.user).size) + ByteArray.size spB + (itB x.id).size + ByteArray.size spB : Nat) : Int) ≤ 9223372036854775807 := by omega
      have z4 : (((nmB x.kind).size + (ByteArray.size spB + (quo x.user).size) + ByteArray.size spB + (itB x.id).size + ByteArray.size spB + (dgt x.ttl).size : Nat) : Int) ≤ 9223372036854775807 := by omega
      try simp (maxSteps := 1000000) only [go_region, go_seq, go_cond, go_draws, go_ops_nil, go_op, opK_none, contK_some, condK_t, condK_f, callOf, fstep, fpre, fstep0, fbinA, fbin, fbin0, St.ev, St.put, List.getD_cons_zero, List.getD_cons_succ, List.set, true_and, Bool.true_and, c1, c2]
      refine draw_rule tyOk (by rfl) (by simp only [List.length_cons, List.length_nil, Nat.reduceAdd, Nat.zero_le]) (by kernel_rfl) rfl ?_
      try simp (maxSteps := 1000000) only [callOf, fstep0, fbinA, newF, fbin, fbin0, fload, fcell, ffieldAddr, evs, T, TI.isAgg, St.ev, St.put, List.getD_cons_zero, List.getD_cons_succ, List.set, List.length_cons, List.length_nil, List.drop_succ_cons, List.drop_zero, List.headD_cons, List.append_nil, List.getElem?_cons_zero, List.getElem?_cons_succ, List.replicate, List.getElem?_toArray, true_and, Bool.true_and, Bool.false_eq_true, ↓reduceIte, reduceCtorEq, ne_eq, not_false_eq_true, Nat.reduceAdd, Nat.reduceLT, Nat.add_zero, Nat.zero_add, newCount, drawR_op, drawP_none, drawP_some, drawQ_some, drawH_fn, dstep, isFree, St.app, bump, isNew, ByteArray.size_append, z0, z1]
      refine drawCall_use (ref_Int x.id h.id) rfl ?_
      try simp (maxSteps := 1000000) only [callOf, fstep0, fbinA, newF, fbin, fbin0, fload, fcell, ffieldAddr, evs, T, TI.isAgg, St.ev, St.put, List.getD_cons_zero, List.getD_cons_succ, List.set, List.length_cons, List.length_nil, List.drop_succ_cons, List.drop_zero, List.headD_cons, List.append_nil, List.getElem?_cons_zero, List.getElem?_cons_succ, List.getElem?_toArray, true_and, Bool.true_and, Bool.false_eq_true, ↓reduceIte, reduceCtorEq, ne_eq, not_false_eq_true, Nat.reduceAdd, Nat.reduceLT, Nat.zero_add, drawR_op, drawP_none, drawP_some, drawQ_some, drawH_fn, dstep, isFree, St.app, bump, isNew, ByteArray.size_append, z2, z3]
      refine drawCall_use (ref_Digits x.ttl h.ttl) rfl ?_
      try simp (maxSteps := 1000000) only [go_ret, callOf, fstep0, fbinA, newF, fbin, fbin0, St.ev, St.put, List.getD_cons_zero, List.getD_cons_succ, List.set, true_and, Bool.true_and, Bool.false_eq_true, ↓reduceIte, Nat.reduceAdd, drawR_nil, drawR_op, drawP_none, drawQ_some, dstep, isFree, St.app, bump, isNew, ByteArray.size_append, z4]
      refine ⟨by kernel_rfl, ?_⟩
      skip
      apply hK
      simp only [Tryd.results12, retK, ares, Bool.and_true, Bool.true_and, AV.ofResults, St.trunc, truncVs, truncV, List.getD_cons_zero, List.getD_cons_succ, List.take_zero, List.map_nil, true_and, and_true, List.cons.injEq, exists_eq_left']
      simp [joinB, ByteArray.append_assoc]
    · have c1 : (x.kind == 1) = false := by simp [hk]
      have c2 : (x.kind == 2) = false := by simp [hk]
      have c3 : (x.kind == 3) = true := by simp [hk]
      have c4 : (x.kind == 4) = false := by simp [hk]
      have c5 : (x.kind == 5) = false := by simp [hk]
      have c6 : (x.kind == 6) = false := by simp [hk]
      have c7 : (x.kind == 7) = false := by simp [hk]
      have c8 : (x.kind == 8) = false := by simp [hk]
      have c9 : (x.kind == 9) = false := by simp [hk]
      have hw : x.words = [quo x.user, itB x.id] := by unfold Opv.words; simp [hk]
      have hl : x.line = joinB spB [nmB x.kind, quo x.user, itB x.id] := by rw [Opv.line, if_neg (by omega), hw]
      rw [hl] at hK
      have z0 : (((nmB x.kind).size + (ByteArray.size spB + (quo x.user).size) : Nat) : Int) ≤ 9223372036854775807 := by omega
      have z1 : (((nmB x.kind).size + (ByteArray.size spB + (quo x.user).size) + ByteArray.size spB : Nat) : Int) ≤ 9223372036854775807 := by omega
      have z2 : (((nmB x.kind).size + (ByteArray.size spB + (quo x.user).size) + ByteArray.size spB + (itB x.id).size : Nat) : Int) ≤ 9223372036854775807 := by omega
      try simp (maxSteps := 1000000) only [go_region, go_seq, go_cond, go_ops_nil, go_op, opK_none, opK_some, contK_some, condK_t, condK_f, callOf, callK_eq, callJ_nil, callD_fn, fstep, fpre, fstep0, fbinA, fbin, fbin0, fload, fcell, ffieldAddr, evs, T, TI.isAgg, St.ev, St.put, AV.owners, ownersAll, List.getD_cons_zero, List.getD_cons_succ, List.set, List.length_cons, List.length_nil, List.drop_succ_cons, List.drop_zero, List.headD_cons, List.append_nil, List.getElem?_cons_zero, List.getElem?_cons_succ, List.getElem?_toArray, true_and, Bool.true_and, Bool.false_eq_true, ↓reduceIte, reduceCtorEq, ne_eq, not_false_eq_true, Nat.reduceAdd, Nat.reduceLT, Nat.zero_add, c1, c2, c3, ByteArray.size_append, z0, z1]
      (refine callG_use (ref_Int x.id h.id) rfl ?_; rintro _ rfl)
      try simp (maxSteps := 1000000) only [go_ret, go_ops_nil, go_op, opK_none, contK_some, callOf, fstep, fpre, fstep0, fbinA, fbin, fbin0, St.ev, St.put, List.getD_cons_zero, List.getD_cons_succ, List.set, true_and, Bool.true_and, ByteArray.size_append, z2]
      apply hK
      simp only [Tryd.results12, retK, ares, Bool.and_true, Bool.true_and, AV.ofResults, St.trunc, truncVs, truncV, List.getD_cons_zero, List.getD_cons_succ, List.take_zero, List.map_nil, true_and, and_true, List.cons.injEq, exists_eq_left']
      simp [joinB, ByteArray.append_assoc]
    · have c1 : (x.kind == 1) = false := by simp [hk]
      have c2 : (x.kind == 2) = false := by simp [hk]
      have c3 : (x.kind == 3) = false := by simp [hk]
      have c4 : (x.kind == 4) = true := by simp [hk]
      have c5 : (x.kind == 5) = false := by simp [hk]
      have c6 : (x.kind == 6) = false := by simp [hk]
      have c7 : (x.kind == 7) = false := by simp [hk]
      have c8 : (x.kind == 8) = false := by simp [hk]
      have c9 : (x.kind == 9) = false := by simp [hk]
      have hw : x.words = [quo x.user] := by unfold Opv.words; simp [hk]
      have hl : x.line = joinB spB [nmB x.kind, quo x.user] := by rw [Opv.line, if_neg (by omega), hw]
      rw [hl] at hK
      have z0 : (((nmB x.kind).size + (ByteArray.size spB + (quo x.user).size) : Nat) : Int) ≤ 9223372036854775807 := by omega
      try simp (maxSteps := 1000000) only [go_skip, go_region, go_seq, go_cond, go_ret, go_ops_nil, go_op, opK_none, contK_some, condK_t, condK_f, callOf, fstep, fpre, fstep0, fbinA, fbin, fbin0, St.ev, St.put, List.getD_cons_zero, List.getD_cons_succ, List.set, true_and, Bool.true_and, c1, c2, c3, c4, ByteArray.size_append, z0]
      apply hK
      simp only [Tryd.results12, retK, ares, Bool.and_true, Bool.true_and, AV.ofResults, St.trunc, truncVs, truncV, List.getD_cons_zero, List.getD_cons_succ, List.take_zero, List.map_nil, true_and, and_true, List.cons.injEq, exists_eq_left']
      simp [joinB, ByteArray.append_assoc]
    · have c1 : (x.kind == 1) = false := by simp [hk]
      have c2 : (x.kind == 2) = false := by simp [hk]
      have c3 : (x.kind == 3) = false := by simp [hk]
      have c4 : (x.kind == 4) = false := by simp [hk]
      have c5 : (x.kind == 5) = true := by simp [hk]
      have c6 : (x.kind == 6) = false := by simp [hk]
      have c7 : (x.kind == 7) = false := by simp [hk]
      have c8 : (x.kind == 8) = false := by simp [hk]
      have c9 : (x.kind == 9) = false := by simp [hk]
      have hw : x.words = x.users.map quo := by unfold Opv.words; simp [hk]
      have hl : x.line = joinB spB (nmB x.kind :: x.users.map quo) := by rw [Opv.line, if_neg (by omega), hw]
      rw [hl] at hK
      have hn := h.len
      have hw2 := x.words_size h
      rw [hw] at hw2 hls
      try simp (maxSteps := 1000000) only [go_region, go_seq, go_cond, go_block, go_loop, go_ops_nil, go_op, opK_none, contK_some, condK_t, condK_f, callOf, fstep, fpre, fstep0, fbinA, fbin, fbin0, St.ev, St.put, List.getD_cons_zero, List.getD_cons_succ, List.set, true_and, Bool.true_and, c1, c2, c3, c4, c5, c6, c7]
      refine loopK_rule tyOk (α := Nat) 1 [1, 3, 5] (fun i => i ≤ x.users.length)
        (fun i => ⟨[.any, .ptr 0 0, .any, str (joinB spB (nmB x.kind :: (x.users.take i).map quo)), .any, i64 i, .any, .any, .any, .any, .any, .any, .any, .any, .any, .any, .any, .any, .any, .any, .any, .any, .any, .any, .any, .any, .any, .any, .any, .any, .any, .any, .any, .any, .any, .any, .any, .any, .any, .any, .any, .any, .any, .any, .any, .any, .any, .any, .any, .any, .any, .any, .any, .any, .any, .any, .any, .any, .any, .any, .any, .any, .any, .any, .any, .any, .any, .any, .any, .any, .any, .any, .any, .any, .any, .any, .any, .any, .any, .any, .any, .any, .any, .any, .any, .any, .any, .any, .any, .any, .any, .any, .any, .any, .any, .any, .any, .any, .any, .any, .any], [.box x.cells]⟩)
        (fun i => x.users.length - i) 0 (by simp) (Nat.zero_le _) rfl ?_
      intro i hi
      try simp (maxSteps := 1000000) only [go_region, go_seq, go_cond, go_ops_nil, go_op, opK_none, contK_some, callOf, fstep, fpre, fstep0, fbinA, fbin, fbin0, fload, fcell, ffieldAddr, flen, T, TI.isAgg, St.ev, St.put, List.getD_cons_zero, List.getD_cons_succ, List.set, List.length_cons, List.length_nil, List.drop_succ_cons, List.drop_zero, List.headD_cons, List.getElem?_cons_zero, List.getElem?_cons_succ, List.getElem?_toArray, true_and, Bool.true_and, Bool.false_eq_true, ↓reduceIte, reduceCtorEq, ne_eq, not_false_eq_true, Nat.reduceLT, Nat.zero_add, strs_len]
      (first | refine guardV_split ?_ ?_ | refine condK_split ?_ ?_ | refine drawV_split ?_ ?_ | refine condY_split ?_ ?_ | refine guardY_split ?_ ?_) <;> intro hf <;> try simp (maxSteps := 1000000) only [go_skip, go_region, go_seq, go_block, go_blk, go_exit, go_ret, exitK_code, exitK_blk, exitK_nil, go_ops_nil, go_op, opK_none, opK_some, contK_some, condK_t, condK_f, callOf, callK_eq, fstep, fpre, fstep0, fbinA, fbin, fbin0, fload, fcell, ffieldAddr, findexAddr, evs, T, TI.isAgg, St.ev, St.put, AV.cells, AV.known, ownersAll, Value.cells, List.getD_cons_zero, List.getD_cons_succ, List.set, List.length_cons, List.length_nil, List.drop_succ_cons, List.drop_zero, List.headD_cons, List.append_nil, List.getElem?_cons_zero, List.getElem?_cons_succ, List.getElem?_toArray, true_and, Bool.true_and, Bool.false_eq_true, ↓reduceIte, reduceCtorEq, ne_eq, not_false_eq_true, Nat.reduceLT, Nat.zero_add, loopX_exit]
      · have hlt : i < x.users.length := by simpa using hf
        have eg := strs_get hlt
        have ew : IntKind.i64.wrap ((i : Int) + 1) = ((i + 1 : Nat) : Int) := by rw [wrap_i64 (by omega) (by omega)]; rfl
        have b1 : (0 : Int) ≤ (i : Int) ∧ Int.toNat (i : Int) < x.users.length := by omega
        have hq := h.users x.users[i] (List.getElem_mem _)
        have hq2 := quo_size x.users[i]
        have hj : (joinB spB (nmB x.kind :: (x.users.take i).map quo)).size ≤ 21 * 403 := by
          have h1 := joinB_size 402 (nmB x.kind) ((x.users.take i).map quo) (fun y hy => by
            rcases List.mem_cons.1 hy with rfl | hy
            · omega
            · obtain ⟨z, hz, rfl⟩ := List.mem_map.1 hy
              exact hw2 _ (List.mem_map_of_mem (List.mem_of_mem_take hz)))
          refine Nat.le_trans h1 (Nat.mul_le_mul_right _ ?_)
          rw [List.length_map, List.length_take]
          omega
        have z1 : (((joinB spB (nmB x.kind :: (x.users.take i).map quo)).size + ByteArray.size spB : Nat) : Int) ≤ 9223372036854775807 := by omega
        have z2 : (((joinB spB (nmB x.kind :: (x.users.take i).map quo)).size + ByteArray.size spB + (quo x.users[i]).size : Nat) : Int) ≤ 9223372036854775807 := by omega
        try simp (maxSteps := 1000000) only [callJ_nil, callD_fn, evs, St.ev, AV.owners, List.getD_cons_zero, List.getD_cons_succ, List.map_cons, List.map_nil, List.length_cons, List.length_nil, List.headD_cons, List.append_nil, true_and, and_true, Bool.and_true, Bool.true_and, Nat.reduceLT, Nat.zero_add, eg, b1, strs_len, z1]
        (refine callG_use (quote_call x.users[i] (by omega)) rfl ?_; rintro _ rfl)
        try simp (maxSteps := 1000000) only [go_nil, go_region, go_blk, go_ops_nil, go_op, opK_none, contK_some, callOf, fstep, fpre, fstep0, fbinA, fbin, fbin0, St.ev, St.put, List.getD_cons_zero, List.getD_cons_succ, List.set, true_and, Bool.true_and, ew, ByteArray.size_append, z2]
        simp only [loopX_normal, St.trunc, St.keep, truncVs, truncV, AB.trunc, keepV, List.elem_cons, List.elem_nil, List.take_succ_cons, List.take_zero, List.map_cons, List.map_nil, Nat.reduceAdd, Nat.reduceBEq, Nat.reduceLeDiff, Nat.zero_add, Bool.false_eq_true, ↓reduceIte]
        exact ⟨i + 1, hlt, by omega, by rw [List.take_succ_eq_append_getElem hlt, List.map_append, List.map_cons, List.map_nil, joinB_snoc]⟩
      · obtain rfl : i = x.users.length := by have := of_decide_eq_false hf; omega
        rw [List.take_length]
        apply hK
        simp only [Tryd.results12, retK, ares, Bool.and_true, Bool.true_and, AV.ofResults, St.trunc, truncVs, truncV, List.getD_cons_zero, List.getD_cons_succ, List.take_zero, List.map_nil, true_and, and_true, List.cons.injEq, exists_eq_left']
    · have c1 : (x.kind == 1) = false := by simp [hk]
      have c2 : (x.kind == 2) = false := by simp [hk]
      have c3 : (x.kind == 3) = false := by simp [hk]
      have c4 : (x.kind == 4) = false := by simp [hk]
      have c5 : (x.kind == 5) = false := by simp [hk]
      have c6 : (x.kind == 6) = true := by simp [hk]
      have c7 : (x.kind == 7) = false := by simp [hk]
      have c8 : (x.kind == 8) = false := by simp [hk]
      have c9 : (x.kind == 9) = false := by simp [hk]
      have hw : x.words = [quo x.user] := by unfold Opv.words; simp [hk]
      have hl : x.line = joinB spB [nmB x.kind, quo x.user] := by rw [Opv.line, if_neg (by omega), hw]
      rw [hl] at hK
      have z0 : (((nmB x.kind).size + (ByteArray.size spB + (quo x.user).size) : Nat) : Int) ≤ 9223372036854775807 := by omega
      try simp (maxSteps := 1000000) only [go_skip, go_region, go_seq, go_cond, go_ret, go_ops_nil, go_op, opK_none, contK_some, condK_t, condK_f, callOf, fstep, fpre, fstep0, fbinA, fbin, fbin0, St.ev, St.put, List.getD_cons_zero, List.getD_cons_succ, List.set, true_and, Bool.true_and, c1, c2, c3, c4, c6, ByteArray.size_append, z0]
      apply hK
      simp only [Tryd.results12, retK, ares, Bool.and_true, Bool.true_and, AV.ofResults, St.trunc, truncVs, truncV, List.getD_cons_zero, List.getD_cons_succ, List.take_zero, List.map_nil, true_and, and_true, List.cons.injEq, exists_eq_left']
      simp [joinB, ByteArray.append_assoc]
    · have c1 : (x.kind == 1) = false := by simp [hk]
      have c2 : (x.kind == 2) = false := by simp [hk]
      have c3 : (x.kind == 3) = false := by simp [hk]
      have c4 : (x.kind == 4) = false := by simp [hk]
      have c5 : (x.kind == 5) = false := by simp [hk]
      have c6 : (x.kind == 6) = false := by simp [hk]
      have c7 : (x.kind == 7) = true := by simp [hk]
      have c8 : (x.kind == 8) = false := by simp [hk]
      have c9 : (x.kind == 9) = false := by simp [hk]
      have hw : x.words = [quo x.user] := by unfold Opv.words; simp [hk]
      have hl : x.line = joinB spB [nmB x.kind, quo x.user] := by rw [Opv.line, if_neg (by omega), hw]
      rw [hl] at hK
      have z0 : (((nmB x.kind).size + (ByteArray.size spB + (quo x.user).size) : Nat) : Int) ≤ 9223372036854775807 := by omega
      try simp (maxSteps := 1000000) only [go_region, go_seq, go_cond, go_ret, go_ops_nil, go_op, opK_none, contK_some, condK_t, condK_f, callOf, fstep, fpre, fstep0, fbinA, fbin, fbin0, St.ev, St.put, List.getD_cons_zero, List.getD_cons_succ, List.set, true_and, Bool.true_and, c1, c2, c3, c4, c6, c7, ByteArray.size_append, z0]
      apply hK
      simp only [Tryd.results12, retK, ares, Bool.and_true, Bool.true_and, AV.ofResults, St.trunc, truncVs, truncV, List.getD_cons_zero, List.getD_cons_succ, List.take_zero, List.map_nil, true_and, and_true, List.cons.injEq, exists_eq_left']
      simp [joinB, ByteArray.append_assoc]
    · have c1 : (x.kind == 1) = false := by simp [hk]
      have c2 : (x.kind == 2) = false := by simp [hk]
      have c3 : (x.kind == 3) = false := by simp [hk]
      have c4 : (x.kind == 4) = false := by simp [hk]
      have c5 : (x.kind == 5) = false := by simp [hk]
      have c6 : (x.kind == 6) = false := by simp [hk]
      have c7 : (x.kind == 7) = false := by simp [hk]
      have c8 : (x.kind == 8) = true := by simp [hk]
      have c9 : (x.kind == 9) = false := by simp [hk]
      have hw : x.words = [] := by unfold Opv.words; simp [hk]
      have hl : x.line = joinB spB [nmB x.kind] := by rw [Opv.line, if_neg (by omega), hw]
      rw [hl] at hK
      try simp (maxSteps := 1000000) only [go_skip, go_region, go_seq, go_cond, go_blk, go_ret, go_ops_nil, go_op, opK_none, contK_some, condK_f, callOf, fstep, fpre, fstep0, fbinA, fbin, fbin0, St.ev, St.put, List.getD_cons_zero, List.getD_cons_succ, List.set, true_and, Bool.true_and, c1, c2, c3, c4, c5, c6, c7]
      apply hK
      simp only [Tryd.results12, retK, ares, Bool.and_true, Bool.true_and, AV.ofResults, St.trunc, truncVs, truncV, List.getD_cons_zero, List.getD_cons_succ, List.take_zero, List.map_nil, true_and, and_true, List.cons.injEq, exists_eq_left']
      simp [joinB, ByteArray.append_assoc]
    · have c1 : (x.kind == 1) = false := by simp [hk]
      have c2 : (x.kind == 2) = false := by simp [hk]
      have c3 : (x.kind == 3) = false := by simp [hk]
      have c4 : (x.kind == 4) = false := by simp [hk]
      have c5 : (x.kind == 5) = false := by simp [hk]
      have c6 : (x.kind == 6) = false := by simp [hk]
      have c7 : (x.kind == 7) = false := by simp [hk]
      have c8 : (x.kind == 8) = false := by simp [hk]
      have c9 : (x.kind == 9) = true := by simp [hk]
      have hw : x.words = [] := by unfold Opv.words; simp [hk]
      have hl : x.line = joinB spB [nmB x.kind] := by rw [Opv.line, if_neg (by omega), hw]
      rw [hl] at hK
      try simp (maxSteps := 1000000) only [go_skip, go_region, go_seq, go_cond, go_blk, go_ret, go_ops_nil, go_op, opK_none, contK_some, condK_f, callOf, fstep, fpre, fstep0, fbinA, fbin, fbin0, St.ev, St.put, List.getD_cons_zero, List.getD_cons_succ, List.set, true_and, Bool.true_and, c1, c2, c3, c4, c5, c6, c7]
      apply hK
      simp only [Tryd.results12, retK, ares, Bool.and_true, Bool.true_and, AV.ofResults, St.trunc, truncVs, truncV, List.getD_cons_zero, List.getD_cons_succ, List.take_zero, List.map_nil, true_and, and_true, List.cons.injEq, exists_eq_left']
      simp [joinB, ByteArray.append_assoc]
end Go.Proofs.YtinkcffklomneaaDoor
