/- Package op: digits, quoted, words, Name, Presence; the document's Digits, Int, Names, Presence. -/
import Derived.Test.YtinkcffklomneaaDoorMa
namespace Go.Proofs.YtinkcffklomneaaDoor
open Go Go.Proofs.YtinkcffklomneaaDoor.Sym
set_option maxRecDepth 100000
set_option linter.unusedSimpArgs false
set_option linter.unusedVariables false
abbrev u8 (n : Int) : AV := .v (.int .u8 n)
abbrev u64 (n : Int) : AV := .v (.int .u64 n)
abbrev i64 (n : Int) : AV := .v (.int .i64 n)
abbrev bool (b : Bool) : AV := .v (.bool b)
abbrev str (s : ByteArray) : AV := .v (.string s)
abbrev strs (l : List ByteArray) : List AV := l.map fun s => str s
theorem wrap_i64 {n : Int} (h1 : -9223372036854775808 ≤ n) (h2 : n ≤ 9223372036854775807) : IntKind.i64.wrap n = n := by rw [IntKind.wrap_i64]; omega
theorem wrap_u64 {n : Int} (h1 : 0 ≤ n) (h2 : n ≤ 18446744073709551615) : IntKind.u64.wrap n = n := by rw [IntKind.wrap_u64]; omega
theorem dgt_size (n : Nat) (h : n < 18446744073709551616) : (dgt n).size ≤ 20 := by
  have h1 : (dgt n).size = Lib.nDigits n := by rw [← Lib.decDigits_length]; simp [dgt, ByteArray.size]
  rw [h1]
  by_cases h0 : n < 10
  · rw [Lib.nDigits_small h0]; omega
  · have := Lib.numDigits_eq n (by omega) h
    split at this <;> omega
def In64 (n : Int) : Prop := -9223372036854775808 ≤ n ∧ n ≤ 9223372036854775807
/-- Any number's digits. -/
def itB (n : Int) : ByteArray := if n < 0 then ⟨#[45]⟩ ++ dgt n.natAbs else dgt n.toNat

theorem op_quoted (s : ByteArray) (hs : 10 * s.size + 12 ≤ 140737488355328) : PCall P 22 [str s] (fun x => x = str (quo s)) := by
  refine pcall_go tyOk Tryd.func22 rfl rfl ?_
  intro K hK
  simp only [Tryd.ntmps22, List.length_cons, List.length_nil, Nat.reduceAdd, Nat.reduceSub, List.replicate, List.cons_append, List.nil_append]
  try simp (maxSteps := 1000000) only [go_region, go_seq, go_ops_nil, go_op, opK_none, opK_some, contK_some, callOf, callK_eq, callJ_nil, callD_fn, fstep, fpre, fstep0, evs, St.ev, St.put, AV.owners, ownersAll, List.getD_cons_zero, List.getD_cons_succ, List.set, List.append_nil, true_and, Bool.true_and]
  (refine callG_use (quote_call s hs) rfl ?_; rintro _ rfl)
  try simp (maxSteps := 1000000) only [go_ret, go_ops_nil, go_op, opK_none, contK_some, callOf, fstep, fpre, fstep0, St.ev, St.put, List.getD_cons_zero, List.getD_cons_succ, List.set, true_and, Bool.true_and]
  apply hK
  simp only [Tryd.results22, retK, ares, List.take_nil, Bool.and_true, Bool.true_and, AV.ofResults, St.trunc, truncVs, truncV, List.getD_cons_zero, List.getD_cons_succ, List.map_nil, true_and, and_true, List.cons.injEq, exists_eq_left']

theorem op_words (x : ByteArray) (xs : List ByteArray) (hN : (x :: xs).length ≤ 140737488355328) (hlen : (joinB ⟨#[32]⟩ (x :: xs)).size ≤ 281474976710656) :
    PCall P 21 [.sl 1 (strs (x :: xs))] (fun y => y = str (joinB ⟨#[32]⟩ (x :: xs))) := by
  refine pcall_go tyOk Tryd.func21 rfl rfl ?_
  intro K hK
  simp only [Tryd.ntmps21, List.length_cons, List.length_nil, Nat.reduceAdd, Nat.reduceSub, List.replicate, List.cons_append, List.nil_append]
  try simp (maxSteps := 1000000) only [go_region, go_seq, go_ops_nil, go_op, opK_none, opK_some, contK_some, callOf, callK_eq, callJ_nil, callD_fn, fstep, fpre, fstep0, evs, St.ev, St.put, AV.owners, ownersAll, List.getD_cons_zero, List.getD_cons_succ, List.set, List.map_cons, List.append_nil, true_and, Bool.true_and]
  (refine callG_use (join_call x xs ⟨#[32]⟩ hN hlen) rfl ?_; rintro _ rfl)
  try simp (maxSteps := 1000000) only [go_ret, go_ops_nil, go_op, opK_none, contK_some, callOf, fstep, fpre, fstep0, St.ev, St.put, List.getD_cons_zero, List.getD_cons_succ, List.set, true_and, Bool.true_and]
  apply hK
  simp only [Tryd.results21, retK, ares, List.take_nil, Bool.and_true, Bool.true_and, AV.ofResults, St.trunc, truncVs, truncV, List.getD_cons_zero, List.getD_cons_succ, List.map_nil, true_and, and_true, List.cons.injEq, exists_eq_left']

theorem op_digitsU (n : Nat) (h : n < 18446744073709551616) : PCall P 24 [u64 n] (fun x => x = str (dgt n)) := by
  refine pcall_go tyOk Tryd.func24 rfl rfl ?_
  intro K hK
  simp only [Tryd.ntmps24, List.length_cons, List.length_nil, Nat.reduceAdd, Nat.reduceSub, List.replicate, List.cons_append, List.nil_append]
  have c : decide ((n : Int) < 0) = false := decide_eq_false (by omega)
  try simp (maxSteps := 1000000) only [go_skip, go_region, go_seq, go_cond, go_ops_nil, go_op, opK_none, opK_some, contK_some, condK_f, callOf, callK_eq, callJ_nil, callD_fn, fstep, fpre, fstep0, fbinA, fbin, fbin0, evs, St.ev, St.put, AV.owners, ownersAll, List.getD_cons_zero, List.getD_cons_succ, List.set, List.append_nil, true_and, Bool.true_and, c]
  (refine callG_use (fmt_call n h) rfl ?_; rintro _ rfl)
  try simp (maxSteps := 1000000) only [go_ret, go_ops_nil, go_op, opK_none, contK_some, callOf, fstep, fpre, fstep0, St.ev, St.put, List.getD_cons_zero, List.getD_cons_succ, List.set, true_and, Bool.true_and]
  apply hK
  simp only [Tryd.results24, retK, ares, List.take_nil, Bool.and_true, Bool.true_and, AV.ofResults, St.trunc, truncVs, truncV, List.getD_cons_zero, List.getD_cons_succ, List.map_nil, true_and, and_true, List.cons.injEq, exists_eq_left']

theorem op_digits (n : Int) (h : In64 n) : PCall P 23 [i64 n] (fun x => x = str (itB n)) := by
  obtain ⟨h1, h2⟩ := h
  refine pcall_go tyOk Tryd.func23 rfl rfl ?_
  intro K hK
  simp only [Tryd.ntmps23, List.length_cons, List.length_nil, Nat.reduceAdd, Nat.reduceSub, List.replicate, List.cons_append, List.nil_append]
  by_cases hn : n < 0
  · have c : decide (n < 0) = true := decide_eq_true hn
    have ew : IntKind.u64.wrap (0 - IntKind.u64.wrap n) = ((n.natAbs : Nat) : Int) := by rw [IntKind.wrap_u64, IntKind.wrap_u64]; omega
    have he : itB n = ⟨#[45]⟩ ++ dgt n.natAbs := by rw [itB, if_pos hn]
    have hz : ((ByteArray.size ⟨#[45]⟩ + (dgt n.natAbs).size : Nat) : Int) ≤ 9223372036854775807 := by
      have h1 := dgt_size n.natAbs (by omega)
      have h2 : ByteArray.size ⟨#[45]⟩ = 1 := rfl
      omega
    try simp (maxSteps := 1000000) only [go_region, go_seq, go_cond, go_ops_nil, go_op, opK_none, opK_some, contK_some, condK_t, callOf, callK_eq, callJ_nil, callD_fn, fstep, fpre, fstep0, fbinA, fbin, fbin0, funary, fconvA, fconvert, evs, T, St.ev, St.put, AV.owners, ownersAll, List.getD_cons_zero, List.getD_cons_succ, List.set, List.append_nil, true_and, Bool.true_and, c, ew]
    (refine callG_use (fmt_call n.natAbs (by omega)) rfl ?_; rintro _ rfl)
    try simp (maxSteps := 1000000) only [go_ret, go_ops_nil, go_op, opK_none, contK_some, callOf, fstep, fpre, fstep0, fbinA, fbin, fbin0, St.ev, St.put, List.getD_cons_zero, List.getD_cons_succ, List.set, true_and, Bool.true_and, hz]
    rw [he] at hK
    apply hK
    simp only [Tryd.results23, retK, ares, List.take_nil, Bool.and_true, Bool.true_and, AV.ofResults, St.trunc, truncVs, truncV, List.getD_cons_zero, List.getD_cons_succ, List.map_nil, true_and, and_true, List.cons.injEq, exists_eq_left']
  · have c : decide (n < 0) = false := decide_eq_false hn
    have ew : IntKind.u64.wrap n = ((n.toNat : Nat) : Int) := by rw [IntKind.wrap_u64]; omega
    have he : itB n = dgt n.toNat := by rw [itB, if_neg hn]
    try simp (maxSteps := 1000000) only [go_skip, go_region, go_seq, go_cond, go_ops_nil, go_op, opK_none, opK_some, contK_some, condK_f, callOf, callK_eq, callJ_nil, callD_fn, fstep, fpre, fstep0, fbinA, fbin, fbin0, fconvA, fconvert, evs, T, St.ev, St.put, AV.owners, ownersAll, List.getD_cons_zero, List.getD_cons_succ, List.set, List.append_nil, true_and, Bool.true_and, c, ew]
    (refine callG_use (fmt_call n.toNat (by omega)) rfl ?_; rintro _ rfl)
    try simp (maxSteps := 1000000) only [go_ret, go_ops_nil, go_op, opK_none, contK_some, callOf, fstep, fpre, fstep0, St.ev, St.put, List.getD_cons_zero, List.getD_cons_succ, List.set, true_and, Bool.true_and]
    rw [he] at hK
    apply hK
    simp only [Tryd.results23, retK, ares, List.take_nil, Bool.and_true, Bool.true_and, AV.ofResults, St.trunc, truncVs, truncV, List.getD_cons_zero, List.getD_cons_succ, List.map_nil, true_and, and_true, List.cons.injEq, exists_eq_left']

theorem strOf_dgt (n : Nat) (h : n < 10) : strOf [u8 (IntKind.u8.wrap (IntKind.u64.wrap (48 + (n : Int))))] = dgt n := by
  rw [dgt, Lib.decDigits_one h]
  rcases (by omega : n = 0 ∨ n = 1 ∨ n = 2 ∨ n = 3 ∨ n = 4 ∨ n = 5 ∨ n = 6 ∨ n = 7 ∨ n = 8 ∨ n = 9) with rfl | rfl | rfl | rfl | rfl | rfl | rfl | rfl | rfl | rfl <;> rfl

theorem ref_Digits (n : Nat) (h : n < 18446744073709551616) : PCall P 27 [u64 n] (fun x => x = str (dgt n)) := by
  induction n using Nat.strongRecOn with
  | _ n ih =>
    refine pcall_go tyOk Tryd.func27 rfl rfl ?_
    intro K hK
    simp only [Tryd.ntmps27, List.length_cons, List.length_nil, Nat.reduceAdd, Nat.reduceSub, List.replicate, List.cons_append, List.nil_append]
    by_cases hn : n < 10
    · have c : decide ((n : Int) < 10) = true := decide_eq_true (by omega)
      try simp (maxSteps := 1000000) only [go_region, go_seq, go_cond, go_ret, go_ops_nil, go_op, opK_none, contK_some, condK_t, undef, callOf, fstep, fpre, fstep0, fbinA, fbin, fbin0, evParts, evOwners, fbuildSlice, fconvA, fconvS, fconvert, felems, T, TI.isAgg, TI.zeroOk, TI.zav, setParts, partsOk, St.ev, St.put, St.shutAll, AV.cells, AV.known, AV.flat, AV.pure, AV.owners, Value.cells, Value.oneCell', List.getD_cons_zero, List.getD_cons_succ, List.set, List.map_cons, List.map_nil, List.length_cons, List.length_nil, List.all_cons, List.all_nil, List.drop_zero, List.take_succ_cons, List.take_zero, List.headD_cons, List.nil_append, List.append_nil, List.getElem?_cons_zero, List.replicate, true_and, and_true, Bool.and_true, Bool.true_and, Bool.and_self, Bool.or_true, Bool.false_eq_true, ↓reduceIte, decide_true, Nat.reduceMul, Nat.reduceLeDiff, Nat.reduceLT, Nat.zero_le, Nat.le_refl, Nat.zero_add, isU8, c, strOf_dgt n hn]
      apply hK
      simp only [Tryd.results27, retK, ares, Bool.and_true, Bool.true_and, AV.ofResults, St.trunc, truncVs, truncV, List.getD_cons_zero, List.getD_cons_succ, List.take_zero, List.map_nil, true_and, and_true, List.cons.injEq, exists_eq_left']
    · have c : decide ((n : Int) < 10) = false := decide_eq_false (by omega)
      have ec1 : ((10 : Int) == 0) = false := by decide
      have ec2 : IntKind.u64.wrap (Int.tdiv (n : Int) 10) = ((n / 10 : Nat) : Int) := by
        show IntKind.u64.wrap ((n / 10 : Nat) : Int) = _
        exact wrap_u64 (by omega) (by omega)
      have ec3 : Int.tmod (n : Int) 10 = ((n % 10 : Nat) : Int) := rfl
      have he : dgt n = dgt (n / 10) ++ dgt (n % 10) := by rw [dgt, Lib.decDigits, dif_neg hn, dgt, dgt, Lib.decDigits_one (Nat.mod_lt _ (by omega))]; rfl
      have hz : (((dgt (n / 10)).size + (dgt (n % 10)).size : Nat) : Int) ≤ 9223372036854775807 := by
        have h1 := dgt_size (n / 10) (by omega)
        have h2 := dgt_size (n % 10) (by omega)
        omega
      try simp (maxSteps := 1000000) only [go_skip, go_region, go_seq, go_cond, go_draws, go_ops_nil, go_op, opK_none, contK_some, condK_f, callOf, fstep, fpre, fstep0, fbinA, fbin, fbin0, St.ev, St.put, List.getD_cons_zero, List.getD_cons_succ, List.set, true_and, Bool.true_and, c]
      refine draw_rule tyOk (by rfl) (by simp only [List.length_nil, Nat.le_refl]) (by kernel_rfl) rfl ?_
      try simp (maxSteps := 1000000) only [callOf, fstep0, fbinA, newF, fbin, fbin0, evs, St.ev, St.put, List.getD_cons_zero, List.getD_cons_succ, List.set, List.length_nil, List.append_nil, List.replicate, true_and, and_true, Bool.and_true, Bool.true_and, Bool.false_eq_true, ↓reduceIte, ne_eq, not_false_eq_true, Nat.reduceAdd, Nat.add_zero, Nat.zero_add, Int.reduceEq, newCount, drawR_op, drawP_none, drawP_some, drawQ_some, drawH_fn, dstep, isFree, St.app, bump, isNew, ec2]
      refine drawCall_use (ih (n / 10) (by omega) (by omega)) rfl ?_
      try simp (maxSteps := 1000000) only [go_ret, undef, callOf, fstep0, fbinA, newF, fbin, fbin0, evParts, fconvA, fconvS, fconvert, felems, T, TI.isAgg, TI.zeroOk, TI.zav, setParts, partsOk, St.ev, St.put, AV.cells, AV.known, AV.flat, AV.pure, Value.cells, Value.oneCell', List.getD_cons_zero, List.getD_cons_succ, List.set, List.map_cons, List.map_nil, List.length_cons, List.length_nil, List.all_cons, List.all_nil, List.headD_cons, List.replicate, true_and, and_true, Bool.and_true, Bool.true_and, Bool.and_self, Bool.or_true, Bool.false_eq_true, ↓reduceIte, decide_true, ne_eq, not_false_eq_true, Nat.reduceAdd, Nat.reduceMul, Nat.reduceLeDiff, Nat.reduceLT, Nat.zero_add, Int.reduceEq, drawR_nil, drawR_op, drawP_none, drawQ_some, dstep, isFree, isU8, dbuildSlice, St.app, bump, isNew, ec3, strOf_dgt (n % 10) (Nat.mod_lt _ (by omega)), hz]
      refine ⟨by kernel_rfl, ?_⟩
      skip
      rw [he] at hK
      apply hK
      simp only [Tryd.results27, retK, ares, List.take_nil, Bool.and_true, Bool.true_and, AV.ofResults, St.trunc, truncVs, truncV, List.getD_cons_zero, List.getD_cons_succ, List.map_nil, true_and, and_true, List.cons.injEq, exists_eq_left']

theorem ref_Int (n : Int) (h : In64 n) : PCall P 26 [i64 n] (fun x => x = str (itB n)) := by
  obtain ⟨h1, h2⟩ := h
  refine pcall_go tyOk Tryd.func26 rfl rfl ?_
  intro K hK
  simp only [Tryd.ntmps26, List.length_cons, List.length_nil, Nat.reduceAdd, Nat.reduceSub, List.replicate, List.cons_append, List.nil_append]
  by_cases hn : n < 0
  · have c : decide ((0 : Int) ≤ n) = false := decide_eq_false (by omega)
    have c' : decide (n ≥ 0) = false := decide_eq_false (by omega)
    have ew : IntKind.u64.wrap (notF .u64 (IntKind.u64.wrap n) + 1) = ((n.natAbs : Nat) : Int) := by
      have e1 : IntKind.u64.wrap n = n + 18446744073709551616 := by rw [IntKind.wrap_u64]; omega
      rw [e1, notF_u64 (by omega) (by omega), IntKind.wrap_u64]; omega
    have he : itB n = ⟨#[45]⟩ ++ dgt n.natAbs := by rw [itB, if_pos hn]
    have hz : ((ByteArray.size ⟨#[45]⟩ + (dgt n.natAbs).size : Nat) : Int) ≤ 9223372036854775807 := by
      have h1 := dgt_size n.natAbs (by omega)
      have h2 : ByteArray.size ⟨#[45]⟩ = 1 := rfl
      omega
    try simp (maxSteps := 1000000) only [go_skip, go_region, go_seq, go_cond, go_ops_nil, go_op, opK_none, opK_some, contK_some, condK_f, callOf, callK_eq, callJ_nil, callD_fn, fstep, fpre, fstep0, fbinA, fbin, fbin0, funary, fconvA, fconvert, evs, T, St.ev, St.put, AV.owners, ownersAll, List.getD_cons_zero, List.getD_cons_succ, List.set, List.append_nil, true_and, Bool.true_and, c, ew]
    (refine callG_use (ref_Digits n.natAbs (by omega)) rfl ?_; rintro _ rfl)
    try simp (maxSteps := 1000000) only [go_ret, go_ops_nil, go_op, opK_none, contK_some, callOf, fstep, fpre, fstep0, fbinA, fbin, fbin0, St.ev, St.put, List.getD_cons_zero, List.getD_cons_succ, List.set, true_and, Bool.true_and, hz]
    rw [he] at hK
    apply hK
    simp only [Tryd.results26, retK, ares, List.take_nil, Bool.and_true, Bool.true_and, AV.ofResults, St.trunc, truncVs, truncV, List.getD_cons_zero, List.getD_cons_succ, List.map_nil, true_and, and_true, List.cons.injEq, exists_eq_left']
  · have c : decide ((0 : Int) ≤ n) = true := decide_eq_true (by omega)
    have c' : decide (n ≥ 0) = true := decide_eq_true (by omega)
    have ew : IntKind.u64.wrap n = ((n.toNat : Nat) : Int) := by rw [IntKind.wrap_u64]; omega
    have he : itB n = dgt n.toNat := by rw [itB, if_neg hn]
    try simp (maxSteps := 1000000) only [go_region, go_seq, go_cond, go_ops_nil, go_op, opK_none, opK_some, contK_some, condK_t, callOf, callK_eq, callJ_nil, callD_fn, fstep, fpre, fstep0, fbinA, fbin, fbin0, fconvA, fconvert, evs, T, St.ev, St.put, AV.owners, ownersAll, List.getD_cons_zero, List.getD_cons_succ, List.set, List.append_nil, true_and, Bool.true_and, c, ew]
    (refine callG_use (ref_Digits n.toNat (by omega)) rfl ?_; rintro _ rfl)
    try simp (maxSteps := 1000000) only [go_ret, go_ops_nil, go_op, opK_none, contK_some, callOf, fstep, fpre, fstep0, St.ev, St.put, List.getD_cons_zero, List.getD_cons_succ, List.set, true_and, Bool.true_and]
    rw [he] at hK
    apply hK
    simp only [Tryd.results26, retK, ares, List.take_nil, Bool.and_true, Bool.true_and, AV.ofResults, St.trunc, truncVs, truncV, List.getD_cons_zero, List.getD_cons_succ, List.map_nil, true_and, and_true, List.cons.injEq, exists_eq_left']

/-! ### Names -/
abbrev nmL : List ByteArray := [⟨#[]⟩, ⟨#[115, 101, 116]⟩, ⟨#[98, 101, 97, 116]⟩, ⟨#[99, 108, 101, 97, 114]⟩, ⟨#[113, 117, 101, 114, 121]⟩, ⟨#[98, 97, 116, 99, 104]⟩, ⟨#[119, 97, 116, 99, 104]⟩, ⟨#[117, 110, 119, 97, 116, 99, 104]⟩, ⟨#[112, 111, 108, 108]⟩, ⟨#[99, 108, 111, 115, 101]⟩]
def nmB (k : Int) : ByteArray := if 0 ≤ k ∧ k < 10 then nmL.getD k.toNat ⟨#[]⟩ else ⟨#[]⟩

def nmV : List AV := strs nmL
theorem ref_Names : PCall P 10 [] (fun x => x = .sl 1 nmV) := by
  refine pcall_go tyOk Tryd.func10 rfl rfl ?_
  intro K hK
  simp only [Tryd.ntmps10, List.length_nil, Nat.reduceSub, List.replicate, List.nil_append]
  try simp (maxSteps := 1000000) only [go_region, go_seq, go_ret, go_ops_nil, go_op, opK_none, contK_some, undef, callOf, fstep, fpre, fstep0, evParts, evOwners, fbuildSlice, T, TI.isAgg, TI.zeroOk, TI.zav, setParts, partsOk, St.ev, St.put, St.shutAll, AV.cells, AV.known, AV.flat, AV.pure, AV.owners, Value.cells, Value.oneCell', List.getD_cons_zero, List.getD_cons_succ, List.set, List.map_cons, List.map_nil, List.length_cons, List.length_nil, List.all_cons, List.all_nil, List.headD_cons, List.nil_append, List.append_nil, List.replicate, true_and, and_true, Bool.and_true, Bool.true_and, Bool.and_self, Bool.or_true, Bool.false_eq_true, ↓reduceIte, decide_true, Nat.reduceMul, Nat.reduceLeDiff, Nat.reduceLT, Nat.zero_le, Nat.zero_add]
  apply hK
  simp only [Tryd.results10, retK, ares, List.take_nil, Bool.and_true, Bool.true_and, AV.ofResults, St.trunc, truncVs, truncV, List.getD_cons_zero, List.take_zero, List.take_succ_cons, List.drop_zero, List.map_nil, List.getElem?_cons_zero, List.length_cons, List.length_nil, Nat.reduceAdd, Nat.le_refl, true_and, and_true, ↓reduceIte, List.cons.injEq, exists_eq_left']
  rfl

theorem g0 : G 0 = some (nmL.map Value.string) := rfl
theorem op_Name (k : Int) : PCall P 13 [i64 k] (fun x => x = str (nmB k)) := by
  refine pcall_go tyOk Tryd.func13 rfl rfl ?_
  intro K hK
  simp only [Tryd.ntmps13, List.length_cons, List.length_nil, Nat.reduceAdd, Nat.reduceSub, List.replicate, List.cons_append, List.nil_append]
  by_cases h0 : k < 0
  · have c : decide (k < 0) = true := decide_eq_true h0
    have he : nmB k = ⟨#[]⟩ := by rw [nmB, if_neg (by omega)]
    try simp (maxSteps := 1000000) only [go_region, go_seq, go_cond, go_ret, go_ops_nil, go_op, go_guard, opK_none, contK_some, condK_t, guardK_eq, guardV_tf, undef, callOf, fstep, fpre, fstep0, fbinA, fbin, fbin0, fpick, St.ev, St.put, List.getD_cons_zero, List.getD_cons_succ, List.set, List.getElem?_cons_zero, List.getElem?_cons_succ, Option.bind_some, List.getElem?_toArray, true_and, Bool.true_and, ↓reduceIte, c]
    rw [he] at hK
    apply hK
    simp only [Tryd.results13, retK, ares, List.take_nil, Bool.and_true, Bool.true_and, AV.ofResults, St.trunc, truncVs, truncV, List.getD_cons_zero, List.getD_cons_succ, List.map_nil, true_and, and_true, List.cons.injEq, exists_eq_left']
  · have c : decide (k < 0) = false := decide_eq_false h0
    by_cases h1 : k < 10
    · have c1 : decide ((10 : Int) ≤ k) = false := decide_eq_false (by omega)
      have c1' : decide (k ≥ (10 : Int)) = false := decide_eq_false (by omega)
      rcases (by omega : k = 0 ∨ k = 1 ∨ k = 2 ∨ k = 3 ∨ k = 4 ∨ k = 5 ∨ k = 6 ∨ k = 7 ∨ k = 8 ∨ k = 9) with rfl | rfl | rfl | rfl | rfl | rfl | rfl | rfl | rfl | rfl <;>
        (try simp (maxSteps := 1000000) only [go_skip, go_region, go_seq, go_cond, go_ret, go_ops_nil, go_op, go_guard, opK_none, contK_some, condK_f, guardK_eq, guardV_ff, callOf, fstep, fpre, fstep0, fbinA, fbin, fbin0, fload, fcell, findexAddr, fpick, T, TI.isAgg, St.ev, St.put, List.getD_cons_zero, List.getD_cons_succ, List.set, List.map_cons, List.map_nil, List.getElem?_cons_zero, List.getElem?_cons_succ, Option.bind_some, List.getElem?_toArray, true_and, Bool.true_and, Bool.false_eq_true, ↓reduceIte, decide_false, cond_false, Int.reduceLE, Int.reduceLT, g0]
         refine ⟨by decide, by decide, ?_⟩
         apply hK
         simp only [Tryd.results13, retK, ares, List.take_nil, Bool.and_true, Bool.true_and, AV.ofResults, St.trunc, truncVs, List.getD_cons_zero, List.getD_cons_succ, List.map_nil, true_and, and_true, List.cons.injEq, exists_eq_left']
         rfl)
    · have c1 : decide ((10 : Int) ≤ k) = true := decide_eq_true (by omega)
      have c1' : decide (k ≥ (10 : Int)) = true := decide_eq_true (by omega)
      have he : nmB k = ⟨#[]⟩ := by rw [nmB, if_neg (by omega)]
      try simp (maxSteps := 1000000) only [go_region, go_seq, go_cond, go_ret, go_ops_nil, go_op, go_guard, opK_none, contK_some, condK_t, guardK_eq, guardV_ff, callOf, fstep, fpre, fstep0, fbinA, fbin, fbin0, fpick, St.ev, St.put, List.getD_cons_zero, List.getD_cons_succ, List.set, List.getElem?_cons_zero, List.getElem?_cons_succ, Option.bind_some, List.getElem?_toArray, true_and, Bool.true_and, cond_false, c, c1]
      rw [he] at hK
      apply hK
      simp only [Tryd.results13, retK, ares, List.take_nil, Bool.and_true, Bool.true_and, AV.ofResults, St.trunc, truncVs, truncV, List.getD_cons_zero, List.getD_cons_succ, List.map_nil, true_and, and_true, List.cons.injEq, exists_eq_left']

/-! ### A presence's words -/
theorem itB_size (n : Int) (h : In64 n) : (itB n).size ≤ 21 := by
  obtain ⟨h1, h2⟩ := h
  unfold itB
  split
  · rw [ByteArray.size_append]
    have := dgt_size n.natAbs (by omega)
    have e : ByteArray.size ⟨#[45]⟩ = 1 := rfl
    omega
  · have := dgt_size n.toNat (by omega)
    omega
structure Pr where
  st : Int
  pr : Int
  live : Int
def Pr.ok (p : Pr) : Prop := In64 p.st ∧ In64 p.pr ∧ In64 p.live
abbrev Pr.av (p : Pr) : AV := .agg [i64 p.st, i64 p.pr, i64 p.live]
def Pr.txt (p : Pr) : ByteArray := itB p.st ++ ⟨#[47]⟩ ++ itB p.pr ++ ⟨#[47]⟩ ++ itB p.live
theorem Pr.txt_size (p : Pr) (h : p.ok) : p.txt.size ≤ 65 := by
  have h1 := itB_size _ h.1
  have h2 := itB_size _ h.2.1
  have h3 := itB_size _ h.2.2
  have e : ByteArray.size ⟨#[47]⟩ = 1 := rfl
  simp only [Pr.txt, ByteArray.size_append, e]
  omega
theorem op_Presence (p : Pr) (h : p.ok) : PCall P 16 [p.av] (fun x => x = str p.txt) := by
  have s1 := itB_size _ h.1
  have s2 := itB_size _ h.2.1
  have s3 := itB_size _ h.2.2
  have e1 : ByteArray.size ⟨#[47]⟩ = 1 := rfl
  refine pcall_go tyOk Tryd.func16 rfl rfl ?_
  intro K hK
  simp only [Tryd.ntmps16, List.length_cons, List.length_nil, Nat.reduceAdd, Nat.reduceSub, List.replicate, List.cons_append, List.nil_append]
  have z1 : (((itB p.st).size + ByteArray.size ⟨#[47]⟩ : Nat) : Int) ≤ 9223372036854775807 := by omega
  have z2 : (((itB p.st).size + ByteArray.size ⟨#[47]⟩ + (itB p.pr).size : Nat) : Int) ≤ 9223372036854775807 := by omega
  have z3 : (((itB p.st).size + ByteArray.size ⟨#[47]⟩ + (itB p.pr).size + ByteArray.size ⟨#[47]⟩ : Nat) : Int) ≤ 9223372036854775807 := by omega
  have z4 : (((itB p.st).size + ByteArray.size ⟨#[47]⟩ + (itB p.pr).size + ByteArray.size ⟨#[47]⟩ + (itB p.live).size : Nat) : Int) ≤ 9223372036854775807 := by omega
  try simp (maxSteps := 1000000) only [go_region, go_seq, go_draws, go_ops_nil, go_op, opK_none, contK_some, callOf, fstep, fpre, fstep0, St.ev, St.put, AV.cells, AV.known, List.getD_cons_zero, List.set, List.length_nil, List.nil_append, true_and, Bool.true_and]
  refine draw_rule tyOk (by rfl) (by simp only [List.length_cons, List.length_nil, Nat.reduceAdd, Nat.zero_le]) (by kernel_rfl) rfl ?_
  try simp (maxSteps := 1000000) only [callOf, fstep0, newF, fload, fcell, ffieldAddr, evs, T, TI.isAgg, St.ev, St.put, List.getD_cons_zero, List.getD_cons_succ, List.set, List.length_cons, List.length_nil, List.drop_zero, List.headD_cons, List.append_nil, List.getElem?_cons_zero, List.replicate, List.getElem?_toArray, true_and, Bool.true_and, Bool.false_eq_true, ↓reduceIte, reduceCtorEq, ne_eq, not_false_eq_true, Nat.reduceAdd, Nat.reduceLT, Nat.add_zero, Nat.zero_add, newCount, drawR_op, drawP_none, drawP_some, drawQ_some, drawH_fn, dstep, isFree, St.app, bump, isNew]
  refine drawCall_use (op_digits _ h.1) rfl ?_
  try simp (maxSteps := 1000000) only [callOf, fstep0, fbinA, newF, fbin, fbin0, fload, fcell, ffieldAddr, evs, T, TI.isAgg, St.ev, St.put, List.getD_cons_zero, List.getD_cons_succ, List.set, List.length_cons, List.length_nil, List.drop_succ_cons, List.drop_zero, List.headD_cons, List.append_nil, List.getElem?_cons_zero, List.getElem?_cons_succ, List.getElem?_toArray, true_and, Bool.true_and, Bool.false_eq_true, ↓reduceIte, reduceCtorEq, ne_eq, not_false_eq_true, Nat.reduceAdd, Nat.reduceLT, Nat.zero_add, drawR_op, drawP_none, drawP_some, drawQ_some, drawH_fn, dstep, isFree, St.app, bump, isNew, z1]
  refine drawCall_use (op_digits _ h.2.1) rfl ?_
  try simp (maxSteps := 1000000) only [callOf, fstep0, fbinA, newF, fbin, fbin0, fload, fcell, ffieldAddr, evs, T, TI.isAgg, St.ev, St.put, List.getD_cons_zero, List.getD_cons_succ, List.set, List.length_cons, List.length_nil, List.drop_succ_cons, List.drop_zero, List.headD_cons, List.append_nil, List.getElem?_cons_zero, List.getElem?_cons_succ, List.getElem?_toArray, true_and, Bool.true_and, Bool.false_eq_true, ↓reduceIte, reduceCtorEq, ne_eq, not_false_eq_true, Nat.reduceAdd, Nat.reduceLT, Nat.zero_add, drawR_op, drawP_none, drawP_some, drawQ_some, drawH_fn, dstep, isFree, St.app, bump, isNew, ByteArray.size_append, z2, z3]
  refine drawCall_use (op_digits _ h.2.2) rfl ?_
  try simp (maxSteps := 1000000) only [go_ret, callOf, fstep0, fbinA, newF, fbin, fbin0, St.ev, St.put, List.getD_cons_zero, List.getD_cons_succ, List.set, true_and, Bool.true_and, Bool.false_eq_true, ↓reduceIte, Nat.reduceAdd, drawR_nil, drawR_op, drawP_none, drawQ_some, dstep, isFree, St.app, bump, isNew, ByteArray.size_append, z4]
  refine ⟨by kernel_rfl, ?_⟩
  skip
  apply hK
  simp only [Tryd.results16, retK, ares, Bool.and_true, Bool.true_and, AV.ofResults, St.trunc, truncVs, truncV, List.getD_cons_zero, List.getD_cons_succ, List.take_zero, List.map_nil, true_and, and_true, List.cons.injEq, exists_eq_left']
  rfl

theorem ref_Presence (p : Pr) (h : p.ok) : PCall P 17 [p.av] (fun x => x = str p.txt) := by
  have s1 := itB_size _ h.1
  have s2 := itB_size _ h.2.1
  have s3 := itB_size _ h.2.2
  have e1 : ByteArray.size ⟨#[47]⟩ = 1 := rfl
  refine pcall_go tyOk Tryd.func17 rfl rfl ?_
  intro K hK
  simp only [Tryd.ntmps17, List.length_cons, List.length_nil, Nat.reduceAdd, Nat.reduceSub, List.replicate, List.cons_append, List.nil_append]
  have z1 : (((itB p.st).size + ByteArray.size ⟨#[47]⟩ : Nat) : Int) ≤ 9223372036854775807 := by omega
  have z2 : (((itB p.st).size + ByteArray.size ⟨#[47]⟩ + (itB p.pr).size : Nat) : Int) ≤ 9223372036854775807 := by omega
  have z3 : (((itB p.st).size + ByteArray.size ⟨#[47]⟩ + (itB p.pr).size + ByteArray.size ⟨#[47]⟩ : Nat) : Int) ≤ 9223372036854775807 := by omega
  have z4 : (((itB p.st).size + ByteArray.size ⟨#[47]⟩ + (itB p.pr).size + ByteArray.size ⟨#[47]⟩ + (itB p.live).size : Nat) : Int) ≤ 9223372036854775807 := by omega
  try simp (maxSteps := 1000000) only [go_region, go_seq, go_draws, go_ops_nil, go_op, opK_none, contK_some, callOf, fstep, fpre, fstep0, St.ev, St.put, AV.cells, AV.known, List.getD_cons_zero, List.set, List.length_nil, List.nil_append, true_and, Bool.true_and]
  refine draw_rule tyOk (by rfl) (by simp only [List.length_cons, List.length_nil, Nat.reduceAdd, Nat.zero_le]) (by kernel_rfl) rfl ?_
  try simp (maxSteps := 1000000) only [callOf, fstep0, newF, fload, fcell, ffieldAddr, evs, T, TI.isAgg, St.ev, St.put, List.getD_cons_zero, List.getD_cons_succ, List.set, List.length_cons, List.length_nil, List.drop_zero, List.headD_cons, List.append_nil, List.getElem?_cons_zero, List.replicate, List.getElem?_toArray, true_and, Bool.true_and, Bool.false_eq_true, ↓reduceIte, reduceCtorEq, ne_eq, not_false_eq_true, Nat.reduceAdd, Nat.reduceLT, Nat.add_zero, Nat.zero_add, newCount, drawR_op, drawP_none, drawP_some, drawQ_some, drawH_fn, dstep, isFree, St.app, bump, isNew]
  refine drawCall_use (ref_Int _ h.1) rfl ?_
  try simp (maxSteps := 1000000) only [callOf, fstep0, fbinA, newF, fbin, fbin0, fload, fcell, ffieldAddr, evs, T, TI.isAgg, St.ev, St.put, List.getD_cons_zero, List.getD_cons_succ, List.set, List.length_cons, List.length_nil, List.drop_succ_cons, List.drop_zero, List.headD_cons, List.append_nil, List.getElem?_cons_zero, List.getElem?_cons_succ, List.getElem?_toArray, true_and, Bool.true_and, Bool.false_eq_true, ↓reduceIte, reduceCtorEq, ne_eq, not_false_eq_true, Nat.reduceAdd, Nat.reduceLT, Nat.zero_add, drawR_op, drawP_none, drawP_some, drawQ_some, drawH_fn, dstep, isFree, St.app, bump, isNew, z1]
  refine drawCall_use (ref_Int _ h.2.1) rfl ?_
  try simp (maxSteps := 1000000) only [callOf, fstep0, fbinA, newF, fbin, fbin0, fload, fcell, ffieldAddr, evs, T, TI.isAgg, St.ev, St.put, List.getD_cons_zero, List.getD_cons_succ, List.set, List.length_cons, List.length_nil, List.drop_succ_cons, List.drop_zero, List.headD_cons, List.append_nil, List.getElem?_cons_zero, List.getElem?_cons_succ, List.getElem?_toArray, true_and, Bool.true_and, Bool.false_eq_true, ↓reduceIte, reduceCtorEq, ne_eq, not_false_eq_true, Nat.reduceAdd, Nat.reduceLT, Nat.zero_add, drawR_op, drawP_none, drawP_some, drawQ_some, drawH_fn, dstep, isFree, St.app, bump, isNew, ByteArray.size_append, z2, z3]
  refine drawCall_use (ref_Int _ h.2.2) rfl ?_
  try simp (maxSteps := 1000000) only [go_ret, callOf, fstep0, fbinA, newF, fbin, fbin0, St.ev, St.put, List.getD_cons_zero, List.getD_cons_succ, List.set, true_and, Bool.true_and, Bool.false_eq_true, ↓reduceIte, Nat.reduceAdd, drawR_nil, drawR_op, drawP_none, drawQ_some, dstep, isFree, St.app, bump, isNew, ByteArray.size_append, z4]
  refine ⟨by kernel_rfl, ?_⟩
  skip
  apply hK
  simp only [Tryd.results17, retK, ares, Bool.and_true, Bool.true_and, AV.ofResults, St.trunc, truncVs, truncV, List.getD_cons_zero, List.getD_cons_succ, List.take_zero, List.map_nil, true_and, and_true, List.cons.injEq, exists_eq_left']
  rfl

end Go.Proofs.YtinkcffklomneaaDoor
