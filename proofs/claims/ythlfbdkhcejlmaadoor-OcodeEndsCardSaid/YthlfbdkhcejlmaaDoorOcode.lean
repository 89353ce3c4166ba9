/- The reader of bytes, and what it answers. -/
import Derived.Test.YthlfbdkhcejlmaaDoorTy
import Derived.Test.YthlfbdkhcejlmaaDoorSymU
namespace Go.Proofs.YthlfbdkhcejlmaaDoor
open Go Go.Proofs.YthlfbdkhcejlmaaDoor.Sym
set_option maxRecDepth 100000
set_option linter.unusedSimpArgs false
set_option linter.unusedVariables false

abbrev u8 (n : Int) : AV := .v (.int .u8 n)
abbrev u64 (n : Int) : AV := .v (.int .u64 n)
abbrev i64 (n : Int) : AV := .v (.int .i64 n)
abbrev bool (b : Bool) : AV := .v (.bool b)
abbrev str (s : ByteArray) : AV := .v (.string s)

/-- Bytes, as the program holds them. -/
def bav (l : List Int) : List AV := l.map u8
theorem bav_len (l : List Int) : (bav l).length = l.length := by simp [bav]
def Bytes (l : List Int) : Prop := ∀ n ∈ l, 0 ≤ n ∧ n ≤ 255
/-- A byte, or 0. -/
def rd (l : List Int) (p : Nat) : Int := l.getD p 0
theorem rd_bd {l : List Int} (h : Bytes l) (p : Nat) : 0 ≤ rd l p ∧ rd l p ≤ 255 := by
  unfold rd
  rw [List.getD_eq_getElem?_getD]
  cases hp : l[p]? with
  | none => simp
  | some n => exact h n (List.mem_of_getElem? hp)
theorem wrap_i64 {n : Int} (h0 : 0 ≤ n) (h1 : n < 9223372036854775808) : IntKind.i64.wrap n = n := by
  simp only [IntKind.wrap, IntKind.signed, IntKind.bits]
  simp
  omega
/-- A reader before the byte q; behind the end it stays. -/
abbrev rdr (l : List Int) (q : Nat) : AB := .box [.sl 1 (bav l), i64 ((min q l.length : Nat) : Int)]

def userL : List ByteArray := [⟨#[117, 48]⟩, ⟨#[117, 49]⟩, ⟨#[117, 50]⟩, ⟨#[117, 51]⟩, ⟨#[117, 52]⟩, ⟨#[117, 53]⟩, ⟨#[117, 54]⟩, ⟨#[117, 55]⟩, ⟨#[]⟩, ⟨#[115, 101, 118, 101, 110, 116, 101, 101, 110, 32, 98, 121, 116, 101, 115, 46, 46]⟩]
/-- The name that a byte tells. -/
def un (b : Int) : ByteArray := userL.getD (b.tmod 10).toNat ⟨#[]⟩
theorem mod10 {b : Int} (hb : 0 ≤ b) : b.tmod 10 = 0 ∨ b.tmod 10 = 1 ∨ b.tmod 10 = 2 ∨ b.tmod 10 = 3 ∨ b.tmod 10 = 4 ∨ b.tmod 10 = 5 ∨ b.tmod 10 = 6 ∨ b.tmod 10 = 7 ∨ b.tmod 10 = 8 ∨ b.tmod 10 = 9 := by
  have h1 := Int.tmod_nonneg 10 hb
  have h2 := Int.tmod_lt_of_pos b (show (0 : Int) < 10 by decide)
  generalize b.tmod 10 = k at h1 h2
  omega

theorem reader_next0 (l : List Int) (p : Nat) (hl : l.length < 9223372036854775807) (hb : Bytes l) (hp : p ≤ l.length) :
    ACall P 21 [.box [.sl 1 (bav l), i64 p]] [.ptr 0 0] (fun x m => x = i64 (rd l p) ∧ m = [.box [.sl 1 (bav l), i64 ((if p < l.length then p + 1 else p : Nat) : Int)]]) := by
  refine acall_go tyOk Tryd.func21 rfl rfl ?_
  intro K hK
  simp only [Tryd.ntmps21, List.length_cons, List.length_nil, Nat.reduceAdd, Nat.reduceSub, List.replicate, List.cons_append, List.nil_append]
  try simp (maxSteps := 1000000) only [go_region, go_seq, go_draws, go_ops_nil, go_op, opK_none, contK_some, callOf, fstep, fpre, fstep0, St.ev, St.put, List.set, true_and, Bool.true_and]
  refine draw_rule tyOk (by rfl) (by simp only [List.length_cons, List.length_nil, Nat.reduceAdd, Nat.le_refl]) (by kernel_rfl) rfl ?_
  try simp (maxSteps := 1000000) only [go_cond, callOf, fstep0, fbinA, fbin, fbin0, fload, fcell, ffieldAddr, flen, T, TI.isAgg, St.ev, St.put, List.getD_cons_zero, List.getD_cons_succ, List.set, List.length_cons, List.length_nil, List.drop_succ_cons, List.drop_zero, List.headD_cons, List.append_nil, List.getElem?_cons_zero, List.getElem?_cons_succ, List.replicate, List.getElem?_toArray, true_and, Bool.true_and, Bool.false_eq_true, ↓reduceIte, reduceCtorEq, ne_eq, not_false_eq_true, Nat.reduceAdd, Nat.reduceLT, Nat.add_zero, Nat.zero_add, newCount, drawR_nil, drawR_op, drawP_none, drawQ_some, dstep, isFree, St.app, bump, isNew, bav_len]
  refine ⟨by kernel_rfl, ?_⟩
  (first | refine guardV_split ?_ ?_ | refine condK_split ?_ ?_ | refine drawV_split ?_ ?_ | refine condY_split ?_ ?_ | refine guardY_split ?_ ?_) <;> intro h
  · have hpl : p = l.length := by have : (l.length : Int) ≤ p := by simpa using h
                                  omega
    try simp (maxSteps := 1000000) only [go_region, go_seq, go_ret, go_ops_nil, go_op, opK_none, contK_some, condK_t, callOf, fstep, fpre, fstep0, St.ev, St.put, List.set, true_and, Bool.true_and]
    apply hK
    simp only [Tryd.results21, retK, ares, List.take_nil, Bool.and_true, AV.ofResults, St.trunc, truncVs, truncV, AB.trunc, List.getD_cons_zero, List.getD_cons_succ, List.take_succ_cons, List.map_nil, List.map_cons, List.length_cons, List.length_nil, Nat.reduceAdd, and_true, List.cons.injEq, exists_eq_left']
    have e1 : rd l p = 0 := by rw [hpl, rd]; simp
    rw [e1, if_neg (by omega)]
    try exact ⟨rfl, rfl⟩
  · have hpl : p < l.length := by have : ¬ (l.length : Int) ≤ p := by simpa using h
                                  omega
    have ew : IntKind.i64.wrap ((p : Int) + 1) = (p : Int) + 1 := wrap_i64 (by omega) (by omega)
    have ew2 : IntKind.i64.wrap ((p : Int) + 1 - 1) = (p : Int) := by rw [show (p : Int) + 1 - 1 = p by omega]; exact wrap_i64 (by omega) (by omega)
    have eg : (bav l).getD (Int.toNat (p : Int)) .any = u8 (rd l p) := by
      simp [bav, rd, List.getD_eq_getElem?_getD, List.getElem?_eq_getElem hpl]
    have c1 : (0 : Int) ≤ (p : Int) ∧ Int.toNat (p : Int) < l.length := by omega
    have er : IntKind.i64.wrap (rd l p) = rd l p := by have := rd_bd hb p; exact wrap_i64 this.1 (by omega)
    try simp (maxSteps := 1000000) only [go_skip, go_region, go_seq, go_draws, go_ops_nil, go_op, opK_none, contK_some, condK_f, callOf, fstep, fpre, fstep0, fbinA, fbin, fbin0, fload, fcell, fstore, ffieldAddr, T, TI.isAgg, St.ev, St.put, splice, AV.cells, AV.known, AV.flat, Value.cells, Value.oneCell', List.getD_cons_zero, List.getD_cons_succ, List.set, List.map_cons, List.map_nil, List.length_cons, List.length_nil, List.all_cons, List.all_nil, List.drop_succ_cons, List.drop_zero, List.take_succ_cons, List.take_zero, List.headD_cons, List.cons_append, List.nil_append, List.append_nil, List.getElem?_cons_zero, List.getElem?_cons_succ, List.getElem?_toArray, true_and, and_true, Bool.and_true, Bool.true_and, Bool.and_self, Bool.false_eq_true, ↓reduceIte, reduceCtorEq, ne_eq, not_false_eq_true, Nat.reduceAdd, Nat.reduceLT, Nat.le_refl, Nat.zero_add, ew]
    refine draw_rule tyOk (by rfl) (by simp only [List.length_cons, List.length_nil, Nat.reduceAdd, Nat.le_refl]) (by kernel_rfl) rfl ?_
    try simp (maxSteps := 1000000) only [go_ret, callOf, fstep0, fbinA, fbin, fbin0, fload, fcell, ffieldAddr, findexAddr, fconvA, fconvert, T, TI.isAgg, St.ev, St.put, AV.cells, AV.known, Value.cells, List.getD_cons_zero, List.getD_cons_succ, List.set, List.map_cons, List.map_nil, List.length_cons, List.length_nil, List.drop_succ_cons, List.drop_zero, List.headD_cons, List.append_nil, List.getElem?_cons_zero, List.getElem?_cons_succ, List.replicate, List.getElem?_toArray, true_and, and_true, Bool.and_true, Bool.true_and, Bool.false_eq_true, ↓reduceIte, reduceCtorEq, ne_eq, not_false_eq_true, Nat.reduceAdd, Nat.reduceLT, Nat.add_zero, Nat.zero_add, newCount, drawR_nil, drawR_op, drawP_none, drawQ_some, dstep, isFree, St.app, bump, isNew, ew2, eg, c1, bav_len, er]
    refine ⟨by kernel_rfl, ?_⟩
    skip
    apply hK
    simp only [Tryd.results21, retK, ares, List.take_nil, Bool.and_true, Bool.true_and, AV.ofResults, St.trunc, truncVs, truncV, AB.trunc, List.getD_cons_zero, List.getD_cons_succ, List.take_succ_cons, List.map_nil, List.map_cons, List.length_cons, List.length_nil, Nat.reduceAdd, true_and, and_true, List.cons.injEq, exists_eq_left']
    rw [if_pos hpl]
    try exact ⟨rfl, rfl⟩
    try rfl

theorem reader_next (l : List Int) (q : Nat) (hl : l.length < 9223372036854775807) (hb : Bytes l) :
    ACall P 21 [rdr l q] [.ptr 0 0] (fun x m => x = i64 (rd l q) ∧ m = [rdr l (q + 1)]) := by
  refine (reader_next0 l (min q l.length) hl hb (by omega)).mono ?_
  rintro x m ⟨rfl, rfl⟩
  have e1 : rd l (min q l.length) = rd l q := by
    by_cases c : q ≤ l.length
    · rw [show min q l.length = q by omega]
    · rw [show min q l.length = l.length by omega, rd, rd, List.getD_eq_getElem?_getD, List.getD_eq_getElem?_getD, List.getElem?_eq_none (Nat.le_refl _), List.getElem?_eq_none (by omega)]
  have e2 : (if min q l.length < l.length then min q l.length + 1 else min q l.length) = min (q + 1) l.length := by split <;> omega
  rw [e1, e2]
  exact ⟨rfl, rfl⟩

theorem ocode_User (b : Int) (hb : 0 ≤ b ∧ b ≤ 255) : PCall P 15 [u8 b] (fun x => x = str (un b)) := by
  refine pcall_go tyOk Tryd.func15 rfl rfl ?_
  intro K hK
  simp only [Tryd.ntmps15, List.length_cons, List.length_nil, Nat.reduceAdd, Nat.reduceSub, List.replicate, List.cons_append, List.nil_append]
  have ew : IntKind.i64.wrap b = b := wrap_i64 hb.1 (by omega)
  unfold un at hK
  rcases mod10 hb.1 with e | e | e | e | e | e | e | e | e | e <;>
  · rw [e] at hK
    try simp (maxSteps := 1000000) only [go_region, go_seq, go_ret, go_ops_nil, go_op, opK_none, contK_some, callOf, fstep, fpre, fstep0, fbinA, fbin, fbin0, fload, fcell, findexAddr, fconvA, fconvert, T, TI.isAgg, St.ev, St.put, List.getD_cons_zero, List.getD_cons_succ, List.set, List.map_cons, List.map_nil, List.length_cons, List.length_nil, List.drop_succ_cons, List.drop_zero, List.headD_cons, true_and, and_true, Bool.and_true, Bool.true_and, Bool.false_eq_true, ↓reduceIte, ne_eq, not_false_eq_true, Nat.reduceAdd, Nat.reduceMul, Nat.reduceLT, Nat.zero_add, Int.reduceLE, Int.reduceEq, G, ew, e, Int.toNat]
    apply hK
    simp only [Tryd.results15, retK, ares, List.take_nil, Bool.and_true, Bool.true_and, AV.ofResults, St.trunc, truncVs, truncV, List.getD_cons_zero, List.getD_cons_succ, List.map_nil, true_and, and_true, List.cons.injEq, exists_eq_left']
    try rfl

theorem ref12_User (b : Int) (hb : 0 ≤ b) : PCall P 16 [i64 b] (fun x => x = str (un b)) := by
  refine pcall_go tyOk Tryd.func16 rfl rfl ?_
  intro K hK
  simp only [Tryd.ntmps16, List.length_cons, List.length_nil, Nat.reduceAdd, Nat.reduceSub, List.replicate, List.cons_append, List.nil_append]
  unfold un at hK
  rcases mod10 hb with e | e | e | e | e | e | e | e | e | e <;>
  · rw [e] at hK
    try simp (maxSteps := 1000000) only [go_skip, go_region, go_seq, go_cond, go_ret, go_ops_nil, go_op, opK_none, contK_some, condK_t, condK_f, undef, callOf, fstep, fpre, fstep0, fbinA, fbin, fbin0, evParts, evOwners, fbuildSlice, fconvA, fconvS, fconvert, felems, T, TI.isAgg, TI.zeroOk, TI.zav, setParts, partsOk, St.ev, St.put, St.shutAll, AV.cells, AV.known, AV.flat, AV.pure, AV.owners, Value.cells, Value.oneCell', List.getD_cons_zero, List.getD_cons_succ, List.set, List.map_cons, List.map_nil, List.length_cons, List.length_nil, List.all_cons, List.all_nil, List.drop_zero, List.take_succ_cons, List.take_zero, List.headD_cons, List.nil_append, List.append_nil, List.getElem?_cons_zero, List.replicate, true_and, and_true, Bool.and_true, Bool.true_and, Bool.and_self, Bool.or_true, Bool.false_eq_true, ↓reduceIte, decide_true, ne_eq, not_false_eq_true, Nat.reduceMul, Nat.reduceLeDiff, Nat.reduceLT, Nat.zero_le, Nat.le_refl, Nat.zero_add, Int.reduceBEq, Int.reduceEq, beq_self_eq_true, isU8, e]
    try refine ⟨by decide, ?_⟩
    apply hK
    simp only [Tryd.results16, retK, ares, List.take_nil, Bool.and_true, Bool.true_and, AV.ofResults, St.trunc, truncVs, truncV, List.getD_cons_zero, List.getD_cons_succ, List.take_zero, List.map_nil, true_and, and_true, List.cons.injEq, exists_eq_left']
    try rfl

/-- A number that is small, or near the greatest one. -/
def lng (n : Int) : Int := if n < 192 then n else 18446744073709551615 - (255 - n)
theorem wrap_u64 {n : Int} (h0 : 0 ≤ n) (h1 : n < 18446744073709551616) : IntKind.u64.wrap n = n := by
  simp only [IntKind.wrap, IntKind.signed, IntKind.bits]
  simp
  omega
theorem wrap_u8 {n : Int} (h0 : 0 ≤ n) (h1 : n ≤ 255) : IntKind.u8.wrap n = n := by
  simp only [IntKind.wrap, IntKind.signed, IntKind.bits]
  simp
  omega
theorem rem_wrap {n m : Int} (h0 : 0 ≤ n) (h1 : 0 < m) (h2 : m < 1000) : 0 ≤ n.tmod m ∧ n.tmod m < m := ⟨Int.tmod_nonneg m h0, Int.tmod_lt_of_pos n h1⟩

theorem reader_long (l : List Int) (q : Nat) (hl : l.length < 9223372036854775807) (hb : Bytes l) :
    ACall P 22 [rdr l q] [.ptr 0 0] (fun x m => x = u64 (lng (rd l q)) ∧ m = [rdr l (q + 1)]) := by
  refine acall_go tyOk Tryd.func22 rfl rfl ?_
  intro K hK
  simp only [Tryd.ntmps22, List.length_cons, List.length_nil, Nat.reduceAdd, Nat.reduceSub, List.replicate, List.cons_append, List.nil_append]
  try simp (maxSteps := 1000000) only [go_region, go_seq, go_ops_nil, go_op, opK_none, opK_some, contK_some, callOf, callK_eq, callJ_nil, callD_fn, fstep, fpre, fstep0, evs, St.ev, St.put, AV.owners, ownersAll, List.getD_cons_zero, List.getD_cons_succ, List.set, List.append_nil, true_and, Bool.true_and]
  (refine callG_frame (reader_next l q hl hb) [0] (by decide) rfl rfl rfl rfl ?_; rintro _ _ ⟨rfl, rfl⟩; refine ⟨rfl, ?_⟩)
  have hr := rd_bd hb q
  have ew : IntKind.u64.wrap (rd l q) = rd l q := wrap_u64 hr.1 (by omega)
  have e1 : IntKind.u64.wrap (255 - rd l q) = 255 - rd l q := wrap_u64 (by omega) (by omega)
  have e2 : IntKind.u64.wrap (18446744073709551615 - (255 - rd l q)) = 18446744073709551615 - (255 - rd l q) := wrap_u64 (by omega) (by omega)
  try simp (maxSteps := 1000000) only [go_region, go_seq, go_cond, go_ops_nil, go_op, opK_none, contK_some, callOf, fstep, fpre, fstep0, fbinA, fbin, fbin0, fconvA, fconvert, T, St.ev, St.put, ren, renAll, AB.ren, renM, putL, List.getD_cons_zero, List.getD_cons_succ, List.set, true_and, Bool.true_and, ew]
  (first | refine guardV_split ?_ ?_ | refine condK_split ?_ ?_ | refine drawV_split ?_ ?_ | refine condY_split ?_ ?_ | refine guardY_split ?_ ?_) <;> intro h
  · try simp (maxSteps := 1000000) only [go_region, go_seq, go_ret, go_ops_nil, go_op, opK_none, contK_some, condK_t, callOf, fstep, fpre, fstep0, St.ev, St.put, List.getD_cons_zero, List.getD_cons_succ, List.set, true_and, Bool.true_and]
    apply hK
    simp only [Tryd.results22, retK, ares, List.take_nil, Bool.and_true, AV.ofResults, St.trunc, truncVs, truncV, AB.trunc, List.getD_cons_zero, List.getD_cons_succ, List.take_succ_cons, List.map_nil, List.map_cons, List.length_cons, List.length_nil, Nat.reduceAdd, and_true, List.cons.injEq, exists_eq_left']
    rw [lng, if_pos (by simpa using h)]
    try exact ⟨rfl, rfl⟩
  · try simp (maxSteps := 1000000) only [go_skip, go_region, go_seq, go_ret, go_ops_nil, go_op, opK_none, contK_some, condK_f, callOf, fstep, fpre, fstep0, fbinA, fbin, fbin0, St.ev, St.put, List.getD_cons_zero, List.getD_cons_succ, List.set, true_and, Bool.true_and, e1, e2]
    apply hK
    simp only [Tryd.results22, retK, ares, List.take_nil, Bool.and_true, AV.ofResults, St.trunc, truncVs, truncV, AB.trunc, List.getD_cons_zero, List.getD_cons_succ, List.take_succ_cons, List.map_nil, List.map_cons, List.length_cons, List.length_nil, Nat.reduceAdd, and_true, List.cons.injEq, exists_eq_left']
    rw [lng, if_neg (by simpa using h)]
    try exact ⟨rfl, rfl⟩

theorem reader_from (l : List Int) (q : Nat) (hl : l.length < 9223372036854775807) (hb : Bytes l) (low many : Int) (h1 : 0 ≤ low ∧ low ≤ 1) (h2 : 0 < many ∧ many < 1000) :
    ACall P 20 [rdr l q] [.ptr 0 0, i64 low, i64 many] (fun x m => x = i64 (low + (rd l q).tmod many) ∧ m = [rdr l (q + 1)]) := by
  refine acall_go tyOk Tryd.func20 rfl rfl ?_
  intro K hK
  simp only [Tryd.ntmps20, List.length_cons, List.length_nil, Nat.reduceAdd, Nat.reduceSub, List.replicate, List.cons_append, List.nil_append]
  try simp (maxSteps := 1000000) only [go_region, go_seq, go_ops_nil, go_op, opK_none, opK_some, contK_some, callOf, callK_eq, callJ_nil, callD_fn, fstep, fpre, fstep0, evs, St.ev, St.put, AV.owners, ownersAll, List.getD_cons_zero, List.getD_cons_succ, List.set, List.append_nil, true_and, Bool.true_and]
  (refine callG_frame (reader_next l q hl hb) [0] (by decide) rfl rfl rfl rfl ?_; rintro _ _ ⟨rfl, rfl⟩; refine ⟨rfl, ?_⟩)
  have hr := rd_bd hb q
  have hm := rem_wrap hr.1 h2.1 h2.2
  have e1 : IntKind.i64.wrap (low + (rd l q).tmod many) = low + (rd l q).tmod many := by
    generalize (rd l q).tmod many = z at hm
    exact wrap_i64 (by omega) (by omega)
  have e0 : ¬ many = 0 := by omega
  try simp (maxSteps := 1000000) only [go_ret, go_ops_nil, go_op, opK_none, contK_some, callOf, fstep, fpre, fstep0, fbinA, fbin, fbin0, St.ev, St.put, ren, renAll, AB.ren, renM, putL, List.getD_cons_zero, List.getD_cons_succ, List.set, true_and, and_true, Bool.and_true, Bool.true_and, ne_eq, not_false_eq_true, e1, e0]
  apply hK
  simp only [Tryd.results20, retK, ares, List.take_nil, Bool.and_true, AV.ofResults, St.trunc, truncVs, truncV, AB.trunc, List.getD_cons_zero, List.getD_cons_succ, List.take_succ_cons, List.map_nil, List.map_cons, List.length_cons, List.length_nil, Nat.reduceAdd, and_true, List.cons.injEq, exists_eq_left']
  try exact ⟨rfl, rfl⟩

/-- What a client asks. -/
structure Opn where
  kind : Int
  user : ByteArray
  id : Int
  st : Int
  pr : Int
  ttl : Int
  users : List ByteArray
  deriving DecidableEq
def Opn.av (o : Opn) : AV := .agg [i64 o.kind, str o.user, i64 o.id, i64 o.st, i64 o.pr, u64 o.ttl, .sl 1 (o.users.map str)]
/-- As many names from the byte q on. -/
def unsAt (l : List Int) (q n : Nat) : List ByteArray := (List.range n).map fun i => un (rd l (q + i))
theorem unsAt_next (l : List Int) (q n : Nat) : unsAt l q (n + 1) = unsAt l q n ++ [un (rd l (q + n))] := by
  simp [unsAt, List.range_succ]
/-- An op, read from the byte q on, and where the next one begins. -/
def opAt (l : List Int) (q : Nat) : Opn × Nat :=
  let k := (rd l q).tmod 11
  let u := un (rd l (q + 1))
  if k = 1 then (⟨k, u, (rd l (q + 2)).tmod 4, (rd l (q + 3)).tmod 11, (rd l (q + 4)).tmod 10, lng (rd l (q + 5)), []⟩, q + 6)
  else if k = 2 then (⟨k, u, (rd l (q + 2)).tmod 4, 0, 0, lng (rd l (q + 3)), []⟩, q + 4)
  else if k = 3 then (⟨k, u, (rd l (q + 2)).tmod 4, 0, 0, 0, []⟩, q + 3)
  else if k = 5 then (⟨k, u, 0, 0, 0, 0, unsAt l (q + 3) ((rd l (q + 2)).tmod 10).toNat⟩, q + 3 + ((rd l (q + 2)).tmod 10).toNat)
  else (⟨k, u, 0, 0, 0, 0, []⟩, q + 2)

theorem reader_op (l : List Int) (q : Nat) (hl : l.length < 9223372036854775807) (hb : Bytes l) :
    ACall P 23 [rdr l q] [.ptr 0 0] (fun x m => Sym.weak x (opAt l q).1.av ∧ m = [rdr l (opAt l q).2]) := by
  refine acall_go tyOk Tryd.func23 rfl rfl ?_
  intro K hK
  simp only [Tryd.ntmps23, List.length_cons, List.length_nil, Nat.reduceAdd, Nat.reduceSub, List.replicate, List.cons_append, List.nil_append]
  try simp (maxSteps := 1000000) only [go_region, go_seq, go_ops_nil, go_op, opK_none, opK_some, contK_some, callOf, callK_eq, callJ_nil, callD_fn, fstep, fpre, fstep0, evs, T, St.ev, St.put, AV.owners, ownersAll, List.getD_cons_zero, List.getD_cons_succ, List.set, List.map_cons, List.map_nil, List.length_cons, List.length_nil, List.cons_append, List.nil_append, List.append_nil, true_and, Bool.true_and, Nat.zero_add]
  (refine callG_frame (reader_next l q hl hb) [0] (by decide) rfl rfl rfl rfl ?_; rintro _ _ ⟨rfl, rfl⟩; refine ⟨rfl, ?_⟩)
  have hr := rd_bd hb (q + 1)
  have ew : IntKind.u8.wrap (rd l (q + 1)) = rd l (q + 1) := wrap_u8 hr.1 hr.2
  try simp (maxSteps := 1000000) only [go_op, opK_none, opK_some, contK_some, callOf, callK_eq, callJ_nil, callD_fn, fstep, fpre, fstep0, fbinA, fbin, fbin0, evs, St.ev, St.put, AV.owners, ownersAll, ren, renAll, AB.ren, renM, putL, List.getD_cons_zero, List.getD_cons_succ, List.set, List.append_nil, true_and, and_true, Bool.and_true, Bool.true_and, ne_eq, not_false_eq_true, Int.reduceEq]
  (refine callG_frame (reader_next l (q + 1) hl hb) [0] (by decide) rfl rfl rfl rfl ?_; rintro _ _ ⟨rfl, rfl⟩; refine ⟨rfl, ?_⟩)
  try simp (maxSteps := 1000000) only [go_op, opK_none, opK_some, contK_some, callOf, callK_eq, callJ_nil, callD_fn, fstep, fpre, fstep0, fconvA, fconvert, evs, T, St.ev, St.put, AV.owners, ownersAll, ren, renAll, AB.ren, renM, putL, List.getD_cons_zero, List.getD_cons_succ, List.set, List.append_nil, true_and, Bool.true_and, ew]
  (refine callG_use (ocode_User _ hr) rfl ?_; rintro _ rfl)
  try simp (maxSteps := 1000000) only [go_region, go_seq, go_cond, go_block, go_ops_nil, go_op, opK_none, contK_some, callOf, fstep, fpre, fstep0, fbinA, fbin, fbin0, fload, fcell, fstore, ffieldAddr, ffill, fieldPlaces, fieldsOk, fbuild, evParts, T, TI.isAgg, St.ev, St.put, splice, AV.cells, AV.known, AV.flat, Value.cells, Value.oneCell', List.getD_cons_zero, List.getD_cons_succ, List.set, List.map_cons, List.map_nil, List.length_cons, List.length_nil, List.all_cons, List.all_nil, List.drop_succ_cons, List.drop_zero, List.take_succ_cons, List.take_zero, List.headD_cons, List.cons_append, List.nil_append, List.append_nil, List.getElem?_cons_zero, List.getElem?_cons_succ, Option.isSome_some, List.getElem?_toArray, true_and, and_true, Bool.and_true, Bool.true_and, Bool.and_self, Bool.false_eq_true, ↓reduceIte, reduceCtorEq, ne_eq, not_false_eq_true, Nat.reduceAdd, Nat.reduceLeDiff, Nat.reduceLT, Nat.le_refl, Nat.add_zero, Nat.zero_add]
  by_cases ek1 : (rd l q).tmod 11 = 1
  · have ek2 : ¬ (rd l q).tmod 11 = 2 := by omega
    have ek3 : ¬ (rd l q).tmod 11 = 3 := by omega
    have ek5 : ¬ (rd l q).tmod 11 = 5 := by omega
    have b1 : ((rd l q).tmod 11 == 1) = true := by simpa using ek1
    try simp (maxSteps := 1000000) only [go_region, go_op, opK_none, opK_some, contK_some, condK_t, callOf, callK_eq, callJ_nil, callD_fn, fstep, fpre, fstep0, evs, St.ev, St.put, AV.owners, ownersAll, List.getD_cons_zero, List.getD_cons_succ, List.set, List.append_nil, true_and, Bool.true_and, b1]
    (refine callG_frame (reader_next l (q + 2) hl hb) [0] (by decide) rfl rfl rfl rfl ?_; rintro _ _ ⟨rfl, rfl⟩; refine ⟨rfl, ?_⟩)
    try simp (maxSteps := 1000000) only [go_op, opK_none, opK_some, contK_some, callOf, callK_eq, callJ_nil, callD_fn, fstep, fpre, fstep0, fbinA, fbin, fbin0, evs, St.ev, St.put, AV.owners, ownersAll, ren, renAll, AB.ren, renM, putL, List.getD_cons_zero, List.getD_cons_succ, List.set, List.append_nil, true_and, and_true, Bool.and_true, Bool.true_and, ne_eq, not_false_eq_true, Int.reduceEq]
    (refine callG_frame (reader_next l (q + 3) hl hb) [0] (by decide) rfl rfl rfl rfl ?_; rintro _ _ ⟨rfl, rfl⟩; refine ⟨rfl, ?_⟩)
    try simp (maxSteps := 1000000) only [go_op, opK_none, opK_some, contK_some, callOf, callK_eq, callJ_nil, callD_fn, fstep, fpre, fstep0, fbinA, fbin, fbin0, evs, St.ev, St.put, AV.owners, ownersAll, ren, renAll, AB.ren, renM, putL, List.getD_cons_zero, List.getD_cons_succ, List.set, List.append_nil, true_and, and_true, Bool.and_true, Bool.true_and, ne_eq, not_false_eq_true, Int.reduceEq]
    (refine callG_frame (reader_next l (q + 4) hl hb) [0] (by decide) rfl rfl rfl rfl ?_; rintro _ _ ⟨rfl, rfl⟩; refine ⟨rfl, ?_⟩)
    try simp (maxSteps := 1000000) only [go_op, opK_none, opK_some, contK_some, callOf, callK_eq, callJ_nil, callD_fn, fstep, fpre, fstep0, fbinA, fbin, fbin0, evs, St.ev, St.put, AV.owners, ownersAll, ren, renAll, AB.ren, renM, putL, List.getD_cons_zero, List.getD_cons_succ, List.set, List.append_nil, true_and, and_true, Bool.and_true, Bool.true_and, ne_eq, not_false_eq_true, Int.reduceEq]
    (refine callG_frame (reader_long l (q + 5) hl hb) [0] (by decide) rfl rfl rfl rfl ?_; rintro _ _ ⟨rfl, rfl⟩; refine ⟨rfl, ?_⟩)
    try simp (maxSteps := 1000000) only [go_region, go_seq, go_blk, go_ret, go_ops_nil, go_op, opK_none, contK_some, callOf, fstep, fpre, fstep0, fload, fcell, fstore, ffieldAddr, T, TI.isAgg, St.ev, St.put, splice, AV.cells, AV.known, AV.flat, Value.cells, Value.oneCell', ren, renAll, AB.ren, renM, putL, List.getD_cons_zero, List.getD_cons_succ, List.set, List.map_cons, List.map_nil, List.length_cons, List.length_nil, List.all_cons, List.all_nil, List.drop_succ_cons, List.drop_zero, List.take_succ_cons, List.take_zero, List.cons_append, List.nil_append, List.append_nil, List.getElem?_cons_zero, List.getElem?_cons_succ, List.getElem?_toArray, true_and, and_true, Bool.and_true, Bool.true_and, Bool.and_self, ↓reduceIte, reduceCtorEq, ne_eq, not_false_eq_true, Nat.reduceAdd, Nat.reduceLeDiff, Nat.le_refl, Nat.zero_add]
    apply hK
    simp only [Tryd.results23, retK, ares, List.take_nil, Bool.and_true, Bool.true_and, AV.ofResults, St.trunc, truncVs, truncV, AB.trunc, aload, acell, T, TI.isAgg, List.getD_cons_zero, List.getD_cons_succ, List.take_zero, List.take_succ_cons, List.drop_zero, List.map_nil, List.map_cons, List.getElem?_cons_zero, List.getElem?_cons_succ, List.length_cons, List.length_nil, Nat.reduceAdd, Nat.le_refl, true_and, and_true, ↓reduceIte, List.cons.injEq, exists_eq_left']
    rw [opAt]
    simp only [ek1, if_true]
    exact ⟨.inr ⟨_, rfl, _, _, rfl, weak_refl _, _, _, rfl, weak_refl _, _, _, rfl, weak_refl _, _, _, rfl, weak_refl _, _, _, rfl, weak_refl _, _, _, rfl, weak_refl _, _, _, rfl, weak_nil 1, rfl⟩, by trivial⟩
  · have b1 : ((rd l q).tmod 11 == 1) = false := by simpa using ek1
    by_cases ek2 : (rd l q).tmod 11 = 2
    · have ek3 : ¬ (rd l q).tmod 11 = 3 := by omega
      have ek5 : ¬ (rd l q).tmod 11 = 5 := by omega
      have b2 : ((rd l q).tmod 11 == 2) = true := by simpa using ek2
      try simp (maxSteps := 1000000) only [go_region, go_seq, go_cond, go_ops_nil, go_op, opK_none, opK_some, contK_some, condK_t, condK_f, callOf, callK_eq, callJ_nil, callD_fn, fstep, fpre, fstep0, fbinA, fbin, fbin0, evs, St.ev, St.put, AV.owners, ownersAll, List.getD_cons_zero, List.getD_cons_succ, List.set, List.append_nil, true_and, Bool.true_and, b1, b2]
      (refine callG_frame (reader_next l (q + 2) hl hb) [0] (by decide) rfl rfl rfl rfl ?_; rintro _ _ ⟨rfl, rfl⟩; refine ⟨rfl, ?_⟩)
      try simp (maxSteps := 1000000) only [go_op, opK_none, opK_some, contK_some, callOf, callK_eq, callJ_nil, callD_fn, fstep, fpre, fstep0, fbinA, fbin, fbin0, evs, St.ev, St.put, AV.owners, ownersAll, ren, renAll, AB.ren, renM, putL, List.getD_cons_zero, List.getD_cons_succ, List.set, List.append_nil, true_and, and_true, Bool.and_true, Bool.true_and, ne_eq, not_false_eq_true, Int.reduceEq]
      (refine callG_frame (reader_long l (q + 3) hl hb) [0] (by decide) rfl rfl rfl rfl ?_; rintro _ _ ⟨rfl, rfl⟩; refine ⟨rfl, ?_⟩)
      try simp (maxSteps := 1000000) only [go_region, go_seq, go_blk, go_ret, go_ops_nil, go_op, opK_none, contK_some, callOf, fstep, fpre, fstep0, fload, fcell, fstore, ffieldAddr, T, TI.isAgg, St.ev, St.put, splice, AV.cells, AV.known, AV.flat, Value.cells, Value.oneCell', ren, renAll, AB.ren, renM, putL, List.getD_cons_zero, List.getD_cons_succ, List.set, List.map_cons, List.map_nil, List.length_cons, List.length_nil, List.all_cons, List.all_nil, List.drop_succ_cons, List.drop_zero, List.take_succ_cons, List.take_zero, List.cons_append, List.nil_append, List.append_nil, List.getElem?_cons_zero, List.getElem?_cons_succ, List.getElem?_toArray, true_and, and_true, Bool.and_true, Bool.true_and, Bool.and_self, ↓reduceIte, reduceCtorEq, ne_eq, not_false_eq_true, Nat.reduceAdd, Nat.reduceLeDiff, Nat.le_refl, Nat.zero_add]
      apply hK
      simp only [Tryd.results23, retK, ares, List.take_nil, Bool.and_true, Bool.true_and, AV.ofResults, St.trunc, truncVs, truncV, AB.trunc, aload, acell, T, TI.isAgg, List.getD_cons_zero, List.getD_cons_succ, List.take_zero, List.take_succ_cons, List.drop_zero, List.map_nil, List.map_cons, List.getElem?_cons_zero, List.getElem?_cons_succ, List.length_cons, List.length_nil, Nat.reduceAdd, Nat.le_refl, true_and, and_true, ↓reduceIte, List.cons.injEq, exists_eq_left']
      rw [opAt]
      simp only [ek2, if_true]
      exact ⟨.inr ⟨_, rfl, _, _, rfl, weak_refl _, _, _, rfl, weak_refl _, _, _, rfl, weak_refl _, _, _, rfl, weak_refl _, _, _, rfl, weak_refl _, _, _, rfl, weak_refl _, _, _, rfl, weak_nil 1, rfl⟩, by trivial⟩
    · have b2 : ((rd l q).tmod 11 == 2) = false := by simpa using ek2
      by_cases ek3 : (rd l q).tmod 11 = 3
      · have ek5 : ¬ (rd l q).tmod 11 = 5 := by omega
        have b3 : ((rd l q).tmod 11 == 3) = true := by simpa using ek3
        try simp (maxSteps := 1000000) only [go_region, go_seq, go_cond, go_ops_nil, go_op, opK_none, opK_some, contK_some, condK_t, condK_f, callOf, callK_eq, callJ_nil, callD_fn, fstep, fpre, fstep0, fbinA, fbin, fbin0, evs, St.ev, St.put, AV.owners, ownersAll, List.getD_cons_zero, List.getD_cons_succ, List.set, List.append_nil, true_and, Bool.true_and, b1, b2, b3]
        (refine callG_frame (reader_next l (q + 2) hl hb) [0] (by decide) rfl rfl rfl rfl ?_; rintro _ _ ⟨rfl, rfl⟩; refine ⟨rfl, ?_⟩)
        try simp (maxSteps := 1000000) only [go_region, go_seq, go_blk, go_ret, go_ops_nil, go_op, opK_none, contK_some, callOf, fstep, fpre, fstep0, fbinA, fbin, fbin0, fload, fcell, fstore, ffieldAddr, T, TI.isAgg, St.ev, St.put, splice, AV.cells, AV.known, AV.flat, Value.cells, Value.oneCell', ren, renAll, AB.ren, renM, putL, List.getD_cons_zero, List.getD_cons_succ, List.set, List.map_cons, List.map_nil, List.length_cons, List.length_nil, List.all_cons, List.all_nil, List.drop_succ_cons, List.drop_zero, List.take_succ_cons, List.take_zero, List.cons_append, List.nil_append, List.append_nil, List.getElem?_cons_zero, List.getElem?_cons_succ, List.getElem?_toArray, true_and, and_true, Bool.and_true, Bool.true_and, Bool.and_self, ↓reduceIte, reduceCtorEq, ne_eq, not_false_eq_true, Nat.reduceAdd, Nat.reduceLeDiff, Nat.le_refl, Nat.zero_add, Int.reduceEq]
        apply hK
        simp only [Tryd.results23, retK, ares, List.take_nil, Bool.and_true, Bool.true_and, AV.ofResults, St.trunc, truncVs, truncV, AB.trunc, aload, acell, T, TI.isAgg, List.getD_cons_zero, List.getD_cons_succ, List.take_zero, List.take_succ_cons, List.drop_zero, List.map_nil, List.map_cons, List.getElem?_cons_zero, List.getElem?_cons_succ, List.length_cons, List.length_nil, Nat.reduceAdd, Nat.le_refl, true_and, and_true, ↓reduceIte, List.cons.injEq, exists_eq_left']
        rw [opAt]
        simp only [ek3, if_true]
        exact ⟨.inr ⟨_, rfl, _, _, rfl, weak_refl _, _, _, rfl, weak_refl _, _, _, rfl, weak_refl _, _, _, rfl, weak_refl _, _, _, rfl, weak_refl _, _, _, rfl, weak_refl _, _, _, rfl, weak_nil 1, rfl⟩, by trivial⟩
      · have b3 : ((rd l q).tmod 11 == 3) = false := by simpa using ek3
        by_cases ek5 : (rd l q).tmod 11 = 5
        · have b5 : ((rd l q).tmod 11 == 5) = true := by simpa using ek5
          try simp (maxSteps := 1000000) only [go_region, go_seq, go_cond, go_ops_nil, go_op, opK_none, opK_some, contK_some, condK_t, condK_f, callOf, callK_eq, callJ_nil, callD_fn, fstep, fpre, fstep0, fbinA, fbin, fbin0, evs, St.ev, St.put, AV.owners, ownersAll, List.getD_cons_zero, List.getD_cons_succ, List.set, List.append_nil, true_and, Bool.true_and, b1, b2, b3, b5]
          (refine callG_frame (reader_next l (q + 2) hl hb) [0] (by decide) rfl rfl rfl rfl ?_; rintro _ _ ⟨rfl, rfl⟩; refine ⟨rfl, ?_⟩)
          try simp (maxSteps := 1000000) only [go_block, go_loop, go_ops_nil, go_op, opK_none, contK_some, callOf, fstep, fpre, fstep0, fbinA, fbin, fbin0, St.ev, St.put, ren, renAll, AB.ren, renM, putL, List.getD_cons_zero, List.getD_cons_succ, List.set, true_and, and_true, Bool.and_true, Bool.true_and, ne_eq, not_false_eq_true, Int.reduceEq]
          have hn := rem_wrap (rd_bd hb (q + 2)).1 (show (0 : Int) < 10 by decide) (by decide)
          obtain ⟨n, hn'⟩ : ∃ n : Nat, (rd l (q + 2)).tmod 10 = (n : Int) := ⟨((rd l (q + 2)).tmod 10).toNat, by omega⟩
          have hn10 : n < 10 := by omega
          rw [hn']
          refine loopK_turn (Turns.adoptIn (b := 2) (c := 6) 9 1 rfl rfl) ?_
          refine loopK_rule tyOk (α := Nat) 4 [0, 2, 3, 50, 51] (fun i => i ≤ n)
            (fun i => ⟨[.ptr 0 0, .any, .ptr 1 0, .ptr 2 0, .any, .any, .any, .any, .any, .any, .any, .any, .any, .any, .any, .any, .any, .any, .any, .any, .any, .any, .any, .any, .any, .any, .any, .any, .any, .any, .any, .any, .any, .any, .any, .any, .any, .any, .any, .any, .any, .any, .any, .any, .any, .any, .any, .any, .any, .any, i64 n, i64 i, .any, .any, .any, .any, .any, .any, .any, .any, .any, .any, .any, .any], [rdr l (q + 3 + i), .box [i64 0, str ⟨#[]⟩, i64 0, i64 0, i64 0, u64 0, .v (.slice none 0 0)],
              .box [i64 ((rd l q).tmod 11), str (un (rd l (q + 1))), i64 0, i64 0, i64 0, u64 0, .own 3 1 0 i], .row 9 1 ((unsAt l (q + 3) i).map str)]⟩)
            (fun i => n - i) 0 (by decide) (Nat.zero_le _) rfl ?_
          intro i hi
          try simp (maxSteps := 1000000) only [go_region, go_seq, go_cond, go_ops_nil, go_op, opK_none, contK_some, callOf, fstep, fpre, fstep0, fbinA, fbin, fbin0, St.ev, St.put, List.getD_cons_zero, List.getD_cons_succ, List.set, true_and, Bool.true_and]
          (first | refine guardV_split ?_ ?_ | refine condK_split ?_ ?_ | refine drawV_split ?_ ?_ | refine condY_split ?_ ?_ | refine guardY_split ?_ ?_) <;> intro h <;> try simp (maxSteps := 1000000) only [go_skip, go_region, go_seq, go_block, go_blk, go_exit, go_ret, go_draws, exitK_code, exitK_blk, exitK_nil, go_ops_nil, go_op, opK_none, contK_some, condK_t, condK_f, callOf, fstep, fpre, fstep0, fload, fcell, fstore, T, TI.isAgg, St.ev, St.put, splice, AV.cells, AV.known, AV.flat, Value.oneCell', List.getD_cons_zero, List.getD_cons_succ, List.set, List.length_cons, List.length_nil, List.all_cons, List.all_nil, List.drop_succ_cons, List.drop_zero, List.take_succ_cons, List.take_zero, List.nil_append, List.append_nil, List.getElem?_cons_zero, List.getElem?_cons_succ, true_and, and_true, Bool.and_true, Bool.true_and, Bool.and_self, ↓reduceIte, Nat.reduceAdd, Nat.le_refl, Nat.zero_add, loopX_exit]
          · have hlt : i < n := by have : (i : Int) < n := by simpa using h
                                   omega
            have hr3 := rd_bd hb (q + 3 + i)
            have ew3 : IntKind.u8.wrap (rd l (q + 3 + i)) = rd l (q + 3 + i) := wrap_u8 hr3.1 hr3.2
            refine draw_rule tyOk (by rfl) (by simp only [List.length_cons, List.length_nil, Nat.reduceAdd, Nat.reduceLeDiff]) (by kernel_rfl) rfl ?_
            try simp (maxSteps := 1000000) only [callOf, fstep0, newF, fload, fcell, ffieldAddr, evs, T, TI.isAgg, St.ev, St.put, List.getD_cons_zero, List.getD_cons_succ, List.set, List.length_cons, List.length_nil, List.drop_succ_cons, List.drop_zero, List.headD_cons, List.append_nil, List.getElem?_cons_zero, List.getElem?_cons_succ, List.replicate, List.getElem?_toArray, true_and, Bool.true_and, Bool.false_eq_true, ↓reduceIte, reduceCtorEq, ne_eq, not_false_eq_true, Nat.reduceAdd, Nat.reduceLT, Nat.add_zero, Nat.zero_add, newCount, drawR_op, drawP_none, drawP_some, drawQ_some, drawH_fn, dstep, isFree, St.app, bump, isNew]
            refine drawCall_on (reader_next l (q + 3 + i) hl hb) 0 rfl rfl rfl rfl rfl ?_
            try simp (maxSteps := 1000000) only [callOf, newF, fconvA, fconvert, evs, T, St.ev, St.put, ren, renAll, AB.ren, List.getD_cons_zero, List.getD_cons_succ, List.set, List.append_nil, true_and, Bool.true_and, Bool.false_eq_true, ↓reduceIte, Nat.reduceAdd, drawR_op, drawP_none, drawP_some, drawQ_some, drawH_fn, dstep, isFree, St.app, bump, isNew, ew3]
            refine drawCall_use (ocode_User _ hr3) rfl ?_
            have ew4 : IntKind.i64.wrap ((i : Int) + 1) = ((i + 1 : Nat) : Int) := by rw [wrap_i64 (by omega) (by omega)]; rfl
            have hul : ((unsAt l (q + 3) i).map str).length = i := by simp [unsAt]
            try simp (maxSteps := 1000000) only [go_nil, go_region, go_blk, go_ops_nil, go_op, opK_none, contK_some, undef, callOf, fstep, fpre, fstep0, fbinA, newF, fbin, fbin0, ffieldAddr, evParts, felems, T, TI.isAgg, TI.zeroOk, TI.zav, setParts, partsOk, St.ev, St.put, St.rehome, killV, killVs, AB.kill, splice, AV.cells, AV.known, AV.flat, AV.pure, Value.cells, Value.oneCell', List.getD_cons_zero, List.getD_cons_succ, List.set, List.map_cons, List.map_nil, List.length_cons, List.length_nil, List.all_cons, List.all_nil, List.drop_succ_cons, List.drop_zero, List.take_succ_cons, List.take_zero, List.headD_cons, List.cons_append, List.nil_append, List.append_nil, List.getElem?_cons_zero, List.getElem?_cons_succ, List.replicate, List.getElem?_toArray, true_and, and_true, Bool.and_true, Bool.true_and, Bool.and_self, Bool.or_true, Bool.false_eq_true, ↓reduceIte, decide_true, reduceCtorEq, ne_eq, not_false_eq_true, Nat.reduceAdd, Nat.reduceMul, Nat.reduceLeDiff, Nat.reduceEqDiff, Nat.reduceLT, Nat.le_refl, Nat.zero_add, drawR_nil, drawR_op, drawP_none, drawQ_some, dstep, isFree, dstore, dappend, dbuildSlice, St.app, bump, isNew, hul]
            refine ⟨⟨by simp only [maxLen]; omega, by omega⟩, ?_⟩
            refine ⟨by kernel_rfl, ?_⟩
            try simp (maxSteps := 1000000) only [ew4]
            simp only [loopX_normal, St.trunc, St.keep, truncVs, truncV, AB.trunc, keepV, List.elem_cons, List.elem_nil, List.take_succ_cons, List.take_zero, List.map_cons, List.map_nil, Nat.reduceAdd, Nat.reduceBEq, Nat.reduceLeDiff, Nat.zero_add, Bool.false_eq_true, ↓reduceIte]
            refine ⟨i + 1, hlt, by omega, ?_⟩
            rw [unsAt_next, List.map_append, show q + 3 + (i + 1) = q + 3 + i + 1 by omega]
            rfl
          · have hge : i = n := by have : ¬ (i : Int) < n := by simpa using h
                                   omega
            subst hge
            apply hK
            simp only [Tryd.results23, retK, ares, List.take_nil, Bool.and_true, Bool.true_and, AV.ofResults, St.trunc, truncVs, truncV, AB.trunc, aload, acell, T, TI.isAgg, List.getD_cons_zero, List.getD_cons_succ, List.take_zero, List.take_succ_cons, List.drop_zero, List.map_nil, List.map_cons, List.getElem?_cons_zero, List.getElem?_cons_succ, List.length_cons, List.length_nil, Nat.reduceAdd, Nat.reduceLeDiff, Nat.le_refl, true_and, and_true, ↓reduceIte, List.cons.injEq, exists_eq_left']
            have eo : opAt l q = (⟨(rd l q).tmod 11, un (rd l (q + 1)), 0, 0, 0, 0, unsAt l (q + 3) i⟩, q + 3 + i) := by
              simp only [opAt]
              rw [if_neg ek1, if_neg ek2, if_neg ek3, if_pos ek5, hn', Int.toNat_natCast]
            rw [eo, sl_full (by simp [unsAt])]
            exact ⟨weak_refl _, rfl⟩

        · have b5 : ((rd l q).tmod 11 == 5) = false := by simpa using ek5
          try simp (maxSteps := 1000000) only [go_skip, go_region, go_seq, go_cond, go_blk, go_ret, go_ops_nil, go_op, opK_none, contK_some, condK_f, callOf, fstep, fpre, fstep0, fbinA, fbin, fbin0, fload, fcell, fstore, T, TI.isAgg, St.ev, St.put, splice, AV.cells, AV.known, AV.flat, Value.oneCell', List.getD_cons_zero, List.getD_cons_succ, List.set, List.length_cons, List.length_nil, List.all_cons, List.all_nil, List.drop_succ_cons, List.drop_zero, List.take_succ_cons, List.take_zero, List.nil_append, List.append_nil, List.getElem?_cons_zero, List.getElem?_cons_succ, true_and, and_true, Bool.and_true, Bool.true_and, Bool.and_self, ↓reduceIte, Nat.reduceAdd, Nat.le_refl, Nat.zero_add, b1, b2, b3, b5]
          apply hK
          simp only [Tryd.results23, retK, ares, List.take_nil, Bool.and_true, Bool.true_and, AV.ofResults, St.trunc, truncVs, truncV, AB.trunc, aload, acell, T, TI.isAgg, List.getD_cons_zero, List.getD_cons_succ, List.take_zero, List.take_succ_cons, List.drop_zero, List.map_nil, List.map_cons, List.getElem?_cons_zero, List.getElem?_cons_succ, List.length_cons, List.length_nil, Nat.reduceAdd, Nat.le_refl, true_and, and_true, ↓reduceIte, List.cons.injEq, exists_eq_left']
          rw [opAt]
          simp only [ek1, ek2, ek3, ek5, if_false]
          exact ⟨.inr ⟨_, rfl, _, _, rfl, weak_refl _, _, _, rfl, weak_refl _, _, _, rfl, weak_refl _, _, _, rfl, weak_refl _, _, _, rfl, weak_refl _, _, _, rfl, weak_refl _, _, _, rfl, weak_nil 1, rfl⟩, by trivial⟩
end Go.Proofs.YthlfbdkhcejlmaaDoor
