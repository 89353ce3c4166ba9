/- A reply's words: package op's, and the document's. -/
import Derived.Test.YtinkcffklomneaaDoorMc
namespace Go.Proofs.YtinkcffklomneaaDoor
open Go Go.Proofs.YtinkcffklomneaaDoor.Sym
set_option maxRecDepth 100000
set_option linter.unusedSimpArgs false
set_option linter.unusedVariables false
structure Ev where
  user : ByteArray
  old : Pr
  new : Pr
  seq : Nat
structure Ev.ok (e : Ev) : Prop where
  user : e.user.size ≤ 100
  old : e.old.ok
  new : e.new.ok
  seq : e.seq < 18446744073709551616
abbrev Ev.av (e : Ev) : AV := .agg [str e.user, i64 e.old.st, i64 e.old.pr, i64 e.old.live, i64 e.new.st, i64 e.new.pr, i64 e.new.live, u64 e.seq]
def Ev.txt (e : Ev) : ByteArray := quo e.user ++ ⟨#[58]⟩ ++ e.old.txt ++ ⟨#[62]⟩ ++ e.new.txt ++ ⟨#[64]⟩ ++ dgt e.seq
abbrev prL (l : List Pr) : List AV := l.map Pr.av
abbrev evL (l : List Ev) : List AV := l.map Ev.av
structure Rep where
  err : Int
  vals : List Pr
  evts : List Ev
  lost : Bool
structure Rep.ok (r : Rep) : Prop where
  err : In64 r.err
  nv : r.vals.length ≤ 60
  ne : r.evts.length ≤ 60
  vals : ∀ p ∈ r.vals, p.ok
  evts : ∀ e ∈ r.evts, e.ok
abbrev Rep.cells (r : Rep) : List AV := [i64 r.err, .sl 3 (prL r.vals), .sl 8 (evL r.evts), bool r.lost]
abbrev Rep.av (r : Rep) : AV := .agg r.cells
abbrev lostB : ByteArray := ⟨#[108, 111, 115, 116]⟩
def Rep.words (r : Rep) : List ByteArray := r.vals.map Pr.txt ++ r.evts.map Ev.txt ++ if r.lost then [lostB] else []
def Rep.txt (r : Rep) : ByteArray := joinB spB (itB r.err :: r.words)
theorem Ev.txt_size (e : Ev) (h : e.ok) : e.txt.size ≤ 1200 := by
  have h1 := quo_size e.user
  have h2 := h.user
  have h3 := e.old.txt_size h.old
  have h4 := e.new.txt_size h.new
  have h5 := dgt_size _ h.seq
  have e1 : ByteArray.size ⟨#[58]⟩ = 1 := rfl
  have e2 : ByteArray.size ⟨#[62]⟩ = 1 := rfl
  have e3 : ByteArray.size ⟨#[64]⟩ = 1 := rfl
  simp only [Ev.txt, ByteArray.size_append, e1, e2, e3]
  omega
/-- Of words so far: how long they are. -/
theorem words_size {n : Nat} (x : ByteArray) (l : List ByteArray) (hx : x.size ≤ 1200) (hl : ∀ y ∈ l, y.size ≤ 1200) (hn : l.length ≤ 130) : (joinB spB (x :: l)).size ≤ 160000 := by
  have h1 := joinB_size 1200 x l (fun y hy => by
    rcases List.mem_cons.1 hy with rfl | hy
    · exact hx
    · exact hl y hy)
  have : (l.length + 1) * 1201 ≤ 131 * 1201 := Nat.mul_le_mul_right _ (by omega)
  omega
theorem vtxt_le {r : Rep} (h : r.ok) : ∀ y ∈ r.vals.map Pr.txt, y.size ≤ 1200 := by
  intro y hy
  obtain ⟨p, hp, rfl⟩ := List.mem_map.1 hy
  have := p.txt_size (h.vals p hp)
  omega
theorem etxt_le {r : Rep} (h : r.ok) : ∀ y ∈ r.evts.map Ev.txt, y.size ≤ 1200 := by
  intro y hy
  obtain ⟨p, hp, rfl⟩ := List.mem_map.1 hy
  exact p.txt_size (h.evts p hp)
theorem get_map {α : Type} {f : α → AV} {l : List α} {i : Nat} (h : i < l.length) : (l.map f).getD (Int.toNat (i : Int)) .any = f l[i] := by
  rw [Int.toNat_natCast]; simp [List.getD, h]
theorem prL_len (l : List Pr) : (prL l).length = l.length := by simp
theorem evL_len (l : List Ev) : (evL l).length = l.length := by simp
theorem take_map_snoc {α β : Type} {f : α → β} {l : List α} {i : Nat} (h : i < l.length) : (l.take (i + 1)).map f = (l.take i).map f ++ [f l[i]] := by
  rw [List.take_succ_eq_append_getElem h, List.map_append, List.map_cons, List.map_nil]

theorem op_Reply (r : Rep) (h : r.ok) : PCall P 14 [r.av] (fun y => y = str r.txt) := by
  have hv := h.nv
  have hn := h.ne
  have hi0 := itB_size _ h.err
  refine pcall_go tyOk Tryd.func14 rfl rfl ?_
  intro K hK
  simp only [Tryd.ntmps14, List.length_cons, List.length_nil, Nat.reduceAdd, Nat.reduceSub, List.replicate, List.cons_append, List.nil_append]
  try simp (maxSteps := 1000000) only [go_region, go_seq, go_ops_nil, go_op, opK_none, opK_some, contK_some, callOf, callK_eq, callJ_nil, callD_fn, fstep, fpre, fstep0, fload, fcell, ffieldAddr, evs, T, TI.isAgg, St.ev, St.put, AV.cells, AV.known, AV.owners, ownersAll, List.getD_cons_zero, List.getD_cons_succ, List.set, List.length_cons, List.length_nil, List.drop_zero, List.headD_cons, List.nil_append, List.append_nil, List.getElem?_cons_zero, List.getElem?_toArray, true_and, Bool.true_and, Bool.false_eq_true, ↓reduceIte, reduceCtorEq, ne_eq, not_false_eq_true, Nat.reduceAdd, Nat.reduceLT, Nat.add_zero, Nat.zero_add]
  (refine callG_use (op_digits r.err h.err) rfl ?_; rintro _ rfl)
  try simp (maxSteps := 1000000) only [go_region, go_seq, go_block, go_loop, go_ops_nil, go_op, opK_none, contK_some, undef, callOf, fstep, fpre, fstep0, fload, fcell, ffieldAddr, evParts, evOwners, fbuildSlice, flen, T, TI.isAgg, TI.zeroOk, TI.zav, setParts, partsOk, St.ev, St.put, St.shutAll, AV.cells, AV.known, AV.flat, AV.pure, AV.owners, Value.cells, Value.oneCell', List.getD_cons_zero, List.getD_cons_succ, List.set, List.map_cons, List.map_nil, List.length_cons, List.length_nil, List.all_cons, List.all_nil, List.drop_succ_cons, List.drop_zero, List.headD_cons, List.cons_append, List.nil_append, List.append_nil, List.getElem?_cons_zero, List.getElem?_cons_succ, List.replicate, List.getElem?_toArray, true_and, and_true, Bool.and_true, Bool.true_and, Bool.and_self, Bool.or_true, Bool.false_eq_true, ↓reduceIte, decide_true, reduceCtorEq, ne_eq, not_false_eq_true, Nat.reduceAdd, Nat.reduceMul, Nat.reduceLeDiff, Nat.reduceLT, Nat.zero_le, Nat.zero_add, prL_len]
  refine loopK_rule tyOk (α := Nat) 2 [1, 3, 13, 14, 15] (fun i => i ≤ r.vals.length)
    (fun i => ⟨[.any, .ptr 0 0, .any, .own 1 1 0 (i + 1), .any, .any, .any, .any, .any, .any, .any, .any, .any, .sl 3 (prL r.vals), i64 r.vals.length, i64 i, .any, .any, .any, .any, .any, .any, .any, .any, .any, .any, .any, .any, .any, .any, .any, .any, .any, .any, .any, .any, .any, .any, .any, .any, .any, .any, .any, .any, .any, .any, .any, .any, .any, .any, .any, .any, .any, .any, .any, .any, .any, .any, .any, .any, .any], [.box r.cells, .row 9 1 (strs (itB r.err :: (r.vals.take i).map Pr.txt))]⟩)
    (fun i => r.vals.length - i) 0 (by simp) (Nat.zero_le _) rfl ?_
  intro i hi
  try simp (maxSteps := 1000000) only [go_region, go_seq, go_cond, go_ops_nil, go_op, opK_none, contK_some, callOf, fstep, fpre, fstep0, fbinA, fbin, fbin0, St.ev, St.put, List.getD_cons_zero, List.getD_cons_succ, List.set, List.map_cons, true_and, Bool.true_and]
  (first | refine guardV_split ?_ ?_ | refine condK_split ?_ ?_ | refine drawV_split ?_ ?_ | refine condY_split ?_ ?_ | refine guardY_split ?_ ?_) <;> intro hf <;> try simp (maxSteps := 1000000) only [go_skip, go_region, go_seq, go_block, go_exit, go_loop, exitK_code, exitK_blk, exitK_nil, go_ops_nil, go_op, opK_none, opK_some, contK_some, condK_t, condK_f, callOf, callK_eq, fstep, fpre, fstep0, fload, fcell, fstore, ffieldAddr, findexAddr, flen, evs, T, TI.isAgg, St.ev, St.put, splice, AV.cells, AV.known, AV.owners, ownersAll, Value.cells, List.getD_cons_zero, List.getD_cons_succ, List.set, List.map_cons, List.map_nil, List.length_cons, List.length_nil, List.drop_succ_cons, List.drop_zero, List.take_zero, List.headD_cons, List.cons_append, List.nil_append, List.append_nil, List.getElem?_cons_zero, List.getElem?_cons_succ, List.getElem?_toArray, true_and, and_true, Bool.and_true, Bool.true_and, Bool.false_eq_true, ↓reduceIte, reduceCtorEq, ne_eq, not_false_eq_true, Nat.reduceAdd, Nat.reduceLT, Nat.le_refl, Nat.zero_add, loopX_exit, List.length_append]
  · have hlt : i < r.vals.length := by simpa using hf
    have eg : (prL r.vals).getD (Int.toNat (i : Int)) .any = (r.vals[i]).av := get_map hlt
    have ew : IntKind.i64.wrap ((i : Int) + 1) = ((i + 1 : Nat) : Int) := by rw [wrap_i64 (by omega) (by omega)]; rfl
    have b1 : (0 : Int) ≤ (i : Int) ∧ Int.toNat (i : Int) < r.vals.length := by omega
    try simp (maxSteps := 1000000) only [callJ_nil, callD_fn, evs, St.ev, AV.flat, AV.owners, ownersAll, Value.oneCell', List.getD_cons_zero, List.getD_cons_succ, List.length_cons, List.length_nil, List.all_cons, List.all_nil, List.drop_succ_cons, List.drop_zero, List.take_succ_cons, List.take_zero, List.append_nil, true_and, and_true, Bool.and_true, Bool.true_and, Bool.and_self, Nat.reduceAdd, Nat.le_refl, Nat.add_zero, Nat.zero_add, eg, b1, prL_len]
    (refine callG_use (op_Presence r.vals[i] (h.vals _ (List.getElem_mem _))) rfl ?_; rintro _ rfl)
    try simp (maxSteps := 1000000) only [go_nil, go_region, go_blk, go_ops_nil, go_op, opK_none, contK_some, undef, callOf, fstep, fpre, fstep0, fbinA, fbin, fbin0, evParts, evOwners, fbuildSlice, felems, fappend, T, TI.isAgg, TI.zeroOk, TI.zav, setParts, partsOk, St.ev, St.put, St.shutAll, St.rehome, killV, killVs, AB.kill, AV.cells, AV.known, AV.flat, AV.pure, AV.owners, Value.cells, Value.oneCell', List.getD_cons_zero, List.getD_cons_succ, List.set, List.map_cons, List.map_nil, List.length_cons, List.length_nil, List.all_cons, List.all_nil, List.drop_zero, List.take_succ_cons, List.take_zero, List.headD_cons, List.cons_append, List.nil_append, List.append_nil, List.getElem?_cons_zero, List.getElem?_cons_succ, List.replicate, true_and, and_true, Bool.and_true, Bool.true_and, Bool.and_self, Bool.or_true, Bool.false_eq_true, ↓reduceIte, decide_true, reduceCtorEq, Nat.reduceAdd, Nat.reduceMul, Nat.reduceLeDiff, Nat.reduceEqDiff, Nat.reduceLT, Nat.zero_le, Nat.le_refl, Nat.zero_add, ew]
    refine ⟨⟨by simp; omega, by simp only [maxLen]; omega, by omega⟩, ?_⟩
    simp only [loopX_normal, St.trunc, St.keep, truncVs, truncV, AB.trunc, keepV, pureAll, AV.pure, Bool.and_self, List.drop_zero, List.elem_cons, List.elem_nil, List.take_succ_cons, List.take_zero, List.map_cons, List.map_nil, List.getElem?_cons_zero, List.getElem?_cons_succ, List.length_cons, List.length_nil, Nat.reduceAdd, Nat.reduceBEq, Nat.reduceLeDiff, Nat.le_refl, Nat.zero_add, Bool.false_eq_true, ↓reduceIte]
    exact ⟨i + 1, hlt, by omega, by rw [take_map_snoc hlt]; simp only [List.map_append, List.map_cons, List.map_nil]⟩
  · obtain rfl : i = r.vals.length := by have := of_decide_eq_false hf; omega
    rw [List.take_length]
    try simp (maxSteps := 1000000) only [evL_len]
    refine loopK_rule tyOk (α := Nat) 2 [1, 3, 26, 27, 28] (fun i => i ≤ r.evts.length)
      (fun i => ⟨[.any, .ptr 0 0, .any, .own 1 1 0 (r.vals.length + 1 + i), .any, .any, .any, .any, .any, .any, .any, .any, .any, .any, .any, .any, .any, .any, .any, .any, .any, .any, .any, .any, .any, .any, .sl 8 (evL r.evts), i64 r.evts.length, i64 i, .any, .any, .any, .any, .any, .any, .any, .any, .any, .any, .any, .any, .any, .any, .any, .any, .any, .any, .any, .any, .any, .any, .any, .any, .any, .any, .any, .any, .any, .any, .any, .any], [.box r.cells, .row 9 1 (strs (itB r.err :: (r.vals.map Pr.txt ++ (r.evts.take i).map Ev.txt)))]⟩)
      (fun i => r.evts.length - i) 0 (by simp) (Nat.zero_le _) ?_ ?_
    · rw [List.take_zero, List.map_nil, List.append_nil]; rfl
    intro i hi
    try simp (maxSteps := 1000000) only [go_region, go_seq, go_cond, go_ops_nil, go_op, opK_none, contK_some, callOf, fstep, fpre, fstep0, fbinA, fbin, fbin0, St.ev, St.put, List.getD_cons_zero, List.getD_cons_succ, List.set, List.map_cons, true_and, Bool.true_and]
    (first | refine guardV_split ?_ ?_ | refine condK_split ?_ ?_ | refine drawV_split ?_ ?_ | refine condY_split ?_ ?_ | refine guardY_split ?_ ?_) <;> intro hf <;> try simp (maxSteps := 1000000) only [go_skip, go_region, go_seq, go_cond, go_block, go_exit, go_draws, exitK_code, exitK_blk, exitK_nil, go_ops_nil, go_op, opK_none, contK_some, condK_t, condK_f, callOf, fstep, fpre, fstep0, fload, fcell, fstore, ffieldAddr, findexAddr, T, TI.isAgg, St.ev, St.put, splice, AV.cells, AV.known, Value.cells, List.getD_cons_zero, List.getD_cons_succ, List.set, List.map_cons, List.map_nil, List.length_cons, List.length_nil, List.drop_succ_cons, List.drop_zero, List.take_zero, List.headD_cons, List.cons_append, List.nil_append, List.getElem?_cons_zero, List.getElem?_cons_succ, List.getElem?_toArray, true_and, and_true, Bool.and_true, Bool.true_and, Bool.false_eq_true, ↓reduceIte, reduceCtorEq, ne_eq, not_false_eq_true, Nat.reduceAdd, Nat.reduceLT, Nat.le_refl, Nat.zero_add, loopX_exit]
    · have hlt : i < r.evts.length := by simpa using hf
      have eg : (evL r.evts).getD (Int.toNat (i : Int)) .any = (r.evts[i]).av := get_map hlt
      have ew : IntKind.i64.wrap ((i : Int) + 1) = ((i + 1 : Nat) : Int) := by rw [wrap_i64 (by omega) (by omega)]; rfl
      have b1 : (0 : Int) ≤ (i : Int) ∧ Int.toNat (i : Int) < r.evts.length := by omega
      have he := h.evts _ (List.getElem_mem hlt)
      have q1 := quo_size (r.evts[i]).user
      have q2 := he.user
      have q3 := (r.evts[i]).old.txt_size he.old
      have q4 := (r.evts[i]).new.txt_size he.new
      have q5 := dgt_size _ he.seq
      have e1 : ByteArray.size ⟨#[58]⟩ = 1 := rfl
      have e2 : ByteArray.size ⟨#[62]⟩ = 1 := rfl
      have e3 : ByteArray.size ⟨#[64]⟩ = 1 := rfl
      have z1 : (((quo (r.evts[i]).user).size + ByteArray.size ⟨#[58]⟩ : Nat) : Int) ≤ 9223372036854775807 := by omega
      have z2 : (((quo (r.evts[i]).user).size + ByteArray.size ⟨#[58]⟩ + (r.evts[i]).old.txt.size : Nat) : Int) ≤ 9223372036854775807 := by omega
      have z3 : (((quo (r.evts[i]).user).size + ByteArray.size ⟨#[58]⟩ + (r.evts[i]).old.txt.size + ByteArray.size ⟨#[62]⟩ : Nat) : Int) ≤ 9223372036854775807 := by omega
      have z4 : (((quo (r.evts[i]).user).size + ByteArray.size ⟨#[58]⟩ + (r.evts[i]).old.txt.size + ByteArray.size ⟨#[62]⟩ + (r.evts[i]).new.txt.size : Nat) : Int) ≤ 9223372036854775807 := by omega
      have z5 : (((quo (r.evts[i]).user).size + ByteArray.size ⟨#[58]⟩ + (r.evts[i]).old.txt.size + ByteArray.size ⟨#[62]⟩ + (r.evts[i]).new.txt.size + ByteArray.size ⟨#[64]⟩ : Nat) : Int) ≤ 9223372036854775807 := by omega
      have z6 : (((quo (r.evts[i]).user).size + ByteArray.size ⟨#[58]⟩ + (r.evts[i]).old.txt.size + ByteArray.size ⟨#[62]⟩ + (r.evts[i]).new.txt.size + ByteArray.size ⟨#[64]⟩ + (dgt (r.evts[i]).seq).size : Nat) : Int) ≤ 9223372036854775807 := by omega
      try simp (maxSteps := 1000000) only [AV.flat, Value.oneCell', List.length_cons, List.length_nil, List.all_cons, List.all_nil, List.drop_succ_cons, List.drop_zero, List.take_succ_cons, List.take_zero, List.append_nil, true_and, and_true, Bool.and_true, Bool.true_and, Bool.and_self, Nat.reduceAdd, Nat.le_refl, Nat.zero_add, eg, b1, evL_len]
      refine draw_rule tyOk (by rfl) (by simp only [List.length_cons, List.length_nil, Nat.reduceAdd, Nat.zero_le]) (by kernel_rfl) rfl ?_
      try simp (maxSteps := 1000000) only [callOf, fstep0, newF, fload, fcell, ffieldAddr, evs, T, TI.isAgg, St.ev, St.put, List.getD_cons_zero, List.getD_cons_succ, List.set, List.length_cons, List.length_nil, List.drop_zero, List.headD_cons, List.append_nil, List.getElem?_cons_zero, List.getElem?_cons_succ, List.replicate, List.getElem?_toArray, true_and, Bool.true_and, Bool.false_eq_true, ↓reduceIte, reduceCtorEq, ne_eq, not_false_eq_true, Nat.reduceAdd, Nat.reduceLT, Nat.add_zero, Nat.zero_add, newCount, drawR_op, drawP_none, drawP_some, drawQ_some, drawH_fn, dstep, isFree, St.app, bump, isNew]
      refine drawCall_use (op_quoted (r.evts[i]).user (by omega)) rfl ?_
      try simp (maxSteps := 1000000) only [callOf, fstep0, fbinA, newF, fbin, fbin0, fload, fcell, ffieldAddr, evs, T, TI.isAgg, St.ev, St.put, List.getD_cons_zero, List.getD_cons_succ, List.set, List.length_cons, List.length_nil, List.drop_succ_cons, List.drop_zero, List.take_succ_cons, List.take_zero, List.append_nil, List.getElem?_cons_zero, List.getElem?_cons_succ, List.getElem?_toArray, true_and, Bool.true_and, Bool.false_eq_true, ↓reduceIte, reduceCtorEq, ne_eq, not_false_eq_true, Nat.reduceAdd, Nat.reduceLeDiff, Nat.zero_add, drawR_op, drawP_none, drawP_some, drawQ_some, drawH_fn, dstep, isFree, St.app, bump, isNew, z1]
      refine drawCall_use (op_Presence (r.evts[i]).old he.old) rfl ?_
      try simp (maxSteps := 1000000) only [callOf, fstep0, fbinA, newF, fbin, fbin0, fload, fcell, ffieldAddr, evs, T, TI.isAgg, St.ev, St.put, List.getD_cons_zero, List.getD_cons_succ, List.set, List.length_cons, List.length_nil, List.drop_succ_cons, List.drop_zero, List.take_succ_cons, List.take_zero, List.append_nil, List.getElem?_cons_zero, List.getElem?_cons_succ, List.getElem?_toArray, true_and, Bool.true_and, Bool.false_eq_true, ↓reduceIte, reduceCtorEq, ne_eq, not_false_eq_true, Nat.reduceAdd, Nat.reduceLeDiff, Nat.zero_add, drawR_op, drawP_none, drawP_some, drawQ_some, drawH_fn, dstep, isFree, St.app, bump, isNew, ByteArray.size_append, z2, z3]
      refine drawCall_use (op_Presence (r.evts[i]).new he.new) rfl ?_
      try simp (maxSteps := 1000000) only [callOf, fstep0, fbinA, newF, fbin, fbin0, fload, fcell, ffieldAddr, evs, T, TI.isAgg, St.ev, St.put, List.getD_cons_zero, List.getD_cons_succ, List.set, List.length_cons, List.length_nil, List.drop_succ_cons, List.drop_zero, List.headD_cons, List.append_nil, List.getElem?_cons_zero, List.getElem?_cons_succ, List.getElem?_toArray, true_and, Bool.true_and, Bool.false_eq_true, ↓reduceIte, reduceCtorEq, ne_eq, not_false_eq_true, Nat.reduceAdd, Nat.reduceLT, Nat.zero_add, drawR_op, drawP_none, drawP_some, drawQ_some, drawH_fn, dstep, isFree, St.app, bump, isNew, ByteArray.size_append, z4, z5]
      refine drawCall_use (op_digitsU (r.evts[i]).seq he.seq) rfl ?_
      try simp (maxSteps := 1000000) only [go_nil, go_region, go_blk, go_ops_nil, go_op, opK_none, contK_some, undef, callOf, fstep, fpre, fstep0, fbinA, newF, fbin, fbin0, evParts, felems, T, TI.isAgg, TI.zeroOk, TI.zav, setParts, partsOk, St.ev, St.put, St.rehome, killV, killVs, AB.kill, AV.cells, AV.known, AV.flat, AV.pure, Value.cells, Value.oneCell', List.getD_cons_zero, List.getD_cons_succ, List.set, List.map_cons, List.map_nil, List.length_cons, List.length_nil, List.all_cons, List.all_nil, List.headD_cons, List.cons_append, List.getElem?_cons_zero, List.getElem?_cons_succ, List.replicate, true_and, and_true, Bool.and_true, Bool.true_and, Bool.and_self, Bool.or_true, Bool.false_eq_true, ↓reduceIte, decide_true, reduceCtorEq, Nat.reduceAdd, Nat.reduceMul, Nat.reduceLeDiff, Nat.reduceEqDiff, Nat.reduceLT, Nat.zero_le, Nat.zero_add, drawR_nil, drawR_op, drawP_none, drawQ_some, dstep, isFree, dappend, dbuildSlice, St.app, bump, isNew, ByteArray.size_append, z6]
      refine ⟨⟨by simp; omega, by simp only [maxLen]; omega, by omega⟩, ?_⟩
      refine ⟨by kernel_rfl, ?_⟩
      try simp (maxSteps := 1000000) only [ew]
      simp only [loopX_normal, St.trunc, St.keep, truncVs, truncV, AB.trunc, keepV, pureAll, AV.pure, Bool.and_self, List.drop_zero, List.drop_succ_cons, List.elem_cons, List.elem_nil, List.take_succ_cons, List.take_zero, List.map_cons, List.map_nil, List.getElem?_cons_zero, List.getElem?_cons_succ, Nat.reduceAdd, Nat.reduceBEq, Nat.reduceLeDiff, Nat.le_refl, Nat.zero_add, Bool.false_eq_true, ↓reduceIte]
      exact ⟨i + 1, hlt, by omega, by rw [take_map_snoc hlt]; simp only [List.map_append, List.map_cons, List.map_nil, ← List.append_assoc]; rfl⟩
    · obtain rfl : i = r.evts.length := by have := of_decide_eq_false hf; omega
      rw [List.take_length]
      have hw2 := vtxt_le h
      have hw3 := etxt_le h
      have hls := words_size (n := 0) (itB r.err) r.words (by omega) (fun y hy => by
        unfold Rep.words at hy
        rcases List.mem_append.1 hy with hy | hy
        · rcases List.mem_append.1 hy with hy | hy
          · exact hw2 y hy
          · exact hw3 y hy
        · split at hy
          · simp at hy; subst hy; decide
          · cases hy) (by
        unfold Rep.words
        simp only [List.length_append, List.length_map]
        split <;> simp <;> omega)
      have hlw : r.words.length ≤ 130 := by
        unfold Rep.words
        simp only [List.length_append, List.length_map]
        split <;> simp <;> omega
      unfold Rep.txt at hK
      cases hl : r.lost
      · have hw : r.words = r.vals.map Pr.txt ++ r.evts.map Ev.txt := by unfold Rep.words; simp [hl]
        rw [hw] at hK hls hlw
        have em : (List.map (fun s => str s) (r.vals.map Pr.txt ++ r.evts.map Ev.txt)).length + 1 = r.vals.length + 1 + r.evts.length := by simp; omega
        have et : List.take (r.vals.length + 1 + r.evts.length) (str (itB r.err) :: List.map (fun s => str s) (r.vals.map Pr.txt ++ r.evts.map Ev.txt)) = str (itB r.err) :: List.map (fun s => str s) (r.vals.map Pr.txt ++ r.evts.map Ev.txt) := List.take_of_length_le (by rw [List.length_cons, em]; exact Nat.le_refl _)
        try simp (maxSteps := 1000000) only [go_skip, go_region, go_seq, go_op, opK_none, opK_some, contK_some, condK_f, callOf, callK_eq, callJ_cons, fstep, fpre, fstep0, evs, St.ev, St.put, AV.owners, ownersAll, List.getD_cons_zero, List.getD_cons_succ, List.set, List.append_nil, true_and, Bool.true_and]
        refine callO_shut ?_
        try simp (maxSteps := 1000000) only [callH_fn, evs, St.ev, St.shutAll, St.shut, shutV, shutVs, AB.shut, List.getD_cons_zero, List.getD_cons_succ, List.set, List.map_cons, List.map_nil, List.length_cons, List.all_cons, List.all_nil, List.drop_zero, List.append_nil, List.getElem?_cons_zero, List.getElem?_cons_succ, true_and, and_true, Bool.and_true, Bool.true_and, Bool.and_self, ↓reduceIte, decide_true, reduceCtorEq, Nat.zero_le, Nat.le_refl, Nat.zero_add, em, et]
        (refine callG_use (op_words (itB r.err) (r.vals.map Pr.txt ++ r.evts.map Ev.txt) (by rw [List.length_cons]; omega) (by exact Nat.le_trans hls (by omega))) rfl ?_; rintro _ rfl)
        try simp (maxSteps := 1000000) only [go_ret, go_ops_nil, go_op, opK_none, contK_some, callOf, fstep, fpre, fstep0, St.ev, St.put, List.getD_cons_zero, List.getD_cons_succ, List.set, true_and, Bool.true_and]
        apply hK
        simp only [Tryd.results14, retK, ares, Bool.and_true, Bool.true_and, AV.ofResults, St.trunc, truncVs, truncV, List.getD_cons_zero, List.getD_cons_succ, List.take_zero, List.map_nil, true_and, and_true, List.cons.injEq, exists_eq_left']
      · have hw : r.words = (r.vals.map Pr.txt ++ r.evts.map Ev.txt) ++ [lostB] := by unfold Rep.words; simp [hl]
        rw [hw] at hK hls hlw
        have em : (List.map (fun s => str s) (r.vals.map Pr.txt ++ r.evts.map Ev.txt)).length + 1 = r.vals.length + 1 + r.evts.length := by simp; omega
        have em2 : (List.map (fun s => str s) (r.vals.map Pr.txt ++ r.evts.map Ev.txt) ++ [str lostB]).length + 1 = r.vals.length + 1 + r.evts.length + 1 := by simp; omega
        have et : List.take (r.vals.length + 1 + r.evts.length + 1) (str (itB r.err) :: (List.map (fun s => str s) (r.vals.map Pr.txt ++ r.evts.map Ev.txt) ++ [str lostB])) = str (itB r.err) :: (List.map (fun s => str s) (r.vals.map Pr.txt ++ r.evts.map Ev.txt) ++ [str lostB]) := List.take_of_length_le (by rw [List.length_cons, em2]; exact Nat.le_refl _)
        try simp (maxSteps := 1000000) only [go_region, go_seq, go_ops_nil, go_op, opK_none, opK_some, contK_some, condK_t, undef, callOf, callK_eq, callJ_cons, fstep, fpre, fstep0, evParts, evOwners, fbuildSlice, felems, fappend, evs, T, TI.isAgg, TI.zeroOk, TI.zav, setParts, partsOk, St.ev, St.put, St.shutAll, St.rehome, killV, killVs, AB.kill, AV.cells, AV.known, AV.flat, AV.pure, AV.owners, ownersAll, Value.cells, Value.oneCell', List.getD_cons_zero, List.getD_cons_succ, List.set, List.map_cons, List.map_nil, List.length_cons, List.length_nil, List.all_cons, List.all_nil, List.drop_zero, List.take_succ_cons, List.take_zero, List.headD_cons, List.cons_append, List.nil_append, List.append_nil, List.getElem?_cons_zero, List.getElem?_cons_succ, List.replicate, true_and, and_true, Bool.and_true, Bool.true_and, Bool.and_self, Bool.or_true, Bool.false_eq_true, ↓reduceIte, decide_true, reduceCtorEq, Nat.reduceAdd, Nat.reduceMul, Nat.reduceLeDiff, Nat.reduceEqDiff, Nat.reduceLT, Nat.zero_le, Nat.le_refl, Nat.zero_add, hl]
        refine ⟨⟨em, by simp only [maxLen]; omega, by omega⟩, ?_⟩
        refine callO_shut ?_
        try simp (maxSteps := 1000000) only [callH_fn, evs, St.ev, St.shutAll, St.shut, shutV, shutVs, AB.shut, List.getD_cons_zero, List.getD_cons_succ, List.set, List.map_cons, List.map_nil, List.length_cons, List.length_nil, List.all_cons, List.all_nil, List.drop_zero, List.append_nil, List.getElem?_cons_zero, List.getElem?_cons_succ, true_and, and_true, Bool.and_true, Bool.true_and, Bool.and_self, ↓reduceIte, decide_true, reduceCtorEq, Nat.reduceEqDiff, Nat.zero_le, Nat.le_refl, Nat.zero_add, List.length_append, em, et]
        have hop := op_words (itB r.err) ((r.vals.map Pr.txt ++ r.evts.map Ev.txt) ++ [lostB]) (by rw [List.length_cons]; omega) (by exact Nat.le_trans hls (by omega))
        have ehop : strs (itB r.err :: ((r.vals.map Pr.txt ++ r.evts.map Ev.txt) ++ [lostB])) = str (itB r.err) :: (List.map (fun s => str s) (r.vals.map Pr.txt ++ r.evts.map Ev.txt) ++ [str lostB]) := by
          rw [strs, List.map_cons, List.map_append (l₁ := r.vals.map Pr.txt ++ r.evts.map Ev.txt)]; rfl
        rw [ehop] at hop
        (refine callG_use hop rfl ?_; rintro _ rfl)
        try simp (maxSteps := 1000000) only [go_ret, go_ops_nil, go_op, opK_none, contK_some, callOf, fstep, fpre, fstep0, St.ev, St.put, List.getD_cons_zero, List.getD_cons_succ, List.set, true_and, Bool.true_and]
        apply hK
        simp only [Tryd.results14, retK, ares, Bool.and_true, Bool.true_and, AV.ofResults, St.trunc, truncVs, truncV, List.getD_cons_zero, List.getD_cons_succ, List.take_zero, List.map_nil, true_and, and_true, List.cons.injEq, exists_eq_left']

theorem ref_Reply (r : Rep) (h : r.ok) : PCall P 15 [r.av] (fun y => y = str r.txt) := by
  have hv := h.nv
  have hn := h.ne
  have hi0 := itB_size _ h.err
  have hw2 := vtxt_le h
  have hw3 := etxt_le h
  have es : ByteArray.size spB = 1 := rfl
  refine pcall_go tyOk Tryd.func15 rfl rfl ?_
  intro K hK
  simp only [Tryd.ntmps15, List.length_cons, List.length_nil, Nat.reduceAdd, Nat.reduceSub, List.replicate, List.cons_append, List.nil_append]
  try simp (maxSteps := 1000000) only [go_region, go_seq, go_ops_nil, go_op, opK_none, opK_some, contK_some, callOf, callK_eq, callJ_nil, callD_fn, fstep, fpre, fstep0, fload, fcell, ffieldAddr, evs, T, TI.isAgg, St.ev, St.put, AV.cells, AV.known, AV.owners, ownersAll, List.getD_cons_zero, List.getD_cons_succ, List.set, List.length_cons, List.length_nil, List.drop_zero, List.headD_cons, List.nil_append, List.append_nil, List.getElem?_cons_zero, List.getElem?_toArray, true_and, Bool.true_and, Bool.false_eq_true, ↓reduceIte, reduceCtorEq, ne_eq, not_false_eq_true, Nat.reduceAdd, Nat.reduceLT, Nat.add_zero, Nat.zero_add]
  (refine callG_use (ref_Int r.err h.err) rfl ?_; rintro _ rfl)
  try simp (maxSteps := 1000000) only [go_region, go_seq, go_block, go_loop, go_ops_nil, go_op, opK_none, contK_some, callOf, fstep, fpre, fstep0, St.ev, St.put, List.getD_cons_zero, List.getD_cons_succ, List.set, true_and, Bool.true_and]
  refine loopK_rule tyOk (α := Nat) 1 [1, 3, 4] (fun i => i ≤ r.vals.length)
    (fun i => ⟨[.any, .ptr 0 0, .any, str (joinB spB (itB r.err :: (r.vals.take i).map Pr.txt)), i64 i, .any, .any, .any, .any, .any, .any, .any, .any, .any, .any, .any, .any, .any, .any, .any, .any, .any, .any, .any, .any, .any, .any, .any, .any, .any, .any, .any, .any, .any, .any, .any, .any, .any, .any, .any, .any, .any, .any, .any, .any, .any, .any, .any, .any, .any, .any, .any, .any, .any, .any, .any, .any, .any, .any, .any, .any, .any, .any, .any], [.box r.cells]⟩)
    (fun i => r.vals.length - i) 0 (by simp) (Nat.zero_le _) rfl ?_
  intro i hi
  try simp (maxSteps := 1000000) only [go_region, go_seq, go_cond, go_ops_nil, go_op, opK_none, contK_some, callOf, fstep, fpre, fstep0, fbinA, fbin, fbin0, fload, fcell, ffieldAddr, flen, T, TI.isAgg, St.ev, St.put, List.getD_cons_zero, List.getD_cons_succ, List.set, List.length_cons, List.length_nil, List.drop_succ_cons, List.drop_zero, List.headD_cons, List.getElem?_cons_zero, List.getElem?_cons_succ, List.getElem?_toArray, true_and, Bool.true_and, Bool.false_eq_true, ↓reduceIte, reduceCtorEq, ne_eq, not_false_eq_true, Nat.reduceAdd, Nat.reduceLT, Nat.zero_add, prL_len]
  (first | refine guardV_split ?_ ?_ | refine condK_split ?_ ?_ | refine drawV_split ?_ ?_ | refine condY_split ?_ ?_ | refine guardY_split ?_ ?_) <;> intro hf <;> try simp (maxSteps := 1000000) only [go_skip, go_region, go_seq, go_block, go_exit, go_loop, exitK_code, exitK_blk, exitK_nil, go_ops_nil, go_op, opK_none, opK_some, contK_some, condK_t, condK_f, callOf, callK_eq, fstep, fpre, fstep0, fbinA, fbin, fbin0, fload, fcell, ffieldAddr, findexAddr, evs, T, TI.isAgg, St.ev, St.put, AV.cells, AV.known, AV.owners, ownersAll, Value.cells, List.getD_cons_zero, List.getD_cons_succ, List.set, List.length_cons, List.length_nil, List.drop_succ_cons, List.drop_zero, List.headD_cons, List.append_nil, List.getElem?_cons_zero, List.getElem?_cons_succ, List.getElem?_toArray, true_and, Bool.true_and, Bool.false_eq_true, ↓reduceIte, reduceCtorEq, ne_eq, not_false_eq_true, Nat.reduceAdd, Nat.reduceLT, Nat.zero_add, loopX_exit]
  · have hlt : i < r.vals.length := by simpa using hf
    have eg : (prL r.vals).getD (Int.toNat (i : Int)) .any = (r.vals[i]).av := get_map hlt
    have ew : IntKind.i64.wrap ((i : Int) + 1) = ((i + 1 : Nat) : Int) := by rw [wrap_i64 (by omega) (by omega)]; rfl
    have b1 : (0 : Int) ≤ (i : Int) ∧ Int.toNat (i : Int) < r.vals.length := by omega
    have hp := h.vals _ (List.getElem_mem hlt)
    have hq := (r.vals[i]).txt_size hp
    have hj := words_size (n := 0) (itB r.err) ((r.vals.take i).map Pr.txt) (by omega) (fun y hy => hw2 y (by obtain ⟨z, hz, rfl⟩ := List.mem_map.1 hy; exact List.mem_map_of_mem (List.mem_of_mem_take hz))) (by rw [List.length_map, List.length_take]; omega)
    have z1 : (((joinB spB (itB r.err :: (r.vals.take i).map Pr.txt)).size + ByteArray.size spB : Nat) : Int) ≤ 9223372036854775807 := by omega
    have z2 : (((joinB spB (itB r.err :: (r.vals.take i).map Pr.txt)).size + ByteArray.size spB + (r.vals[i]).txt.size : Nat) : Int) ≤ 9223372036854775807 := by omega
    try simp (maxSteps := 1000000) only [callJ_nil, callD_fn, evs, St.ev, AV.owners, ownersAll, List.getD_cons_zero, List.getD_cons_succ, List.length_cons, List.length_nil, List.take_succ_cons, List.take_zero, List.append_nil, true_and, and_true, Bool.and_true, Bool.true_and, Nat.reduceAdd, Nat.le_refl, Nat.zero_add, eg, b1, prL_len, z1]
    (refine callG_use (ref_Presence r.vals[i] hp) rfl ?_; rintro _ rfl)
    try simp (maxSteps := 1000000) only [go_nil, go_region, go_blk, go_ops_nil, go_op, opK_none, contK_some, callOf, fstep, fpre, fstep0, fbinA, fbin, fbin0, St.ev, St.put, List.getD_cons_zero, List.getD_cons_succ, List.set, true_and, Bool.true_and, ew, ByteArray.size_append, z2]
    simp only [loopX_normal, St.trunc, St.keep, truncVs, truncV, AB.trunc, keepV, List.elem_cons, List.elem_nil, List.take_succ_cons, List.take_zero, List.map_cons, List.map_nil, Nat.reduceAdd, Nat.reduceBEq, Nat.reduceLeDiff, Nat.zero_add, Bool.false_eq_true, ↓reduceIte]
    exact ⟨i + 1, hlt, by omega, by rw [take_map_snoc hlt, joinB_snoc]⟩
  · obtain rfl : i = r.vals.length := by have := of_decide_eq_false hf; omega
    rw [List.take_length]
    skip
    refine loopK_rule tyOk (α := Nat) 1 [1, 3, 5] (fun i => i ≤ r.evts.length)
      (fun i => ⟨[.any, .ptr 0 0, .any, str (joinB spB (itB r.err :: (r.vals.map Pr.txt ++ (r.evts.take i).map Ev.txt))), .any, i64 i, .any, .any, .any, .any, .any, .any, .any, .any, .any, .any, .any, .any, .any, .any, .any, .any, .any, .any, .any, .any, .any, .any, .any, .any, .any, .any, .any, .any, .any, .any, .any, .any, .any, .any, .any, .any, .any, .any, .any, .any, .any, .any, .any, .any, .any, .any, .any, .any, .any, .any, .any, .any, .any, .any, .any, .any, .any, .any], [.box r.cells]⟩)
      (fun i => r.evts.length - i) 0 (by simp) (Nat.zero_le _) ?_ ?_
    · rw [List.take_zero, List.map_nil, List.append_nil]; rfl
    intro i hi
    try simp (maxSteps := 1000000) only [go_region, go_seq, go_cond, go_ops_nil, go_op, opK_none, contK_some, callOf, fstep, fpre, fstep0, fbinA, fbin, fbin0, fload, fcell, ffieldAddr, flen, T, TI.isAgg, St.ev, St.put, List.getD_cons_zero, List.getD_cons_succ, List.set, List.length_cons, List.length_nil, List.drop_succ_cons, List.drop_zero, List.headD_cons, List.getElem?_cons_zero, List.getElem?_cons_succ, List.getElem?_toArray, true_and, Bool.true_and, Bool.false_eq_true, ↓reduceIte, reduceCtorEq, ne_eq, not_false_eq_true, Nat.reduceAdd, Nat.reduceLT, Nat.zero_add, evL_len]
    (first | refine guardV_split ?_ ?_ | refine condK_split ?_ ?_ | refine drawV_split ?_ ?_ | refine condY_split ?_ ?_ | refine guardY_split ?_ ?_) <;> intro hf <;> try simp (maxSteps := 1000000) only [go_skip, go_region, go_seq, go_cond, go_block, go_exit, go_draws, exitK_code, exitK_blk, exitK_nil, go_ops_nil, go_op, opK_none, contK_some, condK_t, condK_f, callOf, fstep, fpre, fstep0, fload, fcell, fstore, ffieldAddr, findexAddr, T, TI.isAgg, St.ev, St.put, splice, AV.cells, AV.known, Value.cells, List.getD_cons_zero, List.getD_cons_succ, List.set, List.map_cons, List.map_nil, List.length_cons, List.length_nil, List.drop_succ_cons, List.drop_zero, List.take_zero, List.headD_cons, List.cons_append, List.nil_append, List.getElem?_cons_zero, List.getElem?_cons_succ, List.getElem?_toArray, true_and, and_true, Bool.and_true, Bool.true_and, Bool.false_eq_true, ↓reduceIte, reduceCtorEq, ne_eq, not_false_eq_true, Nat.reduceAdd, Nat.reduceLT, Nat.le_refl, Nat.zero_add, loopX_exit]
    · have hlt : i < r.evts.length := by simpa using hf
      have eg : (evL r.evts).getD (Int.toNat (i : Int)) .any = (r.evts[i]).av := get_map hlt
      have ew : IntKind.i64.wrap ((i : Int) + 1) = ((i + 1 : Nat) : Int) := by rw [wrap_i64 (by omega) (by omega)]; rfl
      have b1 : (0 : Int) ≤ (i : Int) ∧ Int.toNat (i : Int) < r.evts.length := by omega
      have he := h.evts _ (List.getElem_mem hlt)
      have q1 := quo_size (r.evts[i]).user
      have q2 := he.user
      have q3 := (r.evts[i]).old.txt_size he.old
      have q4 := (r.evts[i]).new.txt_size he.new
      have q5 := dgt_size _ he.seq
      have hj := words_size (n := 0) (itB r.err) (r.vals.map Pr.txt ++ (r.evts.take i).map Ev.txt) (by omega) (fun y hy => by
        rcases List.mem_append.1 hy with hy | hy
        · exact hw2 y hy
        · obtain ⟨z, hz, rfl⟩ := List.mem_map.1 hy; exact hw3 _ (List.mem_map_of_mem (List.mem_of_mem_take hz))) (by rw [List.length_append, List.length_map, List.length_map, List.length_take]; omega)
      generalize hJ : joinB spB (itB r.err :: (r.vals.map Pr.txt ++ (r.evts.take i).map Ev.txt)) = J at *
      have e1 : ByteArray.size ⟨#[58]⟩ = 1 := rfl
      have e2 : ByteArray.size ⟨#[62]⟩ = 1 := rfl
      have e3 : ByteArray.size ⟨#[64]⟩ = 1 := rfl
      have z1 : ((J.size + ByteArray.size spB : Nat) : Int) ≤ 9223372036854775807 := by omega
      have z2 : ((J.size + ByteArray.size spB + (quo (r.evts[i]).user).size : Nat) : Int) ≤ 9223372036854775807 := by omega
      have z3 : ((J.size + ByteArray.size spB + (quo (r.evts[i]).user).size + ByteArray.size ⟨#[58]⟩ : Nat) : Int) ≤ 9223372036854775807 := by omega
      have z4 : ((J.size + ByteArray.size spB + (quo (r.evts[i]).user).size + ByteArray.size ⟨#[58]⟩ + (r.evts[i]).old.txt.size : Nat) : Int) ≤ 9223372036854775807 := by omega
      have z5 : ((J.size + ByteArray.size spB + (quo (r.evts[i]).user).size + ByteArray.size ⟨#[58]⟩ + (r.evts[i]).old.txt.size + ByteArray.size ⟨#[62]⟩ : Nat) : Int) ≤ 9223372036854775807 := by omega
      have z6 : ((J.size + ByteArray.size spB + (quo (r.evts[i]).user).size + ByteArray.size ⟨#[58]⟩ + (r.evts[i]).old.txt.size + ByteArray.size ⟨#[62]⟩ + (r.evts[i]).new.txt.size : Nat) : Int) ≤ 9223372036854775807 := by omega
      have z7 : ((J.size + ByteArray.size spB + (quo (r.evts[i]).user).size + ByteArray.size ⟨#[58]⟩ + (r.evts[i]).old.txt.size + ByteArray.size ⟨#[62]⟩ + (r.evts[i]).new.txt.size + ByteArray.size ⟨#[64]⟩ : Nat) : Int) ≤ 9223372036854775807 := by omega
      have z8 : ((J.size + ByteArray.size spB + (quo (r.evts[i]).user).size + ByteArray.size ⟨#[58]⟩ + (r.evts[i]).old.txt.size + ByteArray.size ⟨#[62]⟩ + (r.evts[i]).new.txt.size + ByteArray.size ⟨#[64]⟩ + (dgt (r.evts[i]).seq).size : Nat) : Int) ≤ 9223372036854775807 := by omega
      try simp (maxSteps := 1000000) only [AV.flat, Value.oneCell', List.length_cons, List.length_nil, List.all_cons, List.all_nil, List.drop_succ_cons, List.drop_zero, List.take_succ_cons, List.take_zero, List.append_nil, true_and, and_true, Bool.and_true, Bool.true_and, Bool.and_self, Nat.reduceAdd, Nat.le_refl, Nat.zero_add, eg, b1, evL_len]
      refine draw_rule tyOk (by rfl) (by simp only [List.length_cons, List.length_nil, Nat.reduceAdd, Nat.zero_le]) (by kernel_rfl) rfl ?_
      try simp (maxSteps := 1000000) only [callOf, fstep0, fbinA, newF, fbin, fbin0, fload, fcell, ffieldAddr, evs, T, TI.isAgg, St.ev, St.put, List.getD_cons_zero, List.getD_cons_succ, List.set, List.length_cons, List.length_nil, List.drop_zero, List.headD_cons, List.append_nil, List.getElem?_cons_zero, List.getElem?_cons_succ, List.replicate, List.getElem?_toArray, true_and, Bool.true_and, Bool.false_eq_true, ↓reduceIte, reduceCtorEq, ne_eq, not_false_eq_true, Nat.reduceAdd, Nat.reduceLT, Nat.add_zero, Nat.zero_add, newCount, drawR_op, drawP_none, drawP_some, drawQ_some, drawH_fn, dstep, isFree, St.app, bump, isNew, z1]
      refine drawCall_use (quote_call (r.evts[i]).user (by omega)) rfl ?_
      try simp (maxSteps := 1000000) only [callOf, fstep0, fbinA, newF, fbin, fbin0, fload, fcell, ffieldAddr, evs, T, TI.isAgg, St.ev, St.put, List.getD_cons_zero, List.getD_cons_succ, List.set, List.length_cons, List.length_nil, List.drop_succ_cons, List.drop_zero, List.take_succ_cons, List.take_zero, List.append_nil, List.getElem?_cons_zero, List.getElem?_cons_succ, List.getElem?_toArray, true_and, Bool.true_and, Bool.false_eq_true, ↓reduceIte, reduceCtorEq, ne_eq, not_false_eq_true, Nat.reduceAdd, Nat.reduceLeDiff, Nat.zero_add, drawR_op, drawP_none, drawP_some, drawQ_some, drawH_fn, dstep, isFree, St.app, bump, isNew, ByteArray.size_append, z2, z3]
      refine drawCall_use (ref_Presence (r.evts[i]).old he.old) rfl ?_
      try simp (maxSteps := 1000000) only [callOf, fstep0, fbinA, newF, fbin, fbin0, fload, fcell, ffieldAddr, evs, T, TI.isAgg, St.ev, St.put, List.getD_cons_zero, List.getD_cons_succ, List.set, List.length_cons, List.length_nil, List.drop_succ_cons, List.drop_zero, List.take_succ_cons, List.take_zero, List.append_nil, List.getElem?_cons_zero, List.getElem?_cons_succ, List.getElem?_toArray, true_and, Bool.true_and, Bool.false_eq_true, ↓reduceIte, reduceCtorEq, ne_eq, not_false_eq_true, Nat.reduceAdd, Nat.reduceLeDiff, Nat.zero_add, drawR_op, drawP_none, drawP_some, drawQ_some, drawH_fn, dstep, isFree, St.app, bump, isNew, ByteArray.size_append, z4, z5]
      refine drawCall_use (ref_Presence (r.evts[i]).new he.new) rfl ?_
      try simp (maxSteps := 1000000) only [callOf, fstep0, fbinA, newF, fbin, fbin0, fload, fcell, ffieldAddr, evs, T, TI.isAgg, St.ev, St.put, List.getD_cons_zero, List.getD_cons_succ, List.set, List.length_cons, List.length_nil, List.drop_succ_cons, List.drop_zero, List.headD_cons, List.append_nil, List.getElem?_cons_zero, List.getElem?_cons_succ, List.getElem?_toArray, true_and, Bool.true_and, Bool.false_eq_true, ↓reduceIte, reduceCtorEq, ne_eq, not_false_eq_true, Nat.reduceAdd, Nat.reduceLT, Nat.zero_add, drawR_op, drawP_none, drawP_some, drawQ_some, drawH_fn, dstep, isFree, St.app, bump, isNew, ByteArray.size_append, z6, z7]
      refine drawCall_use (ref_Digits (r.evts[i]).seq he.seq) rfl ?_
      try simp (maxSteps := 1000000) only [go_nil, go_region, go_blk, go_ops_nil, go_op, opK_none, contK_some, callOf, fstep, fpre, fstep0, fbinA, newF, fbin, fbin0, St.ev, St.put, List.getD_cons_zero, List.getD_cons_succ, List.set, true_and, Bool.true_and, Bool.false_eq_true, ↓reduceIte, Nat.reduceAdd, drawR_nil, drawR_op, drawP_none, drawQ_some, dstep, isFree, St.app, bump, isNew, ByteArray.size_append, z8]
      refine ⟨by kernel_rfl, ?_⟩
      try simp (maxSteps := 1000000) only [ew]
      simp only [loopX_normal, St.trunc, St.keep, truncVs, truncV, AB.trunc, keepV, pureAll, AV.pure, Bool.and_self, List.drop_zero, List.drop_succ_cons, List.elem_cons, List.elem_nil, List.take_succ_cons, List.take_zero, List.map_cons, List.map_nil, List.getElem?_cons_zero, List.getElem?_cons_succ, Nat.reduceAdd, Nat.reduceBEq, Nat.reduceLeDiff, Nat.le_refl, Nat.zero_add, Bool.false_eq_true, ↓reduceIte]
      exact ⟨i + 1, hlt, by omega, by rw [take_map_snoc hlt, ← List.append_assoc, joinB_snoc, hJ, Ev.txt]; simp only [ByteArray.append_assoc]⟩
    · obtain rfl : i = r.evts.length := by have := of_decide_eq_false hf; omega
      rw [List.take_length]
      have hj := words_size (n := 0) (itB r.err) (r.vals.map Pr.txt ++ r.evts.map Ev.txt) (by omega) (fun y hy => by
        rcases List.mem_append.1 hy with hy | hy
        · exact hw2 y hy
        · exact hw3 y hy) (by rw [List.length_append, List.length_map, List.length_map]; omega)
      have hs5 : ByteArray.size ⟨#[32, 108, 111, 115, 116]⟩ = 5 := rfl
      have z1 : (((joinB spB (itB r.err :: (r.vals.map Pr.txt ++ r.evts.map Ev.txt))).size + ByteArray.size ⟨#[32, 108, 111, 115, 116]⟩ : Nat) : Int) ≤ 9223372036854775807 := by omega
      unfold Rep.txt at hK
      cases hl : r.lost
      · have hw : r.words = r.vals.map Pr.txt ++ r.evts.map Ev.txt := by unfold Rep.words; simp [hl]
        rw [hw] at hK
        try simp (maxSteps := 1000000) only [go_skip, go_region, go_seq, go_ret, go_ops_nil, go_op, opK_none, contK_some, condK_f, callOf, fstep, fpre, fstep0, St.ev, St.put, List.getD_cons_zero, List.getD_cons_succ, List.set, true_and, Bool.true_and]
        apply hK
        simp only [Tryd.results15, retK, ares, Bool.and_true, Bool.true_and, AV.ofResults, St.trunc, truncVs, truncV, List.getD_cons_zero, List.getD_cons_succ, List.take_zero, List.map_nil, true_and, and_true, List.cons.injEq, exists_eq_left']
      · have hw : r.words = (r.vals.map Pr.txt ++ r.evts.map Ev.txt) ++ [lostB] := by unfold Rep.words; simp [hl]
        rw [hw, joinB_snoc] at hK
        try simp (maxSteps := 1000000) only [go_region, go_seq, go_ret, go_ops_nil, go_op, opK_none, contK_some, condK_t, callOf, fstep, fpre, fstep0, fbinA, fbin, fbin0, St.ev, St.put, List.getD_cons_zero, List.getD_cons_succ, List.set, true_and, Bool.true_and, z1]
        apply hK
        simp only [Tryd.results15, retK, ares, Bool.and_true, Bool.true_and, AV.ofResults, St.trunc, truncVs, truncV, List.getD_cons_zero, List.getD_cons_succ, List.take_zero, List.map_nil, true_and, and_true, List.cons.injEq, exists_eq_left']
        rw [ByteArray.append_assoc]
        rfl
end Go.Proofs.YtinkcffklomneaaDoor
