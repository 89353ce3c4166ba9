/- Events of several feeds put together, walked: the program's and the document's. -/
import Derived.Test.YtljgfapbbhbbpaaMf
namespace Go.Proofs.Ytljgfapbbhbbpaa
open Go Go.Proofs.Ytljgfapbbhbbpaa.Sym
set_option maxRecDepth 100000
set_option linter.unusedSimpArgs false
set_option linter.unusedVariables false

theorem ev_beq (e f : Ev) : (e.u.toList == f.u.toList && (e.old.st == f.old.st && (e.old.pr == f.old.pr && (e.old.n == f.old.n && (e.new.st == f.new.st && (e.new.pr == f.new.pr && (e.new.n == f.new.n && e.seq == f.seq))))))) = decide (e = f) := by
  obtain ⟨u, ⟨a, b, c⟩, ⟨d, g, h⟩, s⟩ := e
  obtain ⟨u', ⟨a', b', c'⟩, ⟨d', g', h'⟩, s'⟩ := f
  have hu : (u.toList == u'.toList) = decide (u = u') := by
    rw [Bool.eq_iff_iff]; simp only [beq_iff_eq, decide_eq_true_eq]; exact ⟨fun h => (eqS_iff _ _).1 (by simp [eqS, h]), fun h => by rw [h]⟩
  rw [hu, Bool.eq_iff_iff]
  simp [and_assoc]
theorem take_ev {a b : List Ev} {i : Nat} (h1 : i < a.length) (h2 : i < b.length) : (a.take (i + 1) = b.take (i + 1)) ↔ (a.take i = b.take i ∧ a[i] = b[i]) := by
  rw [take_one h1, take_one h2]
  constructor
  · intro h
    have hl : (a.take i).length = (b.take i).length := by simp; omega
    have := List.append_inj h hl
    exact ⟨this.1, by simpa using this.2⟩
  · rintro ⟨h, h'⟩; rw [h, h']
theorem ref09_Same (a b : List Ev) (ha : a.length ≤ 100000) (hb : b.length ≤ 100000) : PCall P 20 [.sl 8 (evts a), .sl 8 (evts b)] (fun x => x = bool (decide (a = b))) := by
  refine pcall_go tyOk Try.func20 rfl rfl ?_
  intro K hK
  simp only [Try.ntmps20, List.length_cons, List.length_nil, Nat.reduceAdd, Nat.reduceSub, List.replicate, List.cons_append, List.nil_append]
  try simp (maxSteps := 1000000) only [go_region, go_seq, go_cond, go_ops_nil, go_op, opK_none, contK_some, callOf, fstep, fpre, fstep0, fbinA, fbin, fbin0, flen, T, St.ev, St.put, List.getD_cons_zero, List.getD_cons_succ, List.set, true_and, Bool.true_and, evts_len]
  (first | refine guardV_split ?_ ?_ | refine condK_split ?_ ?_ | refine drawV_split ?_ ?_ | refine condY_split ?_ ?_ | refine guardY_split ?_ ?_) <;> intro h <;> try simp (maxSteps := 1000000) only [go_skip, go_region, go_seq, go_block, go_ret, go_loop, go_ops_nil, go_op, opK_none, contK_some, condK_t, condK_f, callOf, fstep, fpre, fstep0, St.ev, St.put, List.set, true_and, Bool.true_and]
  · apply hK
    simp only [Try.results20, retK, ares, List.take_nil, Bool.and_true, Bool.true_and, AV.ofResults, St.trunc, truncVs, truncV, List.getD_cons_zero, List.getD_cons_succ, List.map_nil, true_and, and_true, List.cons.injEq, exists_eq_left']
    have : decide (a = b) = false := by
      rw [decide_eq_false_iff_not]; rintro rfl; simp at h
    rw [this]
  · have hl : a.length = b.length := by simp at h; omega
    refine loopK_rule tyOk (α := Nat) 0 [0, 1, 5] (fun i => i ≤ a.length ∧ a.take i = b.take i)
      (fun i => ⟨[.sl 8 (evts a), .sl 8 (evts b), .any, .any, .any, i64 i, .any, .any, .any, .any, .any, .any, .any, .any, .any, .any, .any, .any, .any, .any, .any, .any, .any, .any, .any, .any], []⟩)
      (fun i => a.length - i) 0 (Nat.zero_le _) ⟨Nat.zero_le _, rfl⟩ rfl ?_
    intro i ⟨hi, he⟩
    try simp (maxSteps := 1000000) only [go_region, go_seq, go_cond, go_ops_nil, go_op, opK_none, contK_some, callOf, fstep, fpre, fstep0, fbinA, fbin, fbin0, flen, T, St.ev, St.put, List.getD_cons_zero, List.getD_cons_succ, List.set, true_and, Bool.true_and, evts_len]
    (first | refine guardV_split ?_ ?_ | refine condK_split ?_ ?_ | refine drawV_split ?_ ?_ | refine condY_split ?_ ?_ | refine guardY_split ?_ ?_) <;> intro h <;> try simp (maxSteps := 1000000) only [go_skip, go_region, go_seq, go_block, go_exit, go_ret, go_draws, exitK_code, exitK_blk, exitK_nil, go_ops_nil, go_op, opK_none, contK_some, condK_t, condK_f, callOf, fstep, fpre, fstep0, St.ev, St.put, List.set, true_and, Bool.true_and, ↓reduceIte, loopX_exit]
    · have hlt : i < a.length := by have := of_decide_eq_true h; omega
      have hlt2 : i < b.length := by omega
      have eg : (evts a).getD (Int.toNat (i : Int)) .any = .agg [str a[i].u, i64 a[i].old.st, i64 a[i].old.pr, i64 a[i].old.n, i64 a[i].new.st, i64 a[i].new.pr, i64 a[i].new.n, u64 a[i].seq] := at_map (f := Ev.av) hlt
      have eg2 : (evts b).getD (Int.toNat (i : Int)) .any = .agg [str b[i].u, i64 b[i].old.st, i64 b[i].old.pr, i64 b[i].old.n, i64 b[i].new.st, i64 b[i].new.pr, i64 b[i].new.n, u64 b[i].seq] := at_map (f := Ev.av) hlt2
      have ew : IntKind.i64.wrap ((i : Int) + 1) = ((i + 1 : Nat) : Int) := by rw [wrap_i64 (by omega) (by omega)]; rfl
      have c1 : (0 : Int) ≤ (i : Int) ∧ Int.toNat (i : Int) < a.length := by omega
      have c2 : (0 : Int) ≤ (i : Int) ∧ Int.toNat (i : Int) < b.length := by omega
      have hte := take_ev hlt hlt2
      generalize a[i] = e at *
      generalize b[i] = f at *
      refine draw_rule tyOk (by rfl) (by simp only [List.length_nil, Nat.le_refl]) (by kernel_rfl) rfl ?_
      try simp (maxSteps := 1000000) only [go_cond, callOf, fstep0, fbinA, fbin, fbinS, eqVs, eqV, kOks, kOk, fload, fcell, findexAddr, T, TI.isAgg, St.ev, St.put, AV.cells, AV.known, List.getD_cons_zero, List.getD_cons_succ, List.set, List.length_cons, List.length_nil, List.take_succ_cons, List.take_zero, List.append_nil, List.replicate, true_and, and_true, Bool.and_true, Bool.true_and, Bool.and_self, Bool.false_eq_true, ↓reduceIte, decide_true, Nat.reduceAdd, Nat.le_refl, Nat.add_zero, Nat.zero_add, newCount, drawR_nil, drawR_op, drawP_none, drawQ_some, dstep, isFree, St.app, bump, isNew, eqc37, eg, eg2, c1, c2, evts_len]
      refine ⟨by kernel_rfl, ?_⟩
      try simp (maxSteps := 1000000) only [ev_beq]
      (first | refine guardV_split ?_ ?_ | refine condK_split ?_ ?_ | refine drawV_split ?_ ?_ | refine condY_split ?_ ?_ | refine guardY_split ?_ ?_) <;> intro h2
      · try simp (maxSteps := 1000000) only [go_region, go_seq, go_ret, go_ops_nil, go_op, opK_none, contK_some, condK_t, callOf, fstep, fpre, fstep0, St.ev, St.put, List.set, true_and, Bool.true_and, loopX_ret]
        apply hK
        simp only [Try.results20, retK, ares, List.take_nil, Bool.and_true, Bool.true_and, AV.ofResults, St.trunc, truncVs, truncV, List.getD_cons_zero, List.getD_cons_succ, List.map_nil, true_and, and_true, List.cons.injEq, exists_eq_left']
        have : decide (a = b) = false := by
          rw [decide_eq_false_iff_not]; rintro rfl
          have := (hte.1 rfl).2
          rw [this] at h2; simp at h2
        rw [this]
      · try simp (maxSteps := 1000000) only [go_nil, go_skip, go_region, go_blk, go_ops_nil, go_op, opK_none, contK_some, condK_f, callOf, fstep, fpre, fstep0, fbinA, fbin, fbin0, St.ev, St.put, List.getD_cons_zero, List.getD_cons_succ, List.set, true_and, Bool.true_and, ew]
        simp only [loopX_normal, St.trunc, St.keep, truncVs, truncV, keepV, List.elem_cons, List.elem_nil, List.take_zero, List.map_nil, Nat.reduceAdd, Nat.reduceBEq, Nat.zero_add, Bool.false_eq_true, ↓reduceIte]
        exact ⟨i + 1, ⟨hlt, hte.2 ⟨he, by simpa using h2⟩⟩, by omega, rfl⟩
    · obtain rfl : i = a.length := by have := of_decide_eq_false h; omega
      apply hK
      simp only [Try.results20, retK, ares, List.take_nil, Bool.and_true, Bool.true_and, AV.ofResults, St.trunc, truncVs, truncV, List.getD_cons_zero, List.getD_cons_succ, List.map_nil, true_and, and_true, List.cons.injEq, exists_eq_left']
      rw [List.take_length, hl, List.take_length] at he
      rw [decide_eq_true he]

/-! ### The program's Merge -/
def rws (R : Rws) : List AV := R.map fun r => .sl 8 (evts r)
theorem rws_len (R : Rws) : (rws R).length = R.length := by simp [rws]
theorem rws_at {R : Rws} {i : Nat} (h : i < R.length) : (rws R).getD (Int.toNat (i : Int)) .any = .sl 8 (evts (R.getD i [])) := by
  have := at_map (f := fun r : List Ev => AV.sl 8 (evts r)) h
  rw [List.getD_eq_getElem?_getD (l := R), List.getElem?_eq_getElem h]
  exact this
def ints (l : List Nat) : List AV := l.map fun a : Nat => i64 a
theorem ints_len (l : List Nat) : (ints l).length = l.length := by simp [ints]
theorem ints_at {l : List Nat} {i : Nat} (h : i < l.length) : (ints l).getD (Int.toNat (i : Int)) .any = i64 (l.getD i 0) := by
  have := at_map (f := fun a : Nat => i64 a) h
  rw [show l.getD i 0 = l[i] by rw [List.getD_eq_getElem?_getD, List.getElem?_eq_getElem h]; rfl]
  exact this
theorem ints_set (l : List Nat) (i v : Nat) : (ints l).set i (i64 v) = ints (l.set i v) := by rw [ints, ints, List.map_set]
/-- What is left behind these places. -/
def remF (R : Rws) (at_ : List Nat) : Rws := (List.range R.length).map fun i => (R.getD i []).drop (at_.getD i 0)
theorem rem_len (R : Rws) (at_ : List Nat) : (remF R at_).length = R.length := by simp [remF]
theorem rem_getD {R : Rws} {at_ : List Nat} {i : Nat} (h : i < R.length) : (remF R at_).getD i [] = (R.getD i []).drop (at_.getD i 0) := by
  simp [remF, List.getD_eq_getElem?_getD, h]
theorem rem_zero (R : Rws) : remF R (List.replicate R.length 0) = R := by
  apply List.ext_getElem
  · simp [remF]
  · intro i h1 h2
    simp [remF, List.getD_eq_getElem?_getD, h2]
theorem rem_next {R : Rws} {at_ : List Nat} {b : Nat} (hl : at_.length = R.length) (hb : b < R.length) : remF R (at_.set b (at_.getD b 0 + 1)) = dropAt (remF R at_) b := by
  apply List.ext_getElem
  · simp [remF, dropAt]
  · intro i h1 h2
    have hi : i < R.length := by simpa [remF] using h1
    have e1 : (remF R (at_.set b (at_.getD b 0 + 1)))[i] = (R.getD i []).drop ((at_.set b (at_.getD b 0 + 1)).getD i 0) := by
      have := rem_getD (at_ := at_.set b (at_.getD b 0 + 1)) hi
      rwa [List.getD_eq_getElem?_getD, List.getElem?_eq_getElem h1] at this
    have e2 : (dropAt (remF R at_) b)[i] = (dropAt (remF R at_) b).getD i [] := by rw [List.getD_eq_getElem?_getD, List.getElem?_eq_getElem h2]; rfl
    rw [e1, e2, drop_getD (by rw [rem_len]; exact hb)]
    by_cases h : i = b
    · subst h
      rw [if_pos rfl, rem_getD hi, List.tail_drop, List.getD_eq_getElem?_getD, List.getElem?_set_self (by omega)]; rfl
    · rw [if_neg h, rem_getD hi, List.getD_eq_getElem?_getD, List.getElem?_set_ne (Ne.symm h), ← List.getD_eq_getElem?_getD]
def bI : Option Nat → Int
  | none => -1
  | some b => b
theorem rem_cons {R : Rws} {at_ : List Nat} {i : Nat} (hi : i < R.length) {e : Ev} {t : List Ev} (h : (remF R at_).getD i [] = e :: t) :
    at_.getD i 0 < (R.getD i []).length ∧ ∀ (hlt : at_.getD i 0 < (R.getD i []).length), (R.getD i [])[at_.getD i 0] = e := by
  rw [rem_getD hi] at h
  have hlt : at_.getD i 0 < (R.getD i []).length := by
    apply Nat.lt_of_not_le
    intro hc
    rw [List.drop_of_length_le hc] at h; cases h
  refine ⟨hlt, fun _ => ?_⟩
  rw [List.drop_eq_getElem_cons hlt] at h
  cases h; rfl
theorem rem_nil {R : Rws} {at_ : List Nat} {i : Nat} (hi : i < R.length) (h : (remF R at_).getD i [] = []) : ¬ at_.getD i 0 < (R.getD i []).length := by
  rw [rem_getD hi] at h
  have := congrArg List.length h
  rw [List.length_drop, List.length_nil] at this
  omega
theorem ev_at {r : List Ev} {k : Nat} {e : Ev} (h : k < r.length) (he : ∀ (h : k < r.length), r[k] = e) : (evts r).getD (Int.toNat (k : Int)) .any = .agg [str e.u, i64 e.old.st, i64 e.old.pr, i64 e.old.n, i64 e.new.st, i64 e.new.pr, i64 e.new.n, u64 e.seq] := by
  have := at_map (f := Ev.av) h
  rw [he h] at this
  exact this
set_option maxHeartbeats 2000000 in
theorem feed_Merge (R : Rws) (hR : R.length ≤ 1000) (ht : total R ≤ 100000) (hr : ∀ i, (R.getD i []).length ≤ 100000) : PCall P 21 [.sl 1 (rws R)] (fun x => x = .sl 8 (evts (mergeF R))) := by
  refine pcall_go tyOk Try.func21 rfl rfl ?_
  intro K hK
  simp only [Try.ntmps21, List.length_cons, List.length_nil, Nat.reduceAdd, Nat.reduceSub, List.replicate, List.cons_append, List.nil_append]
  try simp (maxSteps := 1000000) only [go_region, go_seq, go_block, go_loop, go_ops_nil, go_op, opK_none, contK_some, undef, callOf, fstep, fpre, fpost, fstep0, gmake, flen, T, TI.isAgg, TI.zeroOk, TI.zav, St.ev, St.put, Value.oneCell', List.getD_cons_zero, List.getD_cons_succ, List.set, List.length_cons, List.length_nil, List.all_cons, List.all_nil, List.headD_cons, List.nil_append, true_and, Bool.true_and, Bool.and_self, Bool.or_true, Bool.false_eq_true, ↓reduceIte, decide_true, Nat.reduceLT, Nat.zero_add, rws_len]
  refine ⟨⟨by omega, by omega, by simp only [Int.toNat_natCast]; omega⟩, ?_⟩
  refine loopK_turn (Turns.adopt (i := 3) 37 8 rfl) ?_
  refine loopK_rule tyOk (α := List Ev × List Nat) 2 [0, 3, 4] (fun s => s.2.length = R.length ∧ s.1 ++ mergeF (remF R s.2) = mergeF R)
    (fun s => ⟨[.sl 1 (rws R), .any, .any, .own 1 8 0 s.1.length, .own 0 1 0 R.length, .any, .any, .any, .any, .any, .any, .any, .any, .any, .any, .any, .any, .any, .any, .any, .any, .any, .any, .any, .any, .any, .any, .any, .any, .any, .any, .any, .any, .any, .any, .any, .any, .any, .any, .any, .any, .any, .any, .any, .any, .any, .any, .any, .any, .any, .any, .any, .any, .any, .any, .any, .any, .any, .any, .any, .any, .any, .any, .any, .any, .any, .any, .any, .any, .any, .any, .any, .any, .any, .any, .any, .any, .any], [.row 3 1 (ints s.2), .row 37 8 (evts s.1)]⟩)
    (fun s => total (remF R s.2)) ([], List.replicate R.length 0) (Nat.zero_le _) ⟨by simp, by rw [rem_zero]; rfl⟩ (by simp only [ints, List.map_replicate]; rfl) ?_
  rintro ⟨out, at_⟩ ⟨hl, hm⟩
  simp only at hl hm ⊢
  have hlen := congrArg List.length hm
  rw [List.length_append, merge_len _ _ rfl, merge_len _ _ rfl] at hlen
  have hRm : (remF R at_).length = R.length := rem_len R at_
  obtain ⟨Rm, hRe⟩ : ∃ Rm, remF R at_ = Rm := ⟨_, rfl⟩
  have hal : ∀ j, j < R.length → at_.getD j 0 < R.length + 100001 + at_.getD j 0 := fun j hj => by omega
  try simp (maxSteps := 1000000) only [go_region, go_seq, go_block, go_loop, go_ops_nil, go_op, opK_none, contK_some, callOf, fstep, fpre, fstep0, flen, T, St.ev, St.put, List.getD_cons_zero, List.getD_cons_succ, List.set, true_and, Bool.true_and, rws_len]
  refine loopK_rule tyOk (α := Nat) 2 [0, 3, 4, 5, 11, 12] (fun i => i ≤ R.length)
    (fun i => ⟨[.sl 1 (rws R), .any, .any, .own 1 8 0 out.length, .own 0 1 0 R.length, i64 (bI (up Rm i)), .any, .any, .any, .any, .any, i64 R.length, i64 i, .any, .any, .any, .any, .any, .any, .any, .any, .any, .any, .any, .any, .any, .any, .any, .any, .any, .any, .any, .any, .any, .any, .any, .any, .any, .any, .any, .any, .any, .any, .any, .any, .any, .any, .any, .any, .any, .any, .any, .any, .any, .any, .any, .any, .any, .any, .any, .any, .any, .any, .any, .any, .any, .any, .any, .any, .any, .any, .any, .any, .any, .any, .any, .any, .any], [.row 3 1 (ints at_), .row 37 8 (evts out)]⟩)
    (fun i => R.length - i) 0 (Nat.zero_le _) (Nat.zero_le _) rfl ?_
  intro i hi
  try simp (maxSteps := 1000000) only [go_region, go_seq, go_cond, go_ops_nil, go_op, opK_none, contK_some, callOf, fstep, fpre, fstep0, fbinA, fbin, fbin0, St.ev, St.put, List.getD_cons_zero, List.getD_cons_succ, List.set, true_and, Bool.true_and]
  (first | refine guardV_split ?_ ?_ | refine condK_split ?_ ?_ | refine drawV_split ?_ ?_ | refine condY_split ?_ ?_ | refine guardY_split ?_ ?_) <;> intro h
  · have hlt : i < R.length := by have := of_decide_eq_true h; omega
    have eg := rws_at hlt
    have ea := ints_at (l := at_) (i := i) (by omega)
    have ew : IntKind.i64.wrap ((i : Int) + 1) = ((i + 1 : Nat) : Int) := by rw [wrap_i64 (by omega) (by omega)]; rfl
    have c1 : (0 : Int) ≤ (i : Int) ∧ Int.toNat (i : Int) < R.length := by omega
    have c2 : Int.toNat (i : Int) < at_.length := by omega
    have hup : up Rm (i + 1) = upStep Rm (up Rm i) i := rfl
    have hub := up_best Rm i
    try simp (maxSteps := 1000000) only [go_skip, go_region, go_seq, go_block, go_draws, go_ops_nil, go_op, opK_none, contK_some, condK_t, callOf, fstep, fpre, fstep0, St.ev, St.put, List.getD_cons_zero, List.getD_cons_succ, List.set, true_and, Bool.true_and]
    refine draw_rule tyOk (by rfl) (by simp only [List.length_cons, List.length_nil, Nat.reduceAdd, Nat.zero_le]) (by kernel_rfl) rfl ?_
    try simp (maxSteps := 1000000) only [callOf, fstep0, fbinA, fbin, fbin0, fload, fcell, findexAddr, flen, T, TI.isAgg, St.ev, St.put, AV.cells, AV.known, Value.cells, List.getD_cons_zero, List.getD_cons_succ, List.set, List.map_cons, List.map_nil, List.length_cons, List.length_nil, List.drop_zero, List.headD_cons, List.append_nil, List.getElem?_cons_zero, List.getElem?_cons_succ, List.replicate, Option.bind_some, List.getElem?_toArray, true_and, and_true, Bool.and_true, Bool.true_and, Bool.false_eq_true, ↓reduceIte, Nat.reduceAdd, Nat.reduceLT, Nat.add_zero, Nat.zero_add, newCount, drawR_op, drawR_guard, drawW_some, drawP_none, drawQ_some, dstep, isFree, St.app, bump, isNew, eg, ea, c1, c2, rws_len, ints_len, evts_len]
    cases hRi : Rm.getD i [] with
    | nil =>
      have hz : decide (((at_.getD i 0 : Nat) : Int) < (((R.getD i []).length : Nat) : Int)) = false := decide_eq_false (by
        have := rem_nil hlt (hRe ▸ hRi); omega)
      rw [upStep_nil hRi] at hup
      try simp (maxSteps := 1000000) only [go_nil, go_skip, go_region, go_cond, go_blk, go_ops_nil, go_op, opK_none, contK_some, condK_f, undef, callOf, fstep, fpre, fstep0, fbinA, fbin, fbin0, fpick, St.ev, St.put, List.getD_cons_zero, List.getD_cons_succ, List.set, List.getElem?_cons_zero, List.getElem?_cons_succ, Option.bind_some, List.getElem?_toArray, true_and, Bool.true_and, Bool.false_eq_true, ↓reduceIte, Nat.reduceAdd, drawR_nil, drawR_op, drawR_guard, drawW_some, drawV_ft, drawV_u, drawP_none, drawQ_some, dstep, isFree, St.app, bump, isNew, hz]
      refine ⟨by kernel_rfl, ?_⟩
      try simp (maxSteps := 1000000) only [ew]
      simp only [loopX_normal, St.trunc, St.keep, truncVs, truncV, AB.trunc, keepV, List.elem_cons, List.elem_nil, List.take_succ_cons, List.take_zero, List.map_cons, List.map_nil, Nat.reduceAdd, Nat.reduceBEq, Nat.reduceLeDiff, Nat.zero_add, Bool.false_eq_true, ↓reduceIte]
      exact ⟨i + 1, hlt, by omega, by rw [hup]⟩
    | cons e t =>
      obtain ⟨p1, p2⟩ := rem_cons hlt (hRe ▸ hRi)
      have hz : decide (((at_.getD i 0 : Nat) : Int) < (((R.getD i []).length : Nat) : Int)) = true := decide_eq_true (by omega)
      have eev := ev_at p1 p2
      have c3 : (0 : Int) ≤ ((at_.getD i 0 : Nat) : Int) ∧ Int.toNat ((at_.getD i 0 : Nat) : Int) < (R.getD i []).length := by omega
      cases hu : up Rm i with
      | none =>
        rw [hu, upStep_none hRi] at hup
        have hz2 : decide (bI none < 0) = true := by decide
        try simp (maxSteps := 1000000) only [go_nil, go_region, go_cond, go_blk, go_ops_nil, go_op, opK_none, contK_some, condK_t, undef, callOf, fstep, fpre, fstep0, fbinA, fbin, fbin0, fpick, St.ev, St.put, List.getD_cons_zero, List.getD_cons_succ, List.set, List.getElem?_cons_zero, List.getElem?_cons_succ, Option.bind_some, List.getElem?_toArray, true_and, Bool.true_and, Bool.false_eq_true, ↓reduceIte, Nat.reduceAdd, cond_true, drawR_nil, drawR_op, drawR_guard, drawW_some, drawV_tt, drawV_tf, drawP_none, drawQ_some, dstep, isFree, St.app, bump, isNew, hz, hz2]
        refine ⟨by kernel_rfl, ?_⟩
        try simp (maxSteps := 1000000) only [ew]
        simp only [loopX_normal, St.trunc, St.keep, truncVs, truncV, AB.trunc, keepV, List.elem_cons, List.elem_nil, List.take_succ_cons, List.take_zero, List.map_cons, List.map_nil, Nat.reduceAdd, Nat.reduceBEq, Nat.reduceLeDiff, Nat.zero_add, Bool.false_eq_true, ↓reduceIte]
        exact ⟨i + 1, hlt, by omega, by rw [hup]; rfl⟩
      | some b =>
        rw [hu] at hub
        obtain ⟨u1, f, u, u2, u3⟩ := hub
        rw [hu, upStep_some hRi u2] at hup
        have hbl : b < R.length := by have : b < i := u1; omega
        have hz2 : decide ((b : Int) < 0) = false := decide_eq_false (by omega)
        have hbi : bI (some b) = (b : Int) := rfl
        obtain ⟨q1, q2⟩ := rem_cons hbl (hRe ▸ u2)
        have eev2 := ev_at q1 q2
        have eg2 := rws_at hbl
        have ea2 := ints_at (l := at_) (i := b) (by omega)
        have d1 : (0 : Int) ≤ (b : Int) ∧ Int.toNat (b : Int) < R.length := by omega
        have d2 : Int.toNat (b : Int) < at_.length := by omega
        have d3 : (0 : Int) ≤ ((at_.getD b 0 : Nat) : Int) ∧ Int.toNat ((at_.getD b 0 : Nat) : Int) < (R.getD b []).length := by omega
        try simp (maxSteps := 1000000) only [go_cond, callOf, fstep0, fbinA, fbin, fbin0, fload, fcell, ffieldAddr, findexAddr, fpick, T, TI.isAgg, St.ev, St.put, AV.cells, AV.known, Value.cells, List.getD_cons_zero, List.getD_cons_succ, List.set, List.map_cons, List.map_nil, List.length_cons, List.length_nil, List.drop_succ_cons, List.drop_zero, List.headD_cons, List.getElem?_cons_zero, List.getElem?_cons_succ, Option.bind_some, List.getElem?_toArray, true_and, and_true, Bool.and_true, Bool.true_and, Bool.false_eq_true, ↓reduceIte, reduceCtorEq, ne_eq, not_false_eq_true, Nat.reduceAdd, Nat.reduceLT, Nat.zero_add, cond_true, cond_false, drawR_nil, drawR_op, drawR_guard, drawW_some, drawV_tt, drawV_ff, drawP_none, drawQ_some, dstep, isFree, St.app, bump, isNew, hz, hz2, hbi, eg, ea, c1, c2, c3, eev, eg2, ea2, d1, d2, d3, eev2, rws_len, ints_len, evts_len]
        refine ⟨by kernel_rfl, ?_⟩
        (first | refine guardV_split ?_ ?_ | refine condK_split ?_ ?_ | refine drawV_split ?_ ?_ | refine condY_split ?_ ?_ | refine guardY_split ?_ ?_) <;> intro h3
        · have h3' : e.seq < f.seq := of_decide_eq_true h3
          rw [if_pos h3'] at hup
          try simp (maxSteps := 1000000) only [go_nil, go_region, go_blk, go_ops_nil, go_op, opK_none, contK_some, condK_t, callOf, fstep, fpre, fstep0, fbinA, fbin, fbin0, St.ev, St.put, List.getD_cons_zero, List.getD_cons_succ, List.set, true_and, Bool.true_and, ew]
          simp only [loopX_normal, St.trunc, St.keep, truncVs, truncV, AB.trunc, keepV, List.elem_cons, List.elem_nil, List.take_succ_cons, List.take_zero, List.map_cons, List.map_nil, Nat.reduceAdd, Nat.reduceBEq, Nat.reduceLeDiff, Nat.zero_add, Bool.false_eq_true, ↓reduceIte]
          exact ⟨i + 1, hlt, by omega, by rw [hup]; rfl⟩
        · have h3' : ¬ e.seq < f.seq := of_decide_eq_false h3
          rw [if_neg h3'] at hup
          try simp (maxSteps := 1000000) only [go_nil, go_skip, go_region, go_blk, go_ops_nil, go_op, opK_none, contK_some, condK_f, callOf, fstep, fpre, fstep0, fbinA, fbin, fbin0, St.ev, St.put, List.getD_cons_zero, List.getD_cons_succ, List.set, true_and, Bool.true_and, ew]
          simp only [loopX_normal, St.trunc, St.keep, truncVs, truncV, AB.trunc, keepV, List.elem_cons, List.elem_nil, List.take_succ_cons, List.take_zero, List.map_cons, List.map_nil, Nat.reduceAdd, Nat.reduceBEq, Nat.reduceLeDiff, Nat.zero_add, Bool.false_eq_true, ↓reduceIte]
          exact ⟨i + 1, hlt, by omega, by rw [hup]; rfl⟩
  · obtain rfl : i = R.length := by have := of_decide_eq_false h; omega
    have hbo : up Rm R.length = bestOf Rm := by rw [bestOf, ← hRe, hRm]
    rw [hbo]
    cases hb : bestOf Rm with
    | none =>
      have hmn := merge_none hb
      rw [hRe, hmn, List.append_nil] at hm
      have hz2 : decide (bI none < 0) = true := by decide
      try simp (maxSteps := 1000000) only [go_region, go_seq, go_cond, go_exit, go_ret, exitK_code, exitK_blk, exitK_nil, go_ops_nil, go_op, opK_none, contK_some, condK_t, condK_f, callOf, fstep, fpre, fstep0, fbinA, fbin, fbin0, St.ev, St.put, List.getD_cons_zero, List.getD_cons_succ, List.set, true_and, Bool.true_and, ↓reduceIte, loopX_exit, loopX_ret, hz2]
      apply hK
      simp only [Try.results21, retK, ares, Bool.and_true, Bool.true_and, AV.ofResults, St.trunc, truncVs, truncV, List.getD_cons_zero, List.getD_cons_succ, List.take_zero, List.drop_zero, List.map_nil, List.getElem?_cons_zero, List.getElem?_cons_succ, Nat.reduceLeDiff, true_and, and_true, ↓reduceIte, List.cons.injEq, exists_eq_left']
      rw [sl_full (evts_len out), hm]
    | some b =>
      obtain ⟨b1, e, t, b2, b3⟩ := best_some' hb
      have hbl : b < R.length := by rw [← hRe, hRm] at b1; exact b1
      have hz2 : decide ((b : Int) < 0) = false := decide_eq_false (by omega)
      have hbi : bI (some b) = (b : Int) := rfl
      obtain ⟨q1, q2⟩ := rem_cons hbl (hRe ▸ b2)
      have eev := ev_at q1 q2
      have eg := rws_at hbl
      have ea := ints_at (l := at_) (i := b) (by omega)
      have d1 : (0 : Int) ≤ (b : Int) ∧ Int.toNat (b : Int) < R.length := by omega
      have d2 : Int.toNat (b : Int) < at_.length := by omega
      have d3 : (0 : Int) ≤ ((at_.getD b 0 : Nat) : Int) ∧ Int.toNat ((at_.getD b 0 : Nat) : Int) < (R.getD b []).length := by omega
      have hrb := hr b
      have ew : IntKind.i64.wrap (((at_.getD b 0 : Nat) : Int) + 1) = ((at_.getD b 0 + 1 : Nat) : Int) := by rw [wrap_i64 (by omega) (by omega)]; rfl
      have hms := merge_some hb b2
      have htd := total_drop b2
      have hnx := rem_next hl hbl
      rw [hRe] at hnx
      try simp (maxSteps := 1000000) only [go_skip, go_region, go_seq, go_cond, go_exit, go_draws, exitK_code, exitK_blk, exitK_nil, go_ops_nil, go_op, opK_none, contK_some, condK_f, callOf, fstep, fpre, fstep0, fbinA, fbin, fbin0, St.ev, St.put, List.getD_cons_zero, List.getD_cons_succ, List.set, true_and, Bool.true_and, ↓reduceIte, loopX_exit, hz2, hbi]
      refine draw_rule tyOk (by rfl) (by simp only [List.length_cons, List.length_nil, Nat.reduceAdd, Nat.zero_le]) (by kernel_rfl) rfl ?_
      try simp (maxSteps := 1000000) only [go_nil, go_region, go_blk, go_ops_nil, go_op, opK_none, contK_some, callOf, fstep, fpre, fstep0, fbinA, fbin, fbin0, fload, fcell, fstore, findexAddr, evParts, felems, T, TI.isAgg, TI.zeroOk, TI.zav, setParts, partsOk, St.ev, St.put, St.rehome, killV, killVs, AB.kill, esplice, AV.cells, AV.known, AV.flat, AV.pure, pureAll, Value.cells, Value.oneCell', List.getD_cons_zero, List.getD_cons_succ, List.set, List.map_cons, List.map_nil, List.length_cons, List.length_nil, List.all_cons, List.all_nil, List.drop_zero, List.take_succ_cons, List.take_zero, List.headD_cons, List.append_nil, List.getElem?_cons_zero, List.getElem?_cons_succ, List.replicate, true_and, and_true, Bool.and_true, Bool.true_and, Bool.and_self, Bool.or_false, Bool.false_eq_true, ↓reduceIte, decide_true, decide_false, reduceCtorEq, Nat.reduceAdd, Nat.reduceMul, Nat.reduceLeDiff, Nat.reduceEqDiff, Nat.reduceLT, Nat.zero_le, Nat.le_refl, Nat.add_zero, Nat.zero_add, newCount, drawR_nil, drawR_op, drawP_none, drawQ_some, dstep, isFree, dappend, dbuildSlice, St.app, bump, isNew, eg, ea, d1, d2, d3, eev, rws_len, ints_len, evts_len]
      refine ⟨⟨by simp only [maxLen]; omega, by omega⟩, ?_⟩
      refine ⟨by kernel_rfl, ?_⟩
      try simp (maxSteps := 1000000) only [ew]
      simp only [loopX_normal, St.trunc, St.keep, truncVs, truncV, AB.trunc, keepV, List.elem_cons, List.elem_nil, List.take_succ_cons, List.take_zero, List.map_cons, List.map_nil, Nat.reduceAdd, Nat.reduceBEq, Nat.reduceLeDiff, Nat.zero_add, Bool.false_eq_true, ↓reduceIte]
      refine ⟨(out ++ [e], at_.set b (at_.getD b 0 + 1)), ⟨by rw [List.length_set]; exact hl, ?_⟩, ?_, ?_⟩
      · simp only
        rw [hnx, List.append_assoc, List.singleton_append, ← hms, ← hRe]
        exact hm
      · simp only
        rw [hnx, hRe]; omega
      · simp only [evts_snoc, List.length_append, List.length_singleton, Int.toNat_natCast]
        rw [← ints_set]
end Go.Proofs.Ytljgfapbbhbbpaa
