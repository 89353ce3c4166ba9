/- Feeds: made, told, drained. -/
import Derived.Test.YtljgfapbbhbbpaaMd
namespace Go.Proofs.Ytljgfapbbhbbpaa
open Go Go.Proofs.Ytljgfapbbhbbpaa.Sym
set_option maxRecDepth 100000
set_option linter.unusedSimpArgs false
set_option linter.unusedVariables false

theorem ACallX.keeps {g : FuncId} {kp kp' : Nat → Bool} {m : List AB} {args : List AV} {K : AV → List AB → Prop} (h : ACallX P kp g m args K) (hk : ∀ b, b < m.length → kp' b = true → kp b = true) : ACallX P kp' g m args K :=
  ⟨h.1, fun Hd ι w vs hR => (h.2 Hd ι w vs hR).mono fun e w' ⟨y, x, ι', m', h1, h2, h3, h5, h4⟩ => ⟨y, x, ι', m', h1, h2, h3, fun b o hb ho => h5 b o (hk b (by have := (List.getElem?_eq_some_iff.1 ho).1; rw [hR.len] at this; exact this) hb) ho, h4⟩⟩
def Fd.setQ (F : Fd) (k : Nat) (v : List Ev × Bool) : Fd := { F with q := fun j => if j = k then v else F.q j }
/-- What is done to a queue of a feed. -/
theorem ring_at {g : FuncId} {args0 : List AV} {K0 K : AV → List AB → Prop} (F : Fd) (r : List AB) {k : Nat} (hk : k < 8) (h : ACallX P (fun i => i != 1) g (ringM F.room (F.q k).1 (F.q k).2) args0 K0) (hb : (bksAll args0).all (fun b => decide (b < 2)) = true)
    (hr : outOk (kpOf (fun i => i != 1) [1 + k, 9 + k] 0) [1 + k, 9 + k] 17 r = true)
    (hK : ∀ x m', K0 x m' → ∃ v, m' = ringM F.room v.1 v.2 ∧ K (ren [1 + k, 9 + k] x) (feedM (F.setQ k v) ++ r)) : ACallX P (fun b => b != 9 + k) g (feedM F ++ r) (renAll [1 + k, 9 + k] args0) K := by
  have key : ∀ b, (b != 9 + k) = true → kpOf (fun i => i != 1) [1 + k, 9 + k] 0 b = true := by
    intro b hb
    have hb : b ≠ 9 + k := by simpa using hb
    simp only [kpOf]
    split
    · rfl
    · rw [if_neg (Ne.symm hb)]
  refine ACallX.keeps (kp := kpOf (fun i => i != 1) [1 + k, 9 + k] 0) ?_ (fun b _ hb => key b hb)
  have c : k = 0 ∨ k = 1 ∨ k = 2 ∨ k = 3 ∨ k = 4 ∨ k = 5 ∨ k = 6 ∨ k = 7 := by omega
  rcases c with rfl | rfl | rfl | rfl | rfl | rfl | rfl | rfl
  all_goals
    refine h.frame _ (by decide) rfl rfl hb rfl hr (fun x m' hx => ?_)
    obtain ⟨v, rfl, hv⟩ := hK x m' hx
    exact ⟨rfl, hv⟩

abbrev ids17 : List Nat := [0, 1, 2, 3, 4, 5, 6, 7, 8, 9, 10, 11, 12, 13, 14, 15, 16]
theorem fm_ren (F : Fd) : renM ids17 (feedM F) = feedM F := by
  simp only [feedM, feedC, qB, qR, renM, AB.ren, ren, renAll, List.getD_cons_zero, List.getD_cons_succ, Nat.reduceAdd]
theorem fm_at (F : Fd) (r : List AB) : ids17.map (fun b => (feedM F ++ r)[b]?) = (feedM F).map some := rfl
theorem fm_put (F F' : Fd) (r : List AB) : putL (feedM F ++ r) ids17 (feedM F') = feedM F' ++ r := by
  simp only [feedM, ids17, putL, List.cons_append, List.nil_append, List.set_cons_zero, List.set_cons_succ]
/-- A call on a feed, in a memory that has more behind it. -/
theorem feed_pre {g : FuncId} {args0 : List AV} {K0 K : AV → List AB → Prop} (F : Fd) (r : List AB) (h : ACall P g (feedM F) args0 K0) (ha : args0 = renAll ids17 args0) (hb : (bksAll args0).all (fun b => decide (b < 17)) = true)
    (hK : ∀ x m', K0 x m' → ∃ F', m' = feedM F' ∧ K (ren ids17 x) (feedM F' ++ r)) : ACall P g (feedM F ++ r) args0 K := by
  refine h.frame ids17 (by decide) (by rw [fm_ren]; exact fm_at F r) ha hb (by rfl) (fun x m' hx => ?_)
  obtain ⟨F', rfl, hv⟩ := hK x m' hx
  exact ⟨rfl, by rw [fm_ren, fm_put]; exact hv⟩
theorem Watching_at (F : Fd) (r : List AB) (who : Int) (u : ByteArray) (hr : rises_su F.m) (hl : F.m.length ≤ 1000) : ACall P 29 (feedM F ++ r) [.ptr 0 0, i64 who, str u]
    (fun x m' => x = bool (watF F.m who u) ∧ m' = feedM F ++ r) := by
  refine feed_pre F r (feed_Watching F who u hr hl) rfl rfl ?_
  rintro x m' ⟨rfl, rfl⟩
  exact ⟨F, rfl, rfl, rfl⟩

theorem queue_at (m : List (ByteArray × Int)) {k : Nat} (hk : k < 8) : ∃ tl, List.drop (2 + k * 1) [AV.sl 1 (m.map fun p => str p.1), .sl 1 (m.map fun p => u32 p.2), .ptr 1 0, .ptr 2 0, .ptr 3 0, .ptr 4 0, .ptr 5 0, .ptr 6 0, .ptr 7 0, .ptr 8 0] = .ptr (1 + k) 0 :: tl := by
  have c : k = 0 ∨ k = 1 ∨ k = 2 ∨ k = 3 ∨ k = 4 ∨ k = 5 ∨ k = 6 ∨ k = 7 := by omega
  rcases c with rfl | rfl | rfl | rfl | rfl | rfl | rfl | rfl <;> exact ⟨_, rfl⟩
/-- A queue is emptied. -/
def Fd.drain (F : Fd) (who : Int) : Fd := if cli who = true then F.setQ who.toNat ([], false) else F
def drainL (F : Fd) (who : Int) : List Ev := if cli who = true then (F.q who.toNat).1 else []
def drainB (F : Fd) (who : Int) : Bool := if cli who = true then (F.q who.toNat).2 else false
theorem feed_Drain (F : Fd) (who : Int) (hq : ∀ k, (F.q k).1.length ≤ 100000) : ACallX P (fun b => decide (b < 9)) 19 (feedM F) [.ptr 0 0, i64 who]
    (fun x m' => x = .tup [if cli who = true then .sl 8 (evts (drainL F who)) else .v (.slice none 0 0), bool (drainB F who)] ∧ m' = feedM (F.drain who)) := by
  have h : ACallN P 9 19 (feedM F) [.ptr 0 0, i64 who]
      (fun x m' => x = .tup [if cli who = true then .sl 8 (evts (drainL F who)) else .v (.slice none 0 0), bool (drainB F who)] ∧ m' = feedM (F.drain who)) := by
    refine acallN_go tyOk Try.func19 rfl rfl (by rw [fm_len]; decide) ?_
    intro K hK
    rw [fm_len] at hK
    simp only [Try.ntmps19, List.length_cons, List.length_nil, Nat.reduceAdd, Nat.reduceSub, List.replicate, List.cons_append, List.nil_append]
    try simp (maxSteps := 1000000) only [go_region, go_seq, go_ops_nil, go_op, opK_none, opK_some, contK_some, callOf, callK_eq, callJ_nil, callD_fn, fstep, fpre, fstep0, evs, St.ev, St.put, AV.owners, ownersAll, List.getD_cons_zero, List.getD_cons_succ, List.set, List.append_nil, true_and, Bool.true_and]
    (refine callG_use (feed_client who) rfl ?_; rintro _ rfl)
    unfold drainL drainB Fd.drain at hK
    cases hc : cli who
    · rw [hc] at hK
      try simp (maxSteps := 1000000) only [go_region, go_seq, go_cond, go_ret, go_ops_nil, go_op, opK_none, contK_some, condK_t, callOf, fstep, fpre, fstep0, funary, St.ev, St.put, List.getD_cons_zero, List.getD_cons_succ, List.set, true_and, Bool.true_and, Bool.not_false]
      apply hK
      simp only [Try.results19, retK, ares, Bool.and_true, Bool.true_and, AV.ofResults, St.trunc, truncVs, truncV, List.getD_cons_zero, List.getD_cons_succ, true_and, and_true, ↓reduceIte, Bool.false_eq_true, List.cons.injEq, exists_eq_left']
      rw [fm_retn]
      first | done | exact ⟨rfl, rfl⟩
    · rw [hc] at hK
      obtain ⟨k, hk, rfl⟩ := cli_iff hc
      have h0 : (0 : Int) ≤ (k : Int) := by omega
      obtain ⟨tl, htl⟩ := queue_at F.m hk
      try simp (maxSteps := 1000000) only [go_skip, go_region, go_seq, go_cond, go_ops_nil, go_op, opK_none, opK_some, contK_some, condK_f, callOf, callK_eq, callJ_nil, callD_fn, fstep, fpre, fstep0, fload, fcell, ffieldAddr, findexAddr, funary, evs, T, TI.isAgg, St.ev, St.put, AV.owners, ownersAll, List.getD_cons_zero, List.getD_cons_succ, List.set, List.length_cons, List.headD_cons, List.append_nil, List.getElem?_cons_zero, List.getElem?_cons_succ, List.getElem?_toArray, true_and, and_true, Bool.and_true, Bool.true_and, Bool.not_true, Bool.false_eq_true, ↓reduceIte, reduceCtorEq, ne_eq, not_false_eq_true, Nat.zero_add, fm_0n, feedC, h0, hk, Int.toNat_natCast, htl]
      refine ⟨Nat.succ_pos _, ?_⟩
      refine callG_X (kp := fun b => b != 9 + k) (fun b hb => by simp; omega) (ring_at F [] hk (ring_Drain F.room (F.q k).1 (F.q k).2 (hq k)) rfl rfl ?_)
      rintro x m' ⟨rfl, rfl⟩
      refine ⟨([], false), rfl, ?_⟩
      try simp (maxSteps := 1000000) only [go_ret, go_ops_nil, go_op, opK_none, contK_some, callOf, fstep, fpre, fstep0, St.ev, St.put, ren, renAll, AB.ren, cutVs, cutV, bks, List.getD_cons_zero, List.getD_cons_succ, List.set, List.length_cons, List.length_nil, List.all_cons, List.all_nil, List.append_nil, true_and, and_true, Bool.and_true, Bool.true_and, ↓reduceIte, Nat.reduceAdd, Nat.reduceLT, Nat.zero_add]
      simp only [if_true, Int.toNat_natCast] at hK
      apply hK
      simp only [Try.results19, retK, ares, Bool.and_true, Bool.true_and, AV.ofResults, St.trunc, truncVs, truncV, List.getD_cons_zero, List.getD_cons_succ, true_and, and_true, List.cons.injEq, exists_eq_left']
      rw [fm_retn]
      first | done | exact ⟨rfl, rfl⟩
  exact h.toX

/-- A change is told to the queues below n. -/
def tell1 (F : Fd) (c : Chg) (seq : Int) (n : Nat) : Fd := { F with q := fun k => if (decide (k < n) && watF F.m k c.u) = true then putR F.room (F.q k) ⟨c.u, c.old, c.new, seq⟩ else F.q k }
theorem tell1_0 (F : Fd) (c : Chg) (seq : Int) : tell1 F c seq 0 = F := by
  simp only [tell1, Nat.not_lt_zero, decide_false, Bool.false_and, Bool.false_eq_true, if_false]
theorem tell1_at (F : Fd) (c : Chg) (seq : Int) (j : Nat) : (tell1 F c seq j).q j = F.q j := by
  simp [tell1]
theorem tell1_no {F : Fd} {c : Chg} {seq : Int} {j : Nat} (h : watF F.m j c.u = false) : tell1 F c seq (j + 1) = tell1 F c seq j := by
  unfold tell1
  congr 1
  funext k
  by_cases e : k = j
  · subst e; rw [h]; simp
  · have : decide (k < j + 1) = decide (k < j) := by rw [Bool.eq_iff_iff]; simp; omega
    rw [this]
theorem tell1_yes {F : Fd} {c : Chg} {seq : Int} {j : Nat} (h : watF F.m j c.u = true) : tell1 F c seq (j + 1) = (tell1 F c seq j).setQ j (putR F.room (F.q j) ⟨c.u, c.old, c.new, seq⟩) := by
  unfold tell1 Fd.setQ
  congr 1
  funext k
  by_cases e : k = j
  · subst e; rw [h]; simp
  · have : decide (k < j + 1) = decide (k < j) := by rw [Bool.eq_iff_iff]; simp; omega
    rw [this]; simp [e]
theorem putR_len (room : Int) (q : List Ev × Bool) (e : Ev) : (putR room q e).1.length ≤ q.1.length + 1 := by
  unfold putR; split <;> simp
theorem tell1_len (F : Fd) (c : Chg) (seq : Int) (n k : Nat) : ((tell1 F c seq n).q k).1.length ≤ (F.q k).1.length + 1 := by
  unfold tell1
  simp only
  split
  · exact putR_len _ _ _
  · omega
def tellF (F : Fd) (l : List Chg) (seq : Int) : Fd := l.foldl (fun F c => tell1 F c seq 8) F
theorem tellF_next {F : Fd} {l : List Chg} {seq : Int} {i : Nat} (h : i < l.length) : tellF F (l.take (i + 1)) seq = tell1 (tellF F (l.take i) seq) l[i] seq 8 := by
  rw [take_one h, tellF, List.foldl_append]; rfl
theorem tellF_ok (F : Fd) (l : List Chg) (seq : Int) : (tellF F l seq).m = F.m ∧ (tellF F l seq).room = F.room ∧ ∀ k, ((tellF F l seq).q k).1.length ≤ (F.q k).1.length + l.length := by
  induction l generalizing F with
  | nil => exact ⟨rfl, rfl, fun k => Nat.le_refl _⟩
  | cons c l ih =>
    obtain ⟨h1, h2, h3⟩ := ih (tell1 F c seq 8)
    refine ⟨h1, h2, fun k => ?_⟩
    have := h3 k
    have := tell1_len F c seq 8 k
    simp only [List.length_cons]
    exact Nat.le_trans (h3 k) (by omega)
theorem ptr_at {k : Nat} (hk : k < 8) : ∃ tl, List.drop (k * 1) [AV.ptr 1 0, .ptr 2 0, .ptr 3 0, .ptr 4 0, .ptr 5 0, .ptr 6 0, .ptr 7 0, .ptr 8 0] = .ptr (1 + k) 0 :: tl := by
  have c : k = 0 ∨ k = 1 ∨ k = 2 ∨ k = 3 ∨ k = 4 ∨ k = 5 ∨ k = 6 ∨ k = 7 := by omega
  rcases c with rfl | rfl | rfl | rfl | rfl | rfl | rfl | rfl <;> exact ⟨_, rfl⟩
theorem ring_PutX (room : Int) (l : List Ev) (lost : Bool) (e : Ev) (hl : l.length ≤ 100000) : ACallX P (fun i => i != 1) 54 (ringM room l lost) [.ptr 0 0, e.av]
    (fun x m' => (∃ b, x = bool b) ∧ m' = ringM room (putR room (l, lost) e).1 (putR room (l, lost) e).2) :=
  ACallX.keeps (ring_Put room l lost e hl).toX fun b hb hk => by
    have hb : b < 2 := hb
    have hk : b ≠ 1 := by simpa using hk
    exact decide_eq_true (by omega)
theorem feed_Tell (F : Fd) (l : List Chg) (seq : Int) (hr : rises_su F.m) (hl : F.m.length ≤ 1000) (hll : l.length ≤ 50000) (hq : ∀ k, (F.q k).1.length ≤ 50000) : ACallN P 9 18 (feedM F) [.ptr 0 0, .sl 7 (chgs l), u64 seq]
    (fun x m' => m' = feedM (tellF F l seq)) := by
  refine acallN_go tyOk Try.func18 rfl rfl (by rw [fm_len]; decide) ?_
  intro K hK
  rw [fm_len] at hK
  simp only [Try.ntmps18, List.length_cons, List.length_nil, Nat.reduceAdd, Nat.reduceSub, List.replicate, List.cons_append, List.nil_append]
  try simp (maxSteps := 1000000) only [go_region, go_seq, go_block, go_loop, go_ops_nil, go_op, opK_none, contK_some, callOf, fstep, fpre, fstep0, flen, T, St.ev, St.put, List.getD_cons_zero, List.getD_cons_succ, List.set, true_and, Bool.true_and, chgs_len]
  refine loopK_rule tyOk (α := Nat) 17 [0, 2, 10, 11, 12] (fun i => i ≤ l.length)
    (fun i => ⟨[.ptr 0 0, .any, u64 seq, .any, .any, .any, .any, .any, .any, .any, .sl 7 (chgs l), i64 l.length, i64 i, .any, .any, .any, .any, .any, .any, .any, .any, .any, .any, .any, .any, .any, .any, .any, .any, .any, .any, .any, .any, .any, .any, .any, .any, .any, .any, .any, .any], feedM (tellF F (l.take i) seq)⟩)
    (fun i => l.length - i) 0 (by decide) (Nat.zero_le _) rfl ?_
  intro i hi
  try simp (maxSteps := 1000000) only [go_region, go_seq, go_cond, go_ops_nil, go_op, opK_none, contK_some, callOf, fstep, fpre, fstep0, fbinA, fbin, fbin0, St.ev, St.put, List.getD_cons_zero, List.getD_cons_succ, List.set, true_and, Bool.true_and]
  (first | refine guardV_split ?_ ?_ | refine condK_split ?_ ?_ | refine drawV_split ?_ ?_ | refine condY_split ?_ ?_ | refine guardY_split ?_ ?_) <;> intro h
  · have hlt : i < l.length := by simpa using h
    have eg : (chgs l).getD (Int.toNat (i : Int)) .any = .agg [str l[i].u, i64 l[i].old.st, i64 l[i].old.pr, i64 l[i].old.n, i64 l[i].new.st, i64 l[i].new.pr, i64 l[i].new.n] := at_map hlt
    have ew : IntKind.i64.wrap ((i : Int) + 1) = ((i + 1 : Nat) : Int) := by rw [wrap_i64 (by omega) (by omega)]; rfl
    have c1 : (0 : Int) ≤ (i : Int) ∧ Int.toNat (i : Int) < l.length := by omega
    have hn := tellF_next (F := F) (seq := seq) hlt
    obtain ⟨ok1, ok2, ok3⟩ := tellF_ok F (l.take i) seq
    have ok3 : ∀ k, ((tellF F (l.take i) seq).q k).1.length ≤ 99999 := fun k => by
      have h1 := ok3 k
      have h2 := hq k
      rw [List.length_take] at h1
      omega
    rw [← ok1] at hr hl
    generalize tellF F (l.take i) seq = G at *
    generalize l[i] = c at *
    try simp (maxSteps := 1000000) only [go_skip, go_region, go_seq, go_block, go_loop, go_ops_nil, go_op, opK_none, contK_some, condK_t, callOf, fstep, fpre, fstep0, fload, fcell, fstore, ffieldAddr, findexAddr, T, TI.isAgg, St.ev, St.put, splice, AV.cells, AV.known, AV.flat, Value.oneCell', List.getD_cons_zero, List.getD_cons_succ, List.set, List.map_cons, List.map_nil, List.length_cons, List.length_nil, List.all_cons, List.all_nil, List.drop_succ_cons, List.drop_zero, List.take_succ_cons, List.take_zero, List.nil_append, List.append_nil, List.getElem?_cons_zero, List.getElem?_cons_succ, List.getElem?_toArray, true_and, and_true, Bool.and_true, Bool.true_and, Bool.and_self, ↓reduceIte, reduceCtorEq, ne_eq, not_false_eq_true, Nat.reduceAdd, Nat.le_refl, Nat.zero_add, fm_0, fm_17, fm_s17, fm_len, feedC, eg, c1, chgs_len]
    refine loopK_rule tyOk (α := Nat) 18 [0, 2, 7, 10, 11, 12, 19, 20] (fun j => j ≤ 8)
      (fun j => ⟨[.ptr 0 0, .any, u64 seq, .any, .any, .any, .any, .ptr 17 0, .any, .any, .sl 7 (chgs l), i64 l.length, i64 i, .any, .any, .any, .any, .any, .any, .agg [.ptr 1 0, .ptr 2 0, .ptr 3 0, .ptr 4 0, .ptr 5 0, .ptr 6 0, .ptr 7 0, .ptr 8 0], i64 j, .any, .any, .any, .any, .any, .any, .any, .any, .any, .any, .any, .any, .any, .any, .any, .any, .any, .any, .any, .any],
        feedM (tell1 G c seq j) ++ [.box [str c.u, i64 c.old.st, i64 c.old.pr, i64 c.old.n, i64 c.new.st, i64 c.new.pr, i64 c.new.n]]⟩)
      (fun j => 8 - j) 0 (by decide) (Nat.zero_le _) ?_ ?_
    · rw [tell1_0]; rfl
    intro j hj
    try simp (maxSteps := 1000000) only [go_region, go_seq, go_cond, go_ops_nil, go_op, opK_none, contK_some, callOf, fstep, fpre, fstep0, fbinA, fbin, fbin0, St.ev, St.put, List.getD_cons_zero, List.getD_cons_succ, List.set, true_and, Bool.true_and]
    (first | refine guardV_split ?_ ?_ | refine condK_split ?_ ?_ | refine drawV_split ?_ ?_ | refine condY_split ?_ ?_ | refine guardY_split ?_ ?_) <;> intro hj2
    · have hj3 : j < 8 := by have := of_decide_eq_true hj2; omega
      have ewj : IntKind.i64.wrap ((j : Int) + 1) = ((j + 1 : Nat) : Int) := by rw [wrap_i64 (by omega) (by omega)]; rfl
      obtain ⟨tl, htl⟩ := ptr_at hj3
      try simp (maxSteps := 1000000) only [go_skip, go_region, go_seq, go_block, go_ops_nil, go_op, opK_none, opK_some, contK_some, condK_t, callOf, callK_eq, callJ_nil, callD_fn, fstep, fpre, fstep0, fload, fcell, ffieldAddr, fpart, findex, evs, T, TI.isAgg, St.ev, St.put, AV.owners, ownersAll, List.getD_cons_zero, List.getD_cons_succ, List.set, List.length_cons, List.length_nil, List.drop_zero, List.headD_cons, List.append_nil, List.getElem?_cons_zero, List.getElem?_toArray, true_and, Bool.true_and, Bool.false_eq_true, ↓reduceIte, reduceCtorEq, ne_eq, not_false_eq_true, Nat.reduceAdd, Nat.reduceLT, Nat.add_zero, Nat.zero_add, fm_17, Int.toNat_natCast, htl]
      refine ⟨⟨⟨by omega, by omega⟩, by omega⟩, ?_⟩
      refine callG_A ((Watching_at (tell1 G c seq j) [.box [str c.u, i64 c.old.st, i64 c.old.pr, i64 c.old.n, i64 c.new.st, i64 c.new.pr, i64 c.new.n]] j c.u hr hl).mono ?_)
      rintro _ _ ⟨rfl, rfl⟩
      try simp (maxSteps := 1000000) only [go_cond, go_ops_nil, St.ev, St.put, List.getD_cons_zero, List.getD_cons_succ, List.set]
      change condK P T 9 (.v (.bool (watF G.m j c.u))) _ _ _ _ _
      cases hw : watF G.m j c.u
      · try simp (maxSteps := 1000000) only [go_nil, go_skip, go_region, go_blk, go_ops_nil, go_op, opK_none, contK_some, condK_f, callOf, fstep, fpre, fstep0, fbinA, fbin, fbin0, St.ev, St.put, List.getD_cons_zero, List.getD_cons_succ, List.set, true_and, Bool.true_and, ewj]
        simp only [loopX_normal, St.trunc, St.keep, truncVs, truncV, keepV, List.drop_zero, List.elem_cons, List.elem_nil, Nat.reduceAdd, Nat.reduceBEq, Nat.reduceLeDiff, Nat.zero_add, Bool.false_eq_true, ↓reduceIte]
        exact ⟨j + 1, hj3, by omega, by rw [tell1_no hw]; rfl⟩
      · try simp (maxSteps := 1000000) only [go_region, go_op, opK_none, opK_some, contK_some, condK_t, callOf, callK_eq, callJ_nil, callD_fn, fstep, fpre, fstep0, fload, fcell, ffieldAddr, ffill, fieldPlaces, fieldsOk, fbuild, evParts, evs, T, TI.isAgg, St.ev, St.put, splice, AV.cells, AV.known, AV.owners, ownersAll, Value.cells, List.getD_cons_zero, List.getD_cons_succ, List.set, List.map_cons, List.map_nil, List.length_cons, List.length_nil, List.drop_succ_cons, List.drop_zero, List.take_succ_cons, List.take_zero, List.headD_cons, List.cons_append, List.nil_append, List.append_nil, List.getElem?_cons_zero, List.getElem?_cons_succ, Option.isSome_some, List.getElem?_toArray, true_and, and_true, Bool.and_true, Bool.true_and, Bool.and_self, Bool.false_eq_true, ↓reduceIte, reduceCtorEq, ne_eq, not_false_eq_true, Nat.reduceAdd, Nat.reduceLeDiff, Nat.reduceLT, Nat.le_refl, Nat.add_zero, Nat.zero_add, fm_17]
        refine callG_X (kp := fun b => b != 9 + j) (fun b hb => by simp; omega) (ring_at (tell1 G c seq j) _ hj3 (ring_PutX (tell1 G c seq j).room ((tell1 G c seq j).q j).1 ((tell1 G c seq j).q j).2 ⟨c.u, c.old, c.new, seq⟩ (by rw [tell1_at]; have := ok3 j; omega)) rfl (by simp [outOk, bksAll, bks]) ?_)
        rintro x m' ⟨⟨b, rfl⟩, rfl⟩
        refine ⟨_, rfl, ?_⟩
        have hset : (tell1 G c seq j).setQ j (putR (tell1 G c seq j).room (((tell1 G c seq j).q j).1, ((tell1 G c seq j).q j).2) ⟨c.u, c.old, c.new, seq⟩) = tell1 G c seq (j + 1) := by
          rw [tell1_yes hw, tell1_at]; rfl
        rw [hset]
        have nq : ∀ b, b < 9 ∨ b = 17 ∨ b = 1 + j → (b != 9 + j) = true := fun b hb => by simp; omega
        try simp (maxSteps := 1000000) only [go_nil, go_region, go_blk, go_ops_nil, go_op, opK_none, contK_some, callOf, fstep, fpre, fstep0, fbinA, fbin, fbin0, St.ev, St.put, ren, AB.ren, cutVs, cutV, bks, bksAll, List.getD_cons_zero, List.getD_cons_succ, List.set, List.all_cons, List.all_nil, List.cons_append, List.nil_append, List.append_nil, true_and, Bool.true_and, Bool.and_self, ↓reduceIte, ewj, nq 0 (by omega), nq 1 (by omega), nq 2 (by omega), nq 3 (by omega), nq 4 (by omega), nq 5 (by omega), nq 6 (by omega), nq 7 (by omega), nq 8 (by omega), nq 17 (by omega), nq (1 + j) (.inr (.inr rfl))]
        simp only [loopX_normal, St.trunc, St.keep, truncVs, truncV, keepV, List.drop_zero, List.elem_cons, List.elem_nil, Nat.reduceAdd, Nat.reduceBEq, Nat.reduceLeDiff, Nat.zero_add, Bool.false_eq_true, ↓reduceIte]
        exact ⟨j + 1, hj3, by omega, by rfl⟩
    · have hje : j = 8 := by have := of_decide_eq_false hj2; omega
      subst hje
      try simp (maxSteps := 1000000) only [go_nil, go_region, go_blk, go_exit, exitK_code, exitK_blk, exitK_nil, go_ops_nil, go_op, opK_none, contK_some, condK_f, callOf, fstep, fpre, fstep0, fbinA, fbin, fbin0, St.ev, St.put, List.getD_cons_zero, List.getD_cons_succ, List.set, true_and, Bool.true_and, ↓reduceIte, loopX_exit, ew]
      simp only [loopX_normal, St.trunc, St.keep, truncVs, truncV, keepV, List.drop_zero, List.elem_cons, List.elem_nil, Nat.reduceAdd, Nat.reduceBEq, Nat.reduceLeDiff, Nat.le_refl, Nat.zero_add, Bool.false_eq_true, ↓reduceIte]
      exact ⟨i + 1, hlt, by omega, by rw [hn]; rfl⟩
  · obtain rfl : i = l.length := by have := of_decide_eq_false h; omega
    rw [List.take_length]
    try simp (maxSteps := 1000000) only [go_nil, go_exit, exitK_code, exitK_blk, exitK_nil, condK_f, ↓reduceIte, loopX_exit]
    apply hK
    simp only [Try.results18, retK, ares, Bool.and_true, AV.ofResults, St.trunc, truncVs, and_true, List.cons.injEq, exists_eq_left']
    rw [fm_retn]
end Go.Proofs.Ytljgfapbbhbbpaa
namespace Go.Proofs.Ytljgfapbbhbbpaa
open Go Go.Proofs.Ytljgfapbbhbbpaa.Sym
set_option maxRecDepth 100000
set_option linter.unusedSimpArgs false
set_option linter.unusedVariables false

def newM (room : Int) : Nat → List AB
  | 0 => [.box [.v (.slice none 0 0), .v (.slice none 0 0), .v (.pointer none), .v (.pointer none), .v (.pointer none), .v (.pointer none), .v (.pointer none), .v (.pointer none), .v (.pointer none), .v (.pointer none)]]
  | 1 => [.box [.v (.slice none 0 0), .v (.slice none 0 0), .ptr 1 0, .v (.pointer none), .v (.pointer none), .v (.pointer none), .v (.pointer none), .v (.pointer none), .v (.pointer none), .v (.pointer none)], .box [i64 room, .v (.slice none 0 0), bool false]]
  | 2 => [.box [.v (.slice none 0 0), .v (.slice none 0 0), .ptr 1 0, .ptr 2 0, .v (.pointer none), .v (.pointer none), .v (.pointer none), .v (.pointer none), .v (.pointer none), .v (.pointer none)], .box [i64 room, .v (.slice none 0 0), bool false], .box [i64 room, .v (.slice none 0 0), bool false]]
  | 3 => [.box [.v (.slice none 0 0), .v (.slice none 0 0), .ptr 1 0, .ptr 2 0, .ptr 3 0, .v (.pointer none), .v (.pointer none), .v (.pointer none), .v (.pointer none), .v (.pointer none)], .box [i64 room, .v (.slice none 0 0), bool false], .box [i64 room, .v (.slice none 0 0), bool false], .box [i64 room, .v (.slice none 0 0), bool false]]
  | 4 => [.box [.v (.slice none 0 0), .v (.slice none 0 0), .ptr 1 0, .ptr 2 0, .ptr 3 0, .ptr 4 0, .v (.pointer none), .v (.pointer none), .v (.pointer none), .v (.pointer none)], .box [i64 room, .v (.slice none 0 0), bool false], .box [i64 room, .v (.slice none 0 0), bool false], .box [i64 room, .v (.slice none 0 0), bool false], .box [i64 room, .v (.slice none 0 0), bool false]]
  | 5 => [.box [.v (.slice none 0 0), .v (.slice none 0 0), .ptr 1 0, .ptr 2 0, .ptr 3 0, .ptr 4 0, .ptr 5 0, .v (.pointer none), .v (.pointer none), .v (.pointer none)], .box [i64 room, .v (.slice none 0 0), bool false], .box [i64 room, .v (.slice none 0 0), bool false], .box [i64 room, .v (.slice none 0 0), bool false], .box [i64 room, .v (.slice none 0 0), bool false], .box [i64 room, .v (.slice none 0 0), bool false]]
  | 6 => [.box [.v (.slice none 0 0), .v (.slice none 0 0), .ptr 1 0, .ptr 2 0, .ptr 3 0, .ptr 4 0, .ptr 5 0, .ptr 6 0, .v (.pointer none), .v (.pointer none)], .box [i64 room, .v (.slice none 0 0), bool false], .box [i64 room, .v (.slice none 0 0), bool false], .box [i64 room, .v (.slice none 0 0), bool false], .box [i64 room, .v (.slice none 0 0), bool false], .box [i64 room, .v (.slice none 0 0), bool false], .box [i64 room, .v (.slice none 0 0), bool false]]
  | 7 => [.box [.v (.slice none 0 0), .v (.slice none 0 0), .ptr 1 0, .ptr 2 0, .ptr 3 0, .ptr 4 0, .ptr 5 0, .ptr 6 0, .ptr 7 0, .v (.pointer none)], .box [i64 room, .v (.slice none 0 0), bool false], .box [i64 room, .v (.slice none 0 0), bool false], .box [i64 room, .v (.slice none 0 0), bool false], .box [i64 room, .v (.slice none 0 0), bool false], .box [i64 room, .v (.slice none 0 0), bool false], .box [i64 room, .v (.slice none 0 0), bool false], .box [i64 room, .v (.slice none 0 0), bool false]]
  | _ => [.box [.v (.slice none 0 0), .v (.slice none 0 0), .ptr 1 0, .ptr 2 0, .ptr 3 0, .ptr 4 0, .ptr 5 0, .ptr 6 0, .ptr 7 0, .ptr 8 0], .box [i64 room, .v (.slice none 0 0), bool false], .box [i64 room, .v (.slice none 0 0), bool false], .box [i64 room, .v (.slice none 0 0), bool false], .box [i64 room, .v (.slice none 0 0), bool false], .box [i64 room, .v (.slice none 0 0), bool false], .box [i64 room, .v (.slice none 0 0), bool false], .box [i64 room, .v (.slice none 0 0), bool false], .box [i64 room, .v (.slice none 0 0), bool false]]
theorem ring_New1 (room : Int) : ACall P 50 [] [i64 room] (fun x m' => x = .ptr 0 0 ∧ m' = [.box [i64 (max room 0), .v (.slice none 0 0), bool false]]) := by
  refine ACallN.toA (acallM_go tyOk Try.func50 rfl rfl (N := 0) (M := 1) (Nat.zero_le _) (by simp) ?_)
  intro K hK
  simp only [Try.ntmps50, List.length_cons, List.length_nil, Nat.reduceAdd, Nat.reduceSub, List.replicate, List.cons_append, List.nil_append]
  try simp (maxSteps := 1000000) only [go_region, go_seq, go_ret, go_ops_nil, go_op, opK_none, contK_some, callOf, fstep, fpre, fstep0, ffill, fieldPlaces, fieldsOk, fbuild, evParts, evs, fminmax, T, St.ev, St.put, splice, AV.cells, AV.known, Value.cells, List.getD_cons_zero, List.getD_cons_succ, List.set, List.map_cons, List.map_nil, List.length_cons, List.length_nil, List.drop_succ_cons, List.drop_zero, List.take_zero, List.cons_append, List.nil_append, List.getElem?_cons_zero, Option.isSome_some, List.getElem?_toArray, true_and, and_true, Bool.and_true, Bool.true_and, Bool.and_self, Nat.reduceAdd, Nat.reduceLeDiff, Nat.zero_add, cond_true]
  apply hK
  simp only [Try.results50, retK, ares, List.take_nil, Bool.and_true, Bool.true_and, AV.ofResults, St.trunc, truncVs, truncV, AB.trunc, List.getD_cons_zero, List.getD_cons_succ, List.take_succ_cons, List.map_nil, List.map_cons, Nat.reduceLeDiff, true_and, and_true, ↓reduceIte, List.cons.injEq, exists_eq_left']
  rw [show (if 0 > room then 0 else room) = max room 0 by omega]
theorem feed_New0 (room : Int) : ACall P 16 [] [i64 room] (fun x m' => x = .ptr 0 0 ∧ m' = newM (max room 0) 8) := by
  refine ACallN.toA (acallM_go tyOk Try.func16 rfl rfl (N := 0) (M := 9) (Nat.zero_le _) (by simp) ?_)
  intro K hK
  simp only [Try.ntmps16, List.length_cons, List.length_nil, Nat.reduceAdd, Nat.reduceSub, List.replicate, List.cons_append, List.nil_append]
  try simp (maxSteps := 1000000) only [go_region, go_seq, go_block, go_loop, go_ops_nil, go_op, opK_none, contK_some, callOf, fstep, fpre, fstep0, ffill, fieldsOk, fbuild, evParts, T, St.ev, St.put, AV.cells, AV.known, List.getD_cons_zero, List.getD_cons_succ, List.set, List.map_cons, List.map_nil, List.length_nil, List.nil_append, Option.isSome_some, true_and, and_true, Bool.and_true, Bool.true_and, Bool.and_self]
  refine loopK_rule tyOk (α := Nat) 9 [0, 3, 7] (fun i => i ≤ 8)
    (fun i => ⟨[i64 room, .any, .any, .ptr 0 0, .any, .any, .any, i64 i, .any, .any, .any, .any, .any, .any, .any, .any, .any, .any, .any], newM (max room 0) i⟩)
    (fun i => 8 - i) 0 (by decide) (Nat.zero_le _) rfl ?_
  intro i hi
  try simp (maxSteps := 1000000) only [go_region, go_seq, go_cond, go_ops_nil, go_op, opK_none, contK_some, callOf, fstep, fpre, fstep0, fbinA, fbin, fbin0, St.ev, St.put, List.getD_cons_zero, List.getD_cons_succ, List.set, true_and, Bool.true_and]
  (first | refine guardV_split ?_ ?_ | refine condK_split ?_ ?_ | refine drawV_split ?_ ?_ | refine condY_split ?_ ?_ | refine guardY_split ?_ ?_) <;> intro h
  · have hlt : i < 8 := by have := of_decide_eq_true h; omega
    have c : i = 0 ∨ i = 1 ∨ i = 2 ∨ i = 3 ∨ i = 4 ∨ i = 5 ∨ i = 6 ∨ i = 7 := by omega
    rcases c with rfl | rfl | rfl | rfl | rfl | rfl | rfl | rfl
    all_goals
      simp only [newM]
      try simp (maxSteps := 1000000) only [go_skip, go_region, go_seq, go_block, go_draws, go_ops_nil, go_op, opK_none, contK_some, condK_t, callOf, fstep, fpre, fstep0, St.ev, St.put, List.getD_cons_zero, List.getD_cons_succ, List.set, true_and, Bool.true_and]
      refine draw_rule tyOk (by rfl) (by simp only [List.length_cons, List.length_nil, Nat.reduceAdd, Nat.zero_le]) (by kernel_rfl) rfl ?_
      try simp (maxSteps := 1000000) only [callOf, fstep0, newF, evs, St.ev, St.put, List.getD_cons_zero, List.getD_cons_succ, List.set, List.length_cons, List.length_nil, List.cons_append, List.nil_append, List.append_nil, List.replicate, true_and, Bool.true_and, Bool.or_false, Bool.false_eq_true, ↓reduceIte, decide_true, Nat.reduceAdd, Nat.add_zero, Nat.zero_add, Nat.reduceBEq, Int.reduceLT, beq_self_eq_true, newCount, drawR_op, drawP_none, drawP_some, drawQ_some, drawH_fn, dstep, isFree, St.app, bump, isNew, Int.cast_ofNat_Int]
      refine drawCall_newB (ring_New1 room) rfl rfl ?_
      try simp (maxSteps := 1000000) only [go_nil, go_region, go_blk, go_ops_nil, go_op, opK_none, contK_some, callOf, fstep, fpre, fstep0, fbinA, newF, fbin, fbin0, ffieldAddr, findexAddr, T, St.ev, St.put, St.rehome, killV, killVs, AB.kill, splice, AV.cells, AV.known, AV.flat, ren, renAll, AB.ren, List.getD_cons_zero, List.getD_cons_succ, List.set, List.map_cons, List.map_nil, List.length_cons, List.length_nil, List.all_cons, List.all_nil, List.drop_succ_cons, List.drop_zero, List.take_succ_cons, List.take_zero, List.cons_append, List.nil_append, List.append_nil, List.getElem?_cons_zero, List.getElem?_cons_succ, List.getElem?_toArray, true_and, and_true, Bool.and_true, Bool.true_and, Bool.and_self, Bool.or_false, Bool.false_eq_true, ↓reduceIte, reduceCtorEq, ne_eq, not_false_eq_true, Nat.reduceAdd, Nat.reduceMul, Nat.reduceLeDiff, Nat.reduceEqDiff, Nat.reduceLT, Nat.le_refl, Nat.add_zero, Nat.zero_add, Nat.reduceBEq, Int.reduceLE, beq_self_eq_true, drawR_nil, drawR_op, drawP_none, drawQ_some, dstep, isFree, dstore, St.app, bump, isNew, Int.reduceToNat]
      refine ⟨by kernel_rfl, ?_⟩
      skip
      simp only [loopX_normal, St.trunc, St.keep, truncVs, truncV, AB.trunc, keepV, List.elem_cons, List.elem_nil, List.take_succ_cons, List.take_zero, List.map_cons, List.map_nil, Nat.reduceAdd, Nat.reduceBEq, Nat.reduceLeDiff, Nat.zero_add, Bool.false_eq_true, ↓reduceIte]
      refine ⟨_ + 1, hlt, by omega, rfl⟩
  · obtain rfl : i = 8 := by have := of_decide_eq_false h; omega
    try simp (maxSteps := 1000000) only [go_region, go_seq, go_exit, go_ret, exitK_code, exitK_blk, exitK_nil, go_ops_nil, go_op, opK_none, contK_some, condK_f, callOf, fstep, fpre, fstep0, St.ev, St.put, List.getD_cons_zero, List.getD_cons_succ, List.set, true_and, Bool.true_and, ↓reduceIte, loopX_exit]
    apply hK
    simp only [Try.results16, retK, ares, Bool.and_true, Bool.true_and, AV.ofResults, St.trunc, truncVs, truncV, List.getD_cons_zero, List.getD_cons_succ, Nat.reduceLeDiff, true_and, and_true, ↓reduceIte, List.cons.injEq, exists_eq_left']
    rfl
theorem new_turn0 (room : Int) : Turns ⟨[.ptr 0 0], [.box [.v (.slice none 0 0), .v (.slice none 0 0), .ptr 1 0, .ptr 2 0, .ptr 3 0, .ptr 4 0, .ptr 5 0, .ptr 6 0, .ptr 7 0, .ptr 8 0], .box [i64 room, .v (.slice none 0 0), bool false], .box [i64 room, .v (.slice none 0 0), bool false], .box [i64 room, .v (.slice none 0 0), bool false], .box [i64 room, .v (.slice none 0 0), bool false], .box [i64 room, .v (.slice none 0 0), bool false], .box [i64 room, .v (.slice none 0 0), bool false], .box [i64 room, .v (.slice none 0 0), bool false], .box [i64 room, .v (.slice none 0 0), bool false]]⟩ ⟨[.ptr 0 0], [.box [.sl 1 [], .v (.slice none 0 0), .ptr 1 0, .ptr 2 0, .ptr 3 0, .ptr 4 0, .ptr 5 0, .ptr 6 0, .ptr 7 0, .ptr 8 0], .box [i64 room, .v (.slice none 0 0), bool false], .box [i64 room, .v (.slice none 0 0), bool false], .box [i64 room, .v (.slice none 0 0), bool false], .box [i64 room, .v (.slice none 0 0), bool false], .box [i64 room, .v (.slice none 0 0), bool false], .box [i64 room, .v (.slice none 0 0), bool false], .box [i64 room, .v (.slice none 0 0), bool false], .box [i64 room, .v (.slice none 0 0), bool false]]⟩ :=
  Turns.asSlIn (s := ⟨[.ptr 0 0], [.box [.v (.slice none 0 0), .v (.slice none 0 0), .ptr 1 0, .ptr 2 0, .ptr 3 0, .ptr 4 0, .ptr 5 0, .ptr 6 0, .ptr 7 0, .ptr 8 0], .box [i64 room, .v (.slice none 0 0), bool false], .box [i64 room, .v (.slice none 0 0), bool false], .box [i64 room, .v (.slice none 0 0), bool false], .box [i64 room, .v (.slice none 0 0), bool false], .box [i64 room, .v (.slice none 0 0), bool false], .box [i64 room, .v (.slice none 0 0), bool false], .box [i64 room, .v (.slice none 0 0), bool false], .box [i64 room, .v (.slice none 0 0), bool false]]⟩) (b := 0) (c := 0) 1 rfl rfl
theorem new_turn1 (room : Int) : Turns ⟨[.ptr 0 0], [.box [.sl 1 [], .v (.slice none 0 0), .ptr 1 0, .ptr 2 0, .ptr 3 0, .ptr 4 0, .ptr 5 0, .ptr 6 0, .ptr 7 0, .ptr 8 0], .box [i64 room, .v (.slice none 0 0), bool false], .box [i64 room, .v (.slice none 0 0), bool false], .box [i64 room, .v (.slice none 0 0), bool false], .box [i64 room, .v (.slice none 0 0), bool false], .box [i64 room, .v (.slice none 0 0), bool false], .box [i64 room, .v (.slice none 0 0), bool false], .box [i64 room, .v (.slice none 0 0), bool false], .box [i64 room, .v (.slice none 0 0), bool false]]⟩ ⟨[.ptr 0 0], [.box [.sl 1 [], .sl 1 [], .ptr 1 0, .ptr 2 0, .ptr 3 0, .ptr 4 0, .ptr 5 0, .ptr 6 0, .ptr 7 0, .ptr 8 0], .box [i64 room, .v (.slice none 0 0), bool false], .box [i64 room, .v (.slice none 0 0), bool false], .box [i64 room, .v (.slice none 0 0), bool false], .box [i64 room, .v (.slice none 0 0), bool false], .box [i64 room, .v (.slice none 0 0), bool false], .box [i64 room, .v (.slice none 0 0), bool false], .box [i64 room, .v (.slice none 0 0), bool false], .box [i64 room, .v (.slice none 0 0), bool false]]⟩ :=
  Turns.asSlIn (s := ⟨[.ptr 0 0], [.box [.sl 1 [], .v (.slice none 0 0), .ptr 1 0, .ptr 2 0, .ptr 3 0, .ptr 4 0, .ptr 5 0, .ptr 6 0, .ptr 7 0, .ptr 8 0], .box [i64 room, .v (.slice none 0 0), bool false], .box [i64 room, .v (.slice none 0 0), bool false], .box [i64 room, .v (.slice none 0 0), bool false], .box [i64 room, .v (.slice none 0 0), bool false], .box [i64 room, .v (.slice none 0 0), bool false], .box [i64 room, .v (.slice none 0 0), bool false], .box [i64 room, .v (.slice none 0 0), bool false], .box [i64 room, .v (.slice none 0 0), bool false]]⟩) (b := 0) (c := 1) 1 rfl rfl
theorem new_turn2 (room : Int) : Turns ⟨[.ptr 0 0], [.box [.sl 1 [], .sl 1 [], .ptr 1 0, .ptr 2 0, .ptr 3 0, .ptr 4 0, .ptr 5 0, .ptr 6 0, .ptr 7 0, .ptr 8 0], .box [i64 room, .v (.slice none 0 0), bool false], .box [i64 room, .v (.slice none 0 0), bool false], .box [i64 room, .v (.slice none 0 0), bool false], .box [i64 room, .v (.slice none 0 0), bool false], .box [i64 room, .v (.slice none 0 0), bool false], .box [i64 room, .v (.slice none 0 0), bool false], .box [i64 room, .v (.slice none 0 0), bool false], .box [i64 room, .v (.slice none 0 0), bool false]]⟩ ⟨[.ptr 0 0], [.box [.sl 1 [], .sl 1 [], .ptr 1 0, .ptr 2 0, .ptr 3 0, .ptr 4 0, .ptr 5 0, .ptr 6 0, .ptr 7 0, .ptr 8 0], .box [i64 room, .own 9 8 0 0, bool false], .box [i64 room, .v (.slice none 0 0), bool false], .box [i64 room, .v (.slice none 0 0), bool false], .box [i64 room, .v (.slice none 0 0), bool false], .box [i64 room, .v (.slice none 0 0), bool false], .box [i64 room, .v (.slice none 0 0), bool false], .box [i64 room, .v (.slice none 0 0), bool false], .box [i64 room, .v (.slice none 0 0), bool false], .row 37 8 []]⟩ :=
  Turns.adoptIn (s := ⟨[.ptr 0 0], [.box [.sl 1 [], .sl 1 [], .ptr 1 0, .ptr 2 0, .ptr 3 0, .ptr 4 0, .ptr 5 0, .ptr 6 0, .ptr 7 0, .ptr 8 0], .box [i64 room, .v (.slice none 0 0), bool false], .box [i64 room, .v (.slice none 0 0), bool false], .box [i64 room, .v (.slice none 0 0), bool false], .box [i64 room, .v (.slice none 0 0), bool false], .box [i64 room, .v (.slice none 0 0), bool false], .box [i64 room, .v (.slice none 0 0), bool false], .box [i64 room, .v (.slice none 0 0), bool false], .box [i64 room, .v (.slice none 0 0), bool false]]⟩) (b := 1) (c := 1) 37 8 rfl rfl
theorem new_turn3 (room : Int) : Turns ⟨[.ptr 0 0], [.box [.sl 1 [], .sl 1 [], .ptr 1 0, .ptr 2 0, .ptr 3 0, .ptr 4 0, .ptr 5 0, .ptr 6 0, .ptr 7 0, .ptr 8 0], .box [i64 room, .own 9 8 0 0, bool false], .box [i64 room, .v (.slice none 0 0), bool false], .box [i64 room, .v (.slice none 0 0), bool false], .box [i64 room, .v (.slice none 0 0), bool false], .box [i64 room, .v (.slice none 0 0), bool false], .box [i64 room, .v (.slice none 0 0), bool false], .box [i64 room, .v (.slice none 0 0), bool false], .box [i64 room, .v (.slice none 0 0), bool false], .row 37 8 []]⟩ ⟨[.ptr 0 0], [.box [.sl 1 [], .sl 1 [], .ptr 1 0, .ptr 2 0, .ptr 3 0, .ptr 4 0, .ptr 5 0, .ptr 6 0, .ptr 7 0, .ptr 8 0], .box [i64 room, .own 9 8 0 0, bool false], .box [i64 room, .own 10 8 0 0, bool false], .box [i64 room, .v (.slice none 0 0), bool false], .box [i64 room, .v (.slice none 0 0), bool false], .box [i64 room, .v (.slice none 0 0), bool false], .box [i64 room, .v (.slice none 0 0), bool false], .box [i64 room, .v (.slice none 0 0), bool false], .box [i64 room, .v (.slice none 0 0), bool false], .row 37 8 [], .row 37 8 []]⟩ :=
  Turns.adoptIn (s := ⟨[.ptr 0 0], [.box [.sl 1 [], .sl 1 [], .ptr 1 0, .ptr 2 0, .ptr 3 0, .ptr 4 0, .ptr 5 0, .ptr 6 0, .ptr 7 0, .ptr 8 0], .box [i64 room, .own 9 8 0 0, bool false], .box [i64 room, .v (.slice none 0 0), bool false], .box [i64 room, .v (.slice none 0 0), bool false], .box [i64 room, .v (.slice none 0 0), bool false], .box [i64 room, .v (.slice none 0 0), bool false], .box [i64 room, .v (.slice none 0 0), bool false], .box [i64 room, .v (.slice none 0 0), bool false], .box [i64 room, .v (.slice none 0 0), bool false], .row 37 8 []]⟩) (b := 2) (c := 1) 37 8 rfl rfl
theorem new_turn4 (room : Int) : Turns ⟨[.ptr 0 0], [.box [.sl 1 [], .sl 1 [], .ptr 1 0, .ptr 2 0, .ptr 3 0, .ptr 4 0, .ptr 5 0, .ptr 6 0, .ptr 7 0, .ptr 8 0], .box [i64 room, .own 9 8 0 0, bool false], .box [i64 room, .own 10 8 0 0, bool false], .box [i64 room, .v (.slice none 0 0), bool false], .box [i64 room, .v (.slice none 0 0), bool false], .box [i64 room, .v (.slice none 0 0), bool false], .box [i64 room, .v (.slice none 0 0), bool false], .box [i64 room, .v (.slice none 0 0), bool false], .box [i64 room, .v (.slice none 0 0), bool false], .row 37 8 [], .row 37 8 []]⟩ ⟨[.ptr 0 0], [.box [.sl 1 [], .sl 1 [], .ptr 1 0, .ptr 2 0, .ptr 3 0, .ptr 4 0, .ptr 5 0, .ptr 6 0, .ptr 7 0, .ptr 8 0], .box [i64 room, .own 9 8 0 0, bool false], .box [i64 room, .own 10 8 0 0, bool false], .box [i64 room, .own 11 8 0 0, bool false], .box [i64 room, .v (.slice none 0 0), bool false], .box [i64 room, .v (.slice none 0 0), bool false], .box [i64 room, .v (.slice none 0 0), bool false], .box [i64 room, .v (.slice none 0 0), bool false], .box [i64 room, .v (.slice none 0 0), bool false], .row 37 8 [], .row 37 8 [], .row 37 8 []]⟩ :=
  Turns.adoptIn (s := ⟨[.ptr 0 0], [.box [.sl 1 [], .sl 1 [], .ptr 1 0, .ptr 2 0, .ptr 3 0, .ptr 4 0, .ptr 5 0, .ptr 6 0, .ptr 7 0, .ptr 8 0], .box [i64 room, .own 9 8 0 0, bool false], .box [i64 room, .own 10 8 0 0, bool false], .box [i64 room, .v (.slice none 0 0), bool false], .box [i64 room, .v (.slice none 0 0), bool false], .box [i64 room, .v (.slice none 0 0), bool false], .box [i64 room, .v (.slice none 0 0), bool false], .box [i64 room, .v (.slice none 0 0), bool false], .box [i64 room, .v (.slice none 0 0), bool false], .row 37 8 [], .row 37 8 []]⟩) (b := 3) (c := 1) 37 8 rfl rfl
theorem new_turn5 (room : Int) : Turns ⟨[.ptr 0 0], [.box [.sl 1 [], .sl 1 [], .ptr 1 0, .ptr 2 0, .ptr 3 0, .ptr 4 0, .ptr 5 0, .ptr 6 0, .ptr 7 0, .ptr 8 0], .box [i64 room, .own 9 8 0 0, bool false], .box [i64 room, .own 10 8 0 0, bool false], .box [i64 room, .own 11 8 0 0, bool false], .box [i64 room, .v (.slice none 0 0), bool false], .box [i64 room, .v (.slice none 0 0), bool false], .box [i64 room, .v (.slice none 0 0), bool false], .box [i64 room, .v (.slice none 0 0), bool false], .box [i64 room, .v (.slice none 0 0), bool false], .row 37 8 [], .row 37 8 [], .row 37 8 []]⟩ ⟨[.ptr 0 0], [.box [.sl 1 [], .sl 1 [], .ptr 1 0, .ptr 2 0, .ptr 3 0, .ptr 4 0, .ptr 5 0, .ptr 6 0, .ptr 7 0, .ptr 8 0], .box [i64 room, .own 9 8 0 0, bool false], .box [i64 room, .own 10 8 0 0, bool false], .box [i64 room, .own 11 8 0 0, bool false], .box [i64 room, .own 12 8 0 0, bool false], .box [i64 room, .v (.slice none 0 0), bool false], .box [i64 room, .v (.slice none 0 0), bool false], .box [i64 room, .v (.slice none 0 0), bool false], .box [i64 room, .v (.slice none 0 0), bool false], .row 37 8 [], .row 37 8 [], .row 37 8 [], .row 37 8 []]⟩ :=
  Turns.adoptIn (s := ⟨[.ptr 0 0], [.box [.sl 1 [], .sl 1 [], .ptr 1 0, .ptr 2 0, .ptr 3 0, .ptr 4 0, .ptr 5 0, .ptr 6 0, .ptr 7 0, .ptr 8 0], .box [i64 room, .own 9 8 0 0, bool false], .box [i64 room, .own 10 8 0 0, bool false], .box [i64 room, .own 11 8 0 0, bool false], .box [i64 room, .v (.slice none 0 0), bool false], .box [i64 room, .v (.slice none 0 0), bool false], .box [i64 room, .v (.slice none 0 0), bool false], .box [i64 room, .v (.slice none 0 0), bool false], .box [i64 room, .v (.slice none 0 0), bool false], .row 37 8 [], .row 37 8 [], .row 37 8 []]⟩) (b := 4) (c := 1) 37 8 rfl rfl
theorem new_turn6 (room : Int) : Turns ⟨[.ptr 0 0], [.box [.sl 1 [], .sl 1 [], .ptr 1 0, .ptr 2 0, .ptr 3 0, .ptr 4 0, .ptr 5 0, .ptr 6 0, .ptr 7 0, .ptr 8 0], .box [i64 room, .own 9 8 0 0, bool false], .box [i64 room, .own 10 8 0 0, bool false], .box [i64 room, .own 11 8 0 0, bool false], .box [i64 room, .own 12 8 0 0, bool false], .box [i64 room, .v (.slice none 0 0), bool false], .box [i64 room, .v (.slice none 0 0), bool false], .box [i64 room, .v (.slice none 0 0), bool false], .box [i64 room, .v (.slice none 0 0), bool false], .row 37 8 [], .row 37 8 [], .row 37 8 [], .row 37 8 []]⟩ ⟨[.ptr 0 0], [.box [.sl 1 [], .sl 1 [], .ptr 1 0, .ptr 2 0, .ptr 3 0, .ptr 4 0, .ptr 5 0, .ptr 6 0, .ptr 7 0, .ptr 8 0], .box [i64 room, .own 9 8 0 0, bool false], .box [i64 room, .own 10 8 0 0, bool false], .box [i64 room, .own 11 8 0 0, bool false], .box [i64 room, .own 12 8 0 0, bool false], .box [i64 room, .own 13 8 0 0, bool false], .box [i64 room, .v (.slice none 0 0), bool false], .box [i64 room, .v (.slice none 0 0), bool false], .box [i64 room, .v (.slice none 0 0), bool false], .row 37 8 [], .row 37 8 [], .row 37 8 [], .row 37 8 [], .row 37 8 []]⟩ :=
  Turns.adoptIn (s := ⟨[.ptr 0 0], [.box [.sl 1 [], .sl 1 [], .ptr 1 0, .ptr 2 0, .ptr 3 0, .ptr 4 0, .ptr 5 0, .ptr 6 0, .ptr 7 0, .ptr 8 0], .box [i64 room, .own 9 8 0 0, bool false], .box [i64 room, .own 10 8 0 0, bool false], .box [i64 room, .own 11 8 0 0, bool false], .box [i64 room, .own 12 8 0 0, bool false], .box [i64 room, .v (.slice none 0 0), bool false], .box [i64 room, .v (.slice none 0 0), bool false], .box [i64 room, .v (.slice none 0 0), bool false], .box [i64 room, .v (.slice none 0 0), bool false], .row 37 8 [], .row 37 8 [], .row 37 8 [], .row 37 8 []]⟩) (b := 5) (c := 1) 37 8 rfl rfl
theorem new_turn7 (room : Int) : Turns ⟨[.ptr 0 0], [.box [.sl 1 [], .sl 1 [], .ptr 1 0, .ptr 2 0, .ptr 3 0, .ptr 4 0, .ptr 5 0, .ptr 6 0, .ptr 7 0, .ptr 8 0], .box [i64 room, .own 9 8 0 0, bool false], .box [i64 room, .own 10 8 0 0, bool false], .box [i64 room, .own 11 8 0 0, bool false], .box [i64 room, .own 12 8 0 0, bool false], .box [i64 room, .own 13 8 0 0, bool false], .box [i64 room, .v (.slice none 0 0), bool false], .box [i64 room, .v (.slice none 0 0), bool false], .box [i64 room, .v (.slice none 0 0), bool false], .row 37 8 [], .row 37 8 [], .row 37 8 [], .row 37 8 [], .row 37 8 []]⟩ ⟨[.ptr 0 0], [.box [.sl 1 [], .sl 1 [], .ptr 1 0, .ptr 2 0, .ptr 3 0, .ptr 4 0, .ptr 5 0, .ptr 6 0, .ptr 7 0, .ptr 8 0], .box [i64 room, .own 9 8 0 0, bool false], .box [i64 room, .own 10 8 0 0, bool false], .box [i64 room, .own 11 8 0 0, bool false], .box [i64 room, .own 12 8 0 0, bool false], .box [i64 room, .own 13 8 0 0, bool false], .box [i64 room, .own 14 8 0 0, bool false], .box [i64 room, .v (.slice none 0 0), bool false], .box [i64 room, .v (.slice none 0 0), bool false], .row 37 8 [], .row 37 8 [], .row 37 8 [], .row 37 8 [], .row 37 8 [], .row 37 8 []]⟩ :=
  Turns.adoptIn (s := ⟨[.ptr 0 0], [.box [.sl 1 [], .sl 1 [], .ptr 1 0, .ptr 2 0, .ptr 3 0, .ptr 4 0, .ptr 5 0, .ptr 6 0, .ptr 7 0, .ptr 8 0], .box [i64 room, .own 9 8 0 0, bool false], .box [i64 room, .own 10 8 0 0, bool false], .box [i64 room, .own 11 8 0 0, bool false], .box [i64 room, .own 12 8 0 0, bool false], .box [i64 room, .own 13 8 0 0, bool false], .box [i64 room, .v (.slice none 0 0), bool false], .box [i64 room, .v (.slice none 0 0), bool false], .box [i64 room, .v (.slice none 0 0), bool false], .row 37 8 [], .row 37 8 [], .row 37 8 [], .row 37 8 [], .row 37 8 []]⟩) (b := 6) (c := 1) 37 8 rfl rfl
theorem new_turn8 (room : Int) : Turns ⟨[.ptr 0 0], [.box [.sl 1 [], .sl 1 [], .ptr 1 0, .ptr 2 0, .ptr 3 0, .ptr 4 0, .ptr 5 0, .ptr 6 0, .ptr 7 0, .ptr 8 0], .box [i64 room, .own 9 8 0 0, bool false], .box [i64 room, .own 10 8 0 0, bool false], .box [i64 room, .own 11 8 0 0, bool false], .box [i64 room, .own 12 8 0 0, bool false], .box [i64 room, .own 13 8 0 0, bool false], .box [i64 room, .own 14 8 0 0, bool false], .box [i64 room, .v (.slice none 0 0), bool false], .box [i64 room, .v (.slice none 0 0), bool false], .row 37 8 [], .row 37 8 [], .row 37 8 [], .row 37 8 [], .row 37 8 [], .row 37 8 []]⟩ ⟨[.ptr 0 0], [.box [.sl 1 [], .sl 1 [], .ptr 1 0, .ptr 2 0, .ptr 3 0, .ptr 4 0, .ptr 5 0, .ptr 6 0, .ptr 7 0, .ptr 8 0], .box [i64 room, .own 9 8 0 0, bool false], .box [i64 room, .own 10 8 0 0, bool false], .box [i64 room, .own 11 8 0 0, bool false], .box [i64 room, .own 12 8 0 0, bool false], .box [i64 room, .own 13 8 0 0, bool false], .box [i64 room, .own 14 8 0 0, bool false], .box [i64 room, .own 15 8 0 0, bool false], .box [i64 room, .v (.slice none 0 0), bool false], .row 37 8 [], .row 37 8 [], .row 37 8 [], .row 37 8 [], .row 37 8 [], .row 37 8 [], .row 37 8 []]⟩ :=
  Turns.adoptIn (s := ⟨[.ptr 0 0], [.box [.sl 1 [], .sl 1 [], .ptr 1 0, .ptr 2 0, .ptr 3 0, .ptr 4 0, .ptr 5 0, .ptr 6 0, .ptr 7 0, .ptr 8 0], .box [i64 room, .own 9 8 0 0, bool false], .box [i64 room, .own 10 8 0 0, bool false], .box [i64 room, .own 11 8 0 0, bool false], .box [i64 room, .own 12 8 0 0, bool false], .box [i64 room, .own 13 8 0 0, bool false], .box [i64 room, .own 14 8 0 0, bool false], .box [i64 room, .v (.slice none 0 0), bool false], .box [i64 room, .v (.slice none 0 0), bool false], .row 37 8 [], .row 37 8 [], .row 37 8 [], .row 37 8 [], .row 37 8 [], .row 37 8 []]⟩) (b := 7) (c := 1) 37 8 rfl rfl
theorem new_turn9 (room : Int) : Turns ⟨[.ptr 0 0], [.box [.sl 1 [], .sl 1 [], .ptr 1 0, .ptr 2 0, .ptr 3 0, .ptr 4 0, .ptr 5 0, .ptr 6 0, .ptr 7 0, .ptr 8 0], .box [i64 room, .own 9 8 0 0, bool false], .box [i64 room, .own 10 8 0 0, bool false], .box [i64 room, .own 11 8 0 0, bool false], .box [i64 room, .own 12 8 0 0, bool false], .box [i64 room, .own 13 8 0 0, bool false], .box [i64 room, .own 14 8 0 0, bool false], .box [i64 room, .own 15 8 0 0, bool false], .box [i64 room, .v (.slice none 0 0), bool false], .row 37 8 [], .row 37 8 [], .row 37 8 [], .row 37 8 [], .row 37 8 [], .row 37 8 [], .row 37 8 []]⟩ ⟨[.ptr 0 0], [.box [.sl 1 [], .sl 1 [], .ptr 1 0, .ptr 2 0, .ptr 3 0, .ptr 4 0, .ptr 5 0, .ptr 6 0, .ptr 7 0, .ptr 8 0], .box [i64 room, .own 9 8 0 0, bool false], .box [i64 room, .own 10 8 0 0, bool false], .box [i64 room, .own 11 8 0 0, bool false], .box [i64 room, .own 12 8 0 0, bool false], .box [i64 room, .own 13 8 0 0, bool false], .box [i64 room, .own 14 8 0 0, bool false], .box [i64 room, .own 15 8 0 0, bool false], .box [i64 room, .own 16 8 0 0, bool false], .row 37 8 [], .row 37 8 [], .row 37 8 [], .row 37 8 [], .row 37 8 [], .row 37 8 [], .row 37 8 [], .row 37 8 []]⟩ :=
  Turns.adoptIn (s := ⟨[.ptr 0 0], [.box [.sl 1 [], .sl 1 [], .ptr 1 0, .ptr 2 0, .ptr 3 0, .ptr 4 0, .ptr 5 0, .ptr 6 0, .ptr 7 0, .ptr 8 0], .box [i64 room, .own 9 8 0 0, bool false], .box [i64 room, .own 10 8 0 0, bool false], .box [i64 room, .own 11 8 0 0, bool false], .box [i64 room, .own 12 8 0 0, bool false], .box [i64 room, .own 13 8 0 0, bool false], .box [i64 room, .own 14 8 0 0, bool false], .box [i64 room, .own 15 8 0 0, bool false], .box [i64 room, .v (.slice none 0 0), bool false], .row 37 8 [], .row 37 8 [], .row 37 8 [], .row 37 8 [], .row 37 8 [], .row 37 8 [], .row 37 8 []]⟩) (b := 8) (c := 1) 37 8 rfl rfl
theorem feed_New (room : Int) : ACall P 16 [] [i64 room] (fun x m' => x = .ptr 0 0 ∧ m' = feedM ⟨[], max room 0, fun _ => ([], false)⟩) := by
  refine ACall.weaken (feed_New0 room) ?_
  rintro x m' ⟨rfl, rfl⟩
  refine ⟨_, _, ?_, rfl, rfl⟩
  refine Turns.trans (new_turn0 _) ?_
  refine Turns.trans (new_turn1 _) ?_
  refine Turns.trans (new_turn2 _) ?_
  refine Turns.trans (new_turn3 _) ?_
  refine Turns.trans (new_turn4 _) ?_
  refine Turns.trans (new_turn5 _) ?_
  refine Turns.trans (new_turn6 _) ?_
  refine Turns.trans (new_turn7 _) ?_
  refine Turns.trans (new_turn8 _) ?_
  refine Turns.trans (new_turn9 _) ?_
  exact Turns.refl _
end Go.Proofs.Ytljgfapbbhbbpaa
