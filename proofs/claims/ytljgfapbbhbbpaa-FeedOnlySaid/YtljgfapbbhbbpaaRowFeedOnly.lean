/- The row of FeedOnly, out of its contract. Printed by row.py, a program of this session. -/
import Derived.Test.YtljgfapbbhbbpaaMi
import Derived.Test.YtljgfapbbhbbpaaSymZg
import Derived.Test.YtljgfapbbhbbpaaRows
import Derived.Test.YtljgfapbbhbbpaaSymU
namespace Go.Proofs.Ytljgfapbbhbbpaa
open Go Go.Proofs.Ytljgfapbbhbbpaa.Sym
set_option maxRecDepth 100000
set_option linter.unusedSimpArgs false
set_option linter.unusedVariables false

def strL (l : List ByteArray) : List AV := l.map fun s => str s
theorem strL_len (l : List ByteArray) : (strL l).length = l.length := by simp [strL]
theorem strL_get {l : List ByteArray} {i : Nat} (h : i < l.length) : (strL l).getD (Int.toNat (i : Int)) .any = str l[i] := by
  rw [Int.toNat_natCast]; simp [strL, List.getD, h]
theorem strL_snoc (l : List ByteArray) (u : ByteArray) : strL l ++ [str u] = strL (l ++ [u]) := by simp [strL]
theorem evts_snoc' (l : List Ev) (e : Ev) : evts l ++ [.agg [str e.u, i64 e.old.st, i64 e.old.pr, i64 e.old.n, i64 e.new.st, i64 e.new.pr, i64 e.new.n, u64 e.seq]] = evts (l ++ [e]) := by simp [evts, Ev.av]
def isW (W : List ByteArray) (u : ByteArray) : Bool := W.any fun v => v.toList == u.toList
theorem isW_iff {W : List ByteArray} {u : ByteArray} : isW W u = true ↔ u ∈ W := by
  rw [isW, List.any_eq_true]
  constructor
  · rintro ⟨v, hv, h⟩
    have : v = u := (eqS_iff _ _).1 h
    rw [← this]; exact hv
  · intro h; exact ⟨u, h, (eqS_iff _ _).2 rfl⟩
def restW (W : List ByteArray) (u : ByteArray) : List ByteArray := W.filter fun v => !(v.toList == u.toList)
theorem restW_mem {W : List ByteArray} {u v : ByteArray} : v ∈ restW W u ↔ v ∈ W ∧ v ≠ u := by
  rw [restW, List.mem_filter]
  refine and_congr_right fun _ => ?_
  have := eqS_iff v u
  rw [Bool.not_eq_true', ← Bool.not_eq_true, show (v.toList == u.toList) = eqS v u from rfl, this]

/-- What the client is told, and whom it watches. -/
structure OnlyF (k n : Nat) (F : Fd) (W : List ByteArray) (E : List Ev) : Prop where
  ok : mskOk F.m
  len : F.m.length ≤ n
  nd : W.Nodup
  wlen : W.length ≤ n
  wat : ∀ u, u ∈ W ↔ watF F.m k u = true
  room : F.room = 201
  q : F.q k = (E, false)
  elen : E.length ≤ n
  fl : ∀ j, (F.q j).1.length ≤ n

theorem OnlyF.watch_no {k n : Nat} {F : Fd} {W : List ByteArray} {E : List Ev} (h : OnlyF k n F W E) (who : Int) (u : ByteArray) (hne : (k : Int) ≠ who) : OnlyF k (n + 1) { F with m := watchM F.m who u } W E := by
  refine ⟨watch_ok h.ok who u, Nat.le_trans (watch_len _ _ _) (Nat.succ_le_succ h.len), h.nd, Nat.le_succ_of_le h.wlen, fun v => ?_, h.room, h.q, Nat.le_succ_of_le h.elen, fun j => Nat.le_succ_of_le (h.fl j)⟩
  show v ∈ W ↔ watF (watchM F.m who u) k v = true
  rw [wat_watch h.ok, decide_eq_false hne, Bool.false_and, Bool.and_false, Bool.or_false]
  exact h.wat v
theorem OnlyF.watch_in {k n : Nat} {F : Fd} {W : List ByteArray} {E : List Ev} (h : OnlyF k n F W E) (u : ByteArray) (hx : isW W u = true) : OnlyF k (n + 1) { F with m := watchM F.m k u } W E := by
  refine ⟨watch_ok h.ok k u, Nat.le_trans (watch_len _ _ _) (Nat.succ_le_succ h.len), h.nd, Nat.le_succ_of_le h.wlen, fun v => ?_, h.room, h.q, Nat.le_succ_of_le h.elen, fun j => Nat.le_succ_of_le (h.fl j)⟩
  show v ∈ W ↔ watF (watchM F.m k u) k v = true
  rw [wat_watch h.ok, h.wat v]
  simp only [Bool.or_eq_true, Bool.and_eq_true, decide_eq_true_eq]
  constructor
  · exact .inl
  · rintro (h1 | ⟨_, _, rfl⟩)
    · exact h1
    · exact (h.wat v).1 (isW_iff.1 hx)
theorem OnlyF.watch_yes {k n : Nat} {F : Fd} {W : List ByteArray} {E : List Ev} (h : OnlyF k n F W E) (u : ByteArray) (hc : cli (k : Int) = true) (hx : isW W u = false) : OnlyF k (n + 1) { F with m := watchM F.m k u } (W ++ [u]) E := by
  have hn : u ∉ W := fun hm => by rw [isW_iff.2 hm] at hx; cases hx
  refine ⟨watch_ok h.ok k u, Nat.le_trans (watch_len _ _ _) (Nat.succ_le_succ h.len), ?_, ?_, fun v => ?_, h.room, h.q, Nat.le_succ_of_le h.elen, fun j => Nat.le_succ_of_le (h.fl j)⟩
  · refine List.nodup_append.2 ⟨h.nd, by simp, ?_⟩
    intro a ha b hb e
    simp at hb
    subst hb
    exact hn (e ▸ ha)
  · rw [List.length_append]; exact Nat.succ_le_succ h.wlen
  · show v ∈ W ++ [u] ↔ watF (watchM F.m k u) k v = true
    rw [wat_watch h.ok, hc, List.mem_append, h.wat v]
    simp
theorem OnlyF.unwatch_no {k n : Nat} {F : Fd} {W : List ByteArray} {E : List Ev} (h : OnlyF k n F W E) (who : Int) (u : ByteArray) (hne : (k : Int) ≠ who) : OnlyF k (n + 1) { F with m := unwatchM F.m who u } W E := by
  refine ⟨unwatch_ok h.ok who u, Nat.le_trans (unwatch_len _ _ _) (Nat.succ_le_succ h.len), h.nd, Nat.le_succ_of_le h.wlen, fun v => ?_, h.room, h.q, Nat.le_succ_of_le h.elen, fun j => Nat.le_succ_of_le (h.fl j)⟩
  show v ∈ W ↔ watF (unwatchM F.m who u) k v = true
  rw [wat_unwatch h.ok, decide_eq_false hne, Bool.false_and, Bool.not_false, Bool.and_true]
  exact h.wat v
theorem OnlyF.unwatch_yes {k n : Nat} {F : Fd} {W : List ByteArray} {E : List Ev} (h : OnlyF k n F W E) (u : ByteArray) : OnlyF k (n + 1) { F with m := unwatchM F.m k u } (restW W u) E := by
  refine ⟨unwatch_ok h.ok k u, Nat.le_trans (unwatch_len _ _ _) (Nat.succ_le_succ h.len), h.nd.filter _, Nat.le_succ_of_le (Nat.le_trans (List.length_filter_le _ _) h.wlen), fun v => ?_, h.room, h.q, Nat.le_succ_of_le h.elen, fun j => Nat.le_succ_of_le (h.fl j)⟩
  show v ∈ restW W u ↔ watF (unwatchM F.m k u) k v = true
  rw [wat_unwatch h.ok, restW_mem, h.wat v]
  simp
theorem OnlyF.tell_no {k n : Nat} {F : Fd} {W : List ByteArray} {E : List Ev} (h : OnlyF k n F W E) (c : Chg) (seq : Int) (hk : k < 8) (hw : watF F.m k c.u = false) : OnlyF k (n + 1) (tellF F [c] seq) W E := by
  obtain ⟨a1, a2, a3⟩ := tellF_ok F [c] seq
  refine ⟨by rw [a1]; exact h.ok, by rw [a1]; exact Nat.le_succ_of_le h.len, h.nd, Nat.le_succ_of_le h.wlen, fun v => by rw [a1]; exact h.wat v, a2.trans h.room, ?_, Nat.le_succ_of_le h.elen, fun j => Nat.le_trans (a3 j) (Nat.succ_le_succ (h.fl j))⟩
  rw [tell_one, tell1_qn (F := F) (c := c) (seq := seq) hk hw]
  exact h.q
theorem OnlyF.tell_yes {k n : Nat} {F : Fd} {W : List ByteArray} {E : List Ev} (h : OnlyF k n F W E) (c : Chg) (seq : Int) (hk : k < 8) (hn : n ≤ 200) (hw : watF F.m k c.u = true) : OnlyF k (n + 1) (tellF F [c] seq) W (E ++ [⟨c.u, c.old, c.new, seq⟩]) := by
  obtain ⟨a1, a2, a3⟩ := tellF_ok F [c] seq
  refine ⟨by rw [a1]; exact h.ok, by rw [a1]; exact Nat.le_succ_of_le h.len, h.nd, Nat.le_succ_of_le h.wlen, fun v => by rw [a1]; exact h.wat v, a2.trans h.room, ?_, by rw [List.length_append]; exact Nat.succ_le_succ h.elen, fun j => Nat.le_trans (a3 j) (Nat.succ_le_succ (h.fl j))⟩
  rw [tell_one, tell1_qy (F := F) (c := c) (seq := seq) hk hw, h.q, h.room, putR, if_neg]
  have := h.elen
  simp only
  omega

def onlyS (l : List ActP) (k : Nat) (i : Nat) (F : Fd) (W : List ByteArray) (E : List Ev) : St :=
  ⟨[.sl 5 (acps l), .any, .any, .any, .any, i64 k, .ptr 0 0, .own 18 8 0 E.length, .own 17 1 0 W.length, i64 i, .any, .any, .any, .any, .any, .any, .any, .any, .any, .any, .any, .any, .any, .any, .any, .any, .any, .any, .any, .any, .any, .any, .any, .any, .any, .any, .any, .any, .any, .any, .any, .any, .any, .any, .any, .any, .any, .any, .any, .any, .any, .any, .any, .any, .any, .any, .any, .any, .any, .any, .any, .any, .any, .any, .any, .any, .any, .any, .any, .any, .any, .any, .any, .any, .any, .any, .any, .any, .any, .any, .any, .any, .any, .any, .any, .any, .any, .any, .any, .any, .any, .any, .any, .any, .any, .any, .any, .any, .any, .any, .any, .any, .any, .any, .any, .any, .any, .any, .any, .any, .any, .any, .any, .any, .any, .any, .any, .any, .any, .any, .any, .any, .any, .any, .any, .any, .any, .any, .any, .any, .any, .any, .any, .any, .any, .any, .any, .any, .any, .any, .any, .any, .any, .any, .any, .any, .any, .any, .any, .any, .any, .any, .any, .any, .any], feedM F ++ [.row 9 1 (strL W), .row 37 8 (evts E)]⟩

set_option maxHeartbeats 4000000 in
theorem law_only (l : List ActP) (who : Nat) (hl : l.length ≤ 9223372036854775807) (hw : who ≤ 255) (hd : ∀ a ∈ l, a.d ≤ 255) :
    PCall P 7 [.sl 5 (acps l), .v (.int .u8 who)] (fun x => x = .v (.bool true)) := by
  obtain ⟨b, hb, hlong⟩ := law09_long l hl
  refine pcall_go tyOk Try.func7 rfl rfl ?_
  intro K hK
  simp only [Try.ntmps7, List.length_cons, List.length_nil, Nat.reduceAdd, Nat.reduceSub, List.replicate, List.cons_append, List.nil_append]
  try simp (maxSteps := 1000000) only [go_region, go_seq, go_ops_nil, go_op, opK_none, opK_some, contK_some, callOf, callK_eq, callJ_nil, callD_fn, fstep, fpre, fstep0, evs, St.ev, St.put, ownersAll, List.set, List.append_nil, true_and, Bool.true_and]
  (refine callG_use law09_awake rfl ?_; rintro _ rfl)
  try simp (maxSteps := 1000000) only [go_op, go_guard, opK_none, opK_some, contK_some, guardK_eq, guardV_ff, callOf, callK_eq, callJ_nil, callD_fn, fstep, fpre, fstep0, funary, evs, St.ev, St.put, AV.owners, ownersAll, List.getD_cons_zero, List.getD_cons_succ, List.set, List.append_nil, List.getElem?_cons_zero, List.getElem?_cons_succ, Option.bind_some, List.getElem?_toArray, true_and, Bool.true_and, Bool.not_true]
  (refine callG_use hb rfl ?_; rintro _ rfl)
  try simp (maxSteps := 1000000) only [go_cond, go_ops_nil, go_op, opK_none, contK_some, callOf, fstep, fpre, fstep0, fpick, St.ev, St.put, List.getD_cons_zero, List.getD_cons_succ, List.set, true_and, Bool.true_and, cond_false]
  cases b
  · obtain ⟨hll, _⟩ := hlong rfl
    have ew1 : IntKind.i64.wrap (who : Int) = (who : Int) := wrap_i64 (by omega) (by omega)
    have ek : Int.tmod (who : Int) 8 = ((who % 8 : Nat) : Int) := rfl
    have hk8 : who % 8 < 8 := Nat.mod_lt _ (by decide)
    have ewk : IntKind.i64.wrap ((who % 8 : Nat) : Int) = ((who % 8 : Nat) : Int) := wrap_i64 (by omega) (by omega)
    try simp (maxSteps := 1000000) only [go_skip, go_region, go_seq, go_ops_nil, go_op, opK_none, opK_some, contK_some, condK_f, callOf, callK_eq, callJ_nil, callD_fn, fstep, fpre, fstep0, fbinA, fbin, fbin0, fconvA, fconvert, evs, T, St.ev, St.put, AV.owners, ownersAll, List.getD_cons_zero, List.getD_cons_succ, List.set, List.append_nil, true_and, and_true, Bool.and_true, Bool.true_and, ne_eq, not_false_eq_true, Int.reduceEq, ew1, ek]
    generalize who % 8 = k at *
    have hck : cli (k : Int) = true := by simp [cli]; omega
    refine callG_A (Sym.ACall.mono (feed_New 201) ?_)
    rintro _ _ ⟨rfl, rfl⟩
    try simp (maxSteps := 1000000) only [go_region, go_seq, go_block, go_loop, go_ops_nil, go_op, opK_none, contK_some, callOf, fstep, fpre, fstep0, St.ev, St.put, List.getD_cons_zero, List.getD_cons_succ, List.set, true_and, Bool.true_and]
    refine loopK_turn (Turns.adopt (i := 8) 9 1 rfl) ?_
    refine loopK_turn (Turns.adopt (i := 7) 37 8 rfl) ?_
    refine loopK_ruleP tyOk (α := Nat × Fd × List ByteArray × List Ev) (fun s => s.1 ≤ l.length ∧ OnlyF k s.1 s.2.1 s.2.2.1 s.2.2.2)
      (fun s => onlyS l k s.1 s.2.1 s.2.2.1 s.2.2.2)
      (fun s => l.length - s.1) (0, ⟨[], max 201 0, fun _ => ([], false)⟩, [], []) ⟨Nat.zero_le _, ?_⟩ ?_ ?_
    · exact ⟨msk_nil, Nat.le_refl _, List.nodup_nil, Nat.le_refl _, fun u => by rw [wat_nil]; simp, (by decide : max (201 : Int) 0 = 201), rfl, Nat.le_refl _, fun j => Nat.le_refl _⟩
    · refine TurnsL.keepPick [0, 5, 6, 7, 8, 9] (List.range 19) (by decide) (by rfl) rfl (by rfl) (by rfl) (fun b hb => absurd hb (Nat.not_lt_zero _))
    rintro ⟨i, F, W, E⟩ ⟨hi, hA⟩
    simp only at hi hA
    have hWl := hA.wlen
    have hFl := hA.len
    have hEl := hA.elen
    try simp (maxSteps := 1000000) only [go_region, go_seq, go_cond, go_ops_nil, go_op, opK_none, contK_some, callOf, fstep, fpre, fstep0, fbinA, fbin, fbin0, flen, T, St.ev, St.put, List.getD_cons_zero, List.getD_cons_succ, List.set, true_and, Bool.true_and, acps_len, onlyS]
    (first | refine guardV_split ?_ ?_ | refine condK_split ?_ ?_ | refine drawV_split ?_ ?_ | refine condY_split ?_ ?_ | refine guardY_split ?_ ?_) <;> intro hf
    · have hlt : i < l.length := by simpa using hf
      have eg := acps_get hlt
      have ew : IntKind.i64.wrap ((i : Int) + 1) = ((i + 1 : Nat) : Int) := by rw [wrap_i64 (by omega) (by omega)]; rfl
      have b1 : (0 : Int) ≤ (i : Int) ∧ Int.toNat (i : Int) < l.length := by omega
      have hdd := hd _ (List.getElem_mem hlt)
      generalize l[i] = a at *
      have em : Int.tmod (a.d : Int) 4 = ((a.d % 4 : Nat) : Int) := rfl
      try simp (maxSteps := 1000000) only [go_skip, go_region, go_seq, go_block, go_loop, go_ops_nil, go_op, opK_none, contK_some, condK_t, callOf, fstep, fpre, fstep0, fload, fcell, fstore, findexAddr, T, TI.isAgg, St.ev, St.put, splice, AV.cells, AV.known, AV.flat, Value.oneCell', List.getD_cons_zero, List.getD_cons_succ, List.set, List.map_cons, List.map_nil, List.length_cons, List.length_nil, List.all_cons, List.all_nil, List.drop_succ_cons, List.drop_zero, List.take_succ_cons, List.take_zero, List.cons_append, List.nil_append, List.append_nil, List.getElem?_cons_zero, List.getElem?_cons_succ, true_and, and_true, Bool.and_true, Bool.true_and, Bool.and_self, ↓reduceIte, Nat.reduceAdd, Nat.le_refl, Nat.zero_add, List.length_append, fm_19, fm_s19, fm_len, fm_add, eg, b1, acps_len]
      refine loopK_rule tyOk (α := Nat) 20 [0, 5, 6, 7, 8, 9, 10, 11, 12] (fun n => n ≤ W.length)
        (fun n => ⟨[.sl 5 (acps l), .any, .any, .any, .any, i64 k, .ptr 0 0, .own 18 8 0 E.length, .own 17 1 0 W.length, i64 i, .ptr 19 0, bool (isW (W.take n) a.u), i64 n, .any, .any, .any, .any, .any, .any, .any, .any, .any, .any, .any, .any, .any, .any, .any, .any, .any, .any, .any, .any, .any, .any, .any, .any, .any, .any, .any, .any, .any, .any, .any, .any, .any, .any, .any, .any, .any, .any, .any, .any, .any, .any, .any, .any, .any, .any, .any, .any, .any, .any, .any, .any, .any, .any, .any, .any, .any, .any, .any, .any, .any, .any, .any, .any, .any, .any, .any, .any, .any, .any, .any, .any, .any, .any, .any, .any, .any, .any, .any, .any, .any, .any, .any, .any, .any, .any, .any, .any, .any, .any, .any, .any, .any, .any, .any, .any, .any, .any, .any, .any, .any, .any, .any, .any, .any, .any, .any, .any, .any, .any, .any, .any, .any, .any, .any, .any, .any, .any, .any, .any, .any, .any, .any, .any, .any, .any, .any, .any, .any, .any, .any, .any, .any, .any, .any, .any, .any, .any, .any, .any, .any, .any], feedM F ++ [.row 9 1 (strL W), .row 37 8 (evts E), .box [.v (.int .u8 a.d), i64 a.who, str a.u, i64 a.live, u64 a.seq]]⟩)
        (fun n => W.length - n) 0 (by simp) (Nat.zero_le _) rfl ?_
      intro n hn
      try simp (maxSteps := 1000000) only [go_region, go_seq, go_cond, go_ops_nil, go_op, opK_none, contK_some, callOf, fstep, fpre, fstep0, fbinA, fbin, fbin0, flen, T, St.ev, St.put, List.getD_cons_zero, List.getD_cons_succ, List.set, true_and, Bool.true_and]
      (first | refine guardV_split ?_ ?_ | refine condK_split ?_ ?_ | refine drawV_split ?_ ?_ | refine condY_split ?_ ?_ | refine guardY_split ?_ ?_) <;> intro hf2
      · have hlt2 : n < W.length := by simpa using hf2
        have eg2 := strL_get hlt2
        have ew2 : IntKind.i64.wrap ((n : Int) + 1) = ((n + 1 : Nat) : Int) := by rw [wrap_i64 (by omega) (by omega)]; rfl
        have b2 : (0 : Int) ≤ (n : Int) ∧ Int.toNat (n : Int) < W.length := by omega
        have hs : isW (W.take (n + 1)) a.u = (isW (W.take n) a.u || (W[n].toList == a.u.toList)) := by
          rw [take_succ' hlt2, isW, isW, List.any_append]; simp
        generalize W[n] = v at *
        try simp (maxSteps := 1000000) only [go_skip, go_seq, go_block, go_draws, condK_t]
        refine draw_rule tyOk (by rfl) (by simp only [Nat.zero_le]) (by kernel_rfl) rfl ?_
        cases hx : isW (W.take n) a.u
        · rw [hx, Bool.false_or] at hs
          try simp (maxSteps := 1000000) only [go_nil, go_region, go_blk, go_ops_nil, go_op, opK_none, contK_some, callOf, fstep, fpre, fstep0, fbinA, fbin, fbin0, fload, fcell, ffieldAddr, findexAddr, fpick, T, TI.isAgg, St.ev, St.put, AV.cells, AV.known, Value.cells, List.getD_cons_zero, List.getD_cons_succ, List.set, List.map_cons, List.map_nil, List.length_cons, List.length_nil, List.drop_succ_cons, List.drop_zero, List.headD_cons, List.append_nil, List.getElem?_cons_zero, List.getElem?_cons_succ, List.replicate, Option.bind_some, List.getElem?_toArray, true_and, and_true, Bool.and_true, Bool.true_and, Bool.false_eq_true, ↓reduceIte, reduceCtorEq, ne_eq, not_false_eq_true, Nat.reduceAdd, Nat.reduceLT, Nat.add_zero, Nat.zero_add, cond_false, newCount, drawR_nil, drawR_op, drawR_guard, drawW_some, drawV_ff, drawP_none, drawQ_some, dstep, isFree, St.app, bump, isNew, List.length_append, fm_17, fm_19, fm_len, eg2, b2, strL_len]
          refine ⟨by kernel_rfl, ?_⟩
          try simp (maxSteps := 1000000) only [ew2]
          simp only [loopX_normal, St.trunc, St.keep, truncVs, truncV, keepV, List.elem_cons, List.elem_nil, Nat.reduceAdd, Nat.reduceBEq, Nat.reduceLeDiff, Nat.zero_add, Bool.false_eq_true, ↓reduceIte]
          exact ⟨n + 1, hlt2, by omega, by rw [hs]; rfl⟩
        · rw [hx, Bool.true_or] at hs
          try simp (maxSteps := 1000000) only [go_nil, go_region, go_blk, go_ops_nil, go_op, opK_none, contK_some, undef, callOf, fstep, fpre, fstep0, fbinA, fbin, fbin0, fpick, St.ev, St.put, List.getD_cons_zero, List.getD_cons_succ, List.set, List.length_cons, List.length_nil, List.append_nil, List.getElem?_cons_zero, List.getElem?_cons_succ, List.replicate, Option.bind_some, List.getElem?_toArray, true_and, Bool.true_and, Bool.false_eq_true, ↓reduceIte, Nat.reduceAdd, Nat.add_zero, Nat.zero_add, newCount, drawR_nil, drawR_op, drawR_guard, drawW_some, drawV_tf, drawP_none, drawQ_some, dstep, isFree, St.app, bump, isNew, List.length_append, fm_len]
          refine ⟨by kernel_rfl, ?_⟩
          try simp (maxSteps := 1000000) only [ew2]
          simp only [loopX_normal, St.trunc, St.keep, truncVs, truncV, keepV, List.elem_cons, List.elem_nil, Nat.reduceAdd, Nat.reduceBEq, Nat.reduceLeDiff, Nat.zero_add, Bool.false_eq_true, ↓reduceIte]
          exact ⟨n + 1, hlt2, by omega, by rw [hs]; rfl⟩
      · obtain rfl : n = W.length := by have := of_decide_eq_false hf2; omega
        rw [List.take_length]
        have hisW : isW W a.u = watF F.m k a.u := by rw [Bool.eq_iff_iff, isW_iff, hA.wat]
        try simp (maxSteps := 1000000) only [go_region, go_seq, go_cond, go_block, go_exit, exitK_code, exitK_blk, exitK_nil, go_ops_nil, go_op, opK_none, contK_some, condK_f, callOf, fstep, fpre, fstep0, fbinA, fbin, fbin0, fload, fcell, ffieldAddr, T, TI.isAgg, St.ev, St.put, List.getD_cons_zero, List.getD_cons_succ, List.set, List.length_cons, List.length_nil, List.drop_zero, List.headD_cons, List.getElem?_cons_zero, List.getElem?_cons_succ, List.getElem?_toArray, true_and, and_true, Bool.and_true, Bool.true_and, Bool.false_eq_true, ↓reduceIte, reduceCtorEq, ne_eq, not_false_eq_true, Nat.reduceAdd, Nat.reduceLT, Nat.add_zero, Nat.zero_add, Int.reduceEq, loopX_exit, fm_19, em]
        have hcases : a.d % 4 = 0 ∨ a.d % 4 = 1 ∨ (a.d % 4 ≠ 0 ∧ a.d % 4 ≠ 1) := by omega
        rcases hcases with hm | hm | hm
        · have q0 : (((a.d % 4 : Nat) : Int) == 0) = true := by rw [hm]; rfl
          try simp (maxSteps := 1000000) only [go_region, go_seq, go_op, opK_none, opK_some, contK_some, condK_t, callOf, callK_eq, callJ_nil, callD_fn, fstep, fpre, fstep0, fload, fcell, ffieldAddr, evs, T, TI.isAgg, St.ev, St.put, AV.owners, ownersAll, List.getD_cons_zero, List.getD_cons_succ, List.set, List.length_cons, List.length_nil, List.drop_succ_cons, List.drop_zero, List.headD_cons, List.append_nil, List.getElem?_cons_zero, List.getElem?_cons_succ, List.getElem?_toArray, true_and, Bool.true_and, Bool.false_eq_true, ↓reduceIte, reduceCtorEq, ne_eq, not_false_eq_true, Nat.reduceAdd, Nat.reduceLT, Nat.zero_add, fm_19, q0]
          refine callG_A (Sym.ACall.mono (Watch_at F [.row 9 1 (strL W), .row 37 8 (evts E), .box [.v (.int .u8 a.d), i64 a.who, str a.u, i64 a.live, u64 a.seq]] a.who a.u hA.ok.1 (by omega)) ?_)
          rintro _ _ rfl
          try simp (maxSteps := 1000000) only [go_region, go_seq, go_ops_nil, go_op, go_guard, opK_none, contK_some, guardK_eq, callOf, fstep, fpre, fstep0, fbinA, fbin, fbin0, fload, fcell, ffieldAddr, T, TI.isAgg, St.ev, St.put, List.getD_cons_zero, List.getD_cons_succ, List.set, List.length_cons, List.length_nil, List.drop_succ_cons, List.drop_zero, List.headD_cons, List.getElem?_cons_zero, List.getElem?_cons_succ, Option.bind_some, List.getElem?_toArray, true_and, Bool.true_and, Bool.false_eq_true, ↓reduceIte, reduceCtorEq, ne_eq, not_false_eq_true, Nat.reduceAdd, Nat.reduceLT, Nat.zero_add, fm_19]
          cases hwk : a.who == (k : Int)
          · have hne : (k : Int) ≠ a.who := fun h => by rw [← h, beq_self_eq_true] at hwk; cases hwk
            have hA' := hA.watch_no a.who a.u hne
            try simp (maxSteps := 1000000) only [go_nil, go_skip, go_region, go_cond, go_blk, go_ops_nil, go_op, go_guard, opK_none, contK_some, condK_f, guardK_eq, guardV_ft, undef, callOf, fstep, fpre, fstep0, fbinA, fbin, fbin0, fpick, St.ev, St.put, List.getD_cons_zero, List.getD_cons_succ, List.set, List.getElem?_cons_zero, List.getElem?_cons_succ, Option.bind_some, List.getElem?_toArray, true_and, Bool.true_and, Bool.false_eq_true, ↓reduceIte, ew]
            rw [loopP_normal]
            exact ⟨(i + 1, ({ F with m := watchM F.m a.who a.u } : Fd), W, E), ⟨hlt, hA'⟩, by simp only; omega, TurnsL.keepPick [0, 5, 6, 7, 8, 9] (List.range 19) (by decide) (by rfl) (by rfl) (by rfl) (by rfl) (fun b hb => absurd hb (Nat.not_lt_zero _))⟩
          · have hwe : a.who = (k : Int) := beq_iff_eq.1 hwk
            cases hx : isW W a.u
            · have hA' := hA.watch_yes a.u hck hx
              rw [← hwe] at hA'
              try simp (maxSteps := 1000000) only [go_nil, go_region, go_cond, go_blk, go_ops_nil, go_op, go_guard, opK_none, contK_some, condK_t, guardK_eq, guardV_tt, undef, callOf, fstep, fpre, fstep0, fbinA, fbin, fbin0, fload, fcell, ffieldAddr, evParts, evOwners, fbuildSlice, funary, felems, fappend, fpick, T, TI.isAgg, TI.zeroOk, TI.zav, setParts, partsOk, St.ev, St.put, St.shutAll, St.rehome, killV, killVs, AB.kill, AV.cells, AV.known, AV.flat, AV.pure, AV.owners, Value.cells, Value.oneCell', List.getD_cons_zero, List.getD_cons_succ, List.set, List.map_cons, List.map_nil, List.length_cons, List.length_nil, List.all_cons, List.all_nil, List.drop_succ_cons, List.drop_zero, List.take_succ_cons, List.take_zero, List.headD_cons, List.cons_append, List.nil_append, List.append_nil, List.getElem?_cons_zero, List.getElem?_cons_succ, List.replicate, Option.bind_some, List.getElem?_toArray, true_and, and_true, Bool.and_true, Bool.true_and, Bool.and_self, Bool.or_true, Bool.not_false, Bool.false_eq_true, ↓reduceIte, decide_true, reduceCtorEq, ne_eq, not_false_eq_true, Nat.reduceAdd, Nat.reduceMul, Nat.reduceLeDiff, Nat.reduceEqDiff, Nat.reduceLT, Nat.zero_le, Nat.le_refl, Nat.zero_add, cond_true, List.length_append, fm_17, fm_19, fm_20, fm_s17, fm_len, fm_add, fm_killA, strL_len]
              refine ⟨⟨by simp only [maxLen]; omega, by omega⟩, ?_⟩
              try simp (maxSteps := 1000000) only [ew]
              rw [loopP_normal]
              refine ⟨(i + 1, ({ F with m := watchM F.m a.who a.u } : Fd), W ++ [a.u], E), ⟨hlt, hA'⟩, by simp only; omega, ?_⟩
              simp only [onlyS]
              rw [← strL_snoc, List.length_append]
              exact TurnsL.keepPick [0, 5, 6, 7, 8, 9] (List.range 19) (by decide) (by rfl) (by rfl) (by rfl) (by rfl) (fun b hb => absurd hb (Nat.not_lt_zero _))
            · have hA' := hA.watch_in a.u hx
              rw [← hwe] at hA'
              try simp (maxSteps := 1000000) only [go_nil, go_skip, go_region, go_cond, go_blk, go_ops_nil, go_op, go_guard, opK_none, contK_some, condK_f, guardK_eq, guardV_tt, callOf, fstep, fpre, fstep0, fbinA, fbin, fbin0, funary, fpick, St.ev, St.put, List.getD_cons_zero, List.getD_cons_succ, List.set, List.getElem?_cons_zero, List.getElem?_cons_succ, Option.bind_some, List.getElem?_toArray, true_and, Bool.true_and, Bool.not_true, cond_true, ew]
              rw [loopP_normal]
              exact ⟨(i + 1, ({ F with m := watchM F.m a.who a.u } : Fd), W, E), ⟨hlt, hA'⟩, by simp only; omega, TurnsL.keepPick [0, 5, 6, 7, 8, 9] (List.range 19) (by decide) (by rfl) (by rfl) (by rfl) (by rfl) (fun b hb => absurd hb (Nat.not_lt_zero _))⟩
        · have q0 : (((a.d % 4 : Nat) : Int) == 0) = false := by rw [hm]; rfl
          have q1 : (((a.d % 4 : Nat) : Int) == 1) = true := by rw [hm]; rfl
          try simp (maxSteps := 1000000) only [go_region, go_seq, go_cond, go_ops_nil, go_op, opK_none, opK_some, contK_some, condK_t, condK_f, callOf, callK_eq, callJ_nil, callD_fn, fstep, fpre, fstep0, fbinA, fbin, fbin0, fload, fcell, ffieldAddr, evs, T, TI.isAgg, St.ev, St.put, AV.owners, ownersAll, List.getD_cons_zero, List.getD_cons_succ, List.set, List.length_cons, List.length_nil, List.drop_succ_cons, List.drop_zero, List.headD_cons, List.append_nil, List.getElem?_cons_zero, List.getElem?_cons_succ, List.getElem?_toArray, true_and, Bool.true_and, Bool.false_eq_true, ↓reduceIte, reduceCtorEq, ne_eq, not_false_eq_true, Nat.reduceAdd, Nat.reduceLT, Nat.zero_add, fm_19, q0, q1]
          refine callG_A (Sym.ACall.mono (Unwatch_at F [.row 9 1 (strL W), .row 37 8 (evts E), .box [.v (.int .u8 a.d), i64 a.who, str a.u, i64 a.live, u64 a.seq]] a.who a.u hA.ok.1 (by omega)) ?_)
          rintro _ _ rfl
          try simp (maxSteps := 1000000) only [go_region, go_seq, go_cond, go_ops_nil, go_op, opK_none, contK_some, callOf, fstep, fpre, fstep0, fbinA, fbin, fbin0, fload, fcell, ffieldAddr, T, TI.isAgg, St.ev, St.put, List.getD_cons_zero, List.getD_cons_succ, List.set, List.length_cons, List.length_nil, List.drop_succ_cons, List.drop_zero, List.headD_cons, List.getElem?_cons_zero, List.getElem?_cons_succ, List.getElem?_toArray, true_and, Bool.true_and, Bool.false_eq_true, ↓reduceIte, reduceCtorEq, ne_eq, not_false_eq_true, Nat.reduceAdd, Nat.reduceLT, Nat.zero_add, fm_19]
          cases hwk : a.who == (k : Int)
          · have hne : (k : Int) ≠ a.who := fun h => by rw [← h, beq_self_eq_true] at hwk; cases hwk
            have hA' := hA.unwatch_no a.who a.u hne
            try simp (maxSteps := 1000000) only [go_nil, go_skip, go_region, go_blk, go_ops_nil, go_op, opK_none, contK_some, condK_f, callOf, fstep, fpre, fstep0, fbinA, fbin, fbin0, St.ev, St.put, List.getD_cons_zero, List.getD_cons_succ, List.set, true_and, Bool.true_and, ew]
            rw [loopP_normal]
            exact ⟨(i + 1, ({ F with m := unwatchM F.m a.who a.u } : Fd), W, E), ⟨hlt, hA'⟩, by simp only; omega, TurnsL.keepPick [0, 5, 6, 7, 8, 9] (List.range 19) (by decide) (by rfl) (by rfl) (by rfl) (by rfl) (fun b hb => absurd hb (Nat.not_lt_zero _))⟩
          · have hwe : a.who = (k : Int) := beq_iff_eq.1 hwk
            have hA' := hA.unwatch_yes a.u
            rw [← hwe] at hA'
            try simp (maxSteps := 1000000) only [go_region, go_seq, go_block, go_loop, go_ops_nil, go_op, opK_none, contK_some, condK_t, callOf, fstep, fpre, fstep0, St.ev, St.put, List.set, true_and, Bool.true_and]
            refine loopK_turn (Turns.adopt (i := 13) 9 1 rfl) ?_
            refine loopK_rule tyOk (α := Nat) 21 [0, 5, 6, 7, 8, 9, 10, 13, 14] (fun n => n ≤ W.length)
              (fun n => ⟨[.sl 5 (acps l), .any, .any, .any, .any, i64 k, .ptr 0 0, .own 18 8 0 E.length, .own 17 1 0 W.length, i64 i, .ptr 19 0, .any, .any, .own 20 1 0 (restW (W.take n) a.u).length, i64 n, .any, .any, .any, .any, .any, .any, .any, .any, .any, .any, .any, .any, .any, .any, .any, .any, .any, .any, .any, .any, .any, .any, .any, .any, .any, .any, .any, .any, .any, .any, .any, .any, .any, .any, .any, .any, .any, .any, .any, .any, .any, .any, .any, .any, .any, .any, .any, .any, .any, .any, .any, .any, .any, .any, .any, .any, .any, .any, .any, .any, .any, .any, .any, .any, .any, .any, .any, .any, .any, .any, .any, .any, .any, .any, .any, .any, .any, .any, .any, .any, .any, .any, .any, .any, .any, .any, .any, .any, .any, .any, .any, .any, .any, .any, .any, .any, .any, .any, .any, .any, .any, .any, .any, .any, .any, .any, .any, .any, .any, .any, .any, .any, .any, .any, .any, .any, .any, .any, .any, .any, .any, .any, .any, .any, .any, .any, .any, .any, .any, .any, .any, .any, .any, .any, .any, .any, .any, .any, .any, .any], feedM ({ F with m := unwatchM F.m a.who a.u } : Fd) ++ [.row 9 1 (strL W), .row 37 8 (evts E), .box [.v (.int .u8 a.d), i64 a.who, str a.u, i64 a.live, u64 a.seq], .row 9 1 (strL (restW (W.take n) a.u))]⟩)
              (fun n => W.length - n) 0 (by simp) (Nat.zero_le _) rfl ?_
            intro n hn
            try simp (maxSteps := 1000000) only [go_region, go_seq, go_cond, go_ops_nil, go_op, opK_none, contK_some, callOf, fstep, fpre, fstep0, fbinA, fbin, fbin0, flen, T, St.ev, St.put, List.getD_cons_zero, List.getD_cons_succ, List.set, true_and, Bool.true_and]
            (first | refine guardV_split ?_ ?_ | refine condK_split ?_ ?_ | refine drawV_split ?_ ?_ | refine condY_split ?_ ?_ | refine guardY_split ?_ ?_) <;> intro hf2
            · have hlt2 : n < W.length := by simpa using hf2
              have eg2 := strL_get hlt2
              have ew2 : IntKind.i64.wrap ((n : Int) + 1) = ((n + 1 : Nat) : Int) := by rw [wrap_i64 (by omega) (by omega)]; rfl
              have b2 : (0 : Int) ≤ (n : Int) ∧ Int.toNat (n : Int) < W.length := by omega
              have hrl : (restW (W.take n) a.u).length ≤ n := Nat.le_trans (List.length_filter_le _ _) (by rw [List.length_take]; omega)
              have hs : restW (W.take (n + 1)) a.u = restW (W.take n) a.u ++ (if (W[n].toList == a.u.toList) = true then [] else [W[n]]) := by
                rw [take_succ' hlt2, restW, restW, List.filter_append, List.filter_cons, List.filter_nil]
                congr 1
                cases (W[n].toList == a.u.toList) <;> rfl
              generalize restW (W.take n) a.u = R at *
              generalize W[n] = v at *
              try simp (maxSteps := 1000000) only [go_skip, go_seq, go_block, go_draws, condK_t]
              refine draw_rule tyOk (by rfl) (by simp only [Nat.zero_le]) (by kernel_rfl) rfl ?_
              try simp (maxSteps := 1000000) only [go_cond, callOf, fstep0, fbinA, fbin, fbin0, fload, fcell, ffieldAddr, findexAddr, T, TI.isAgg, St.ev, St.put, AV.cells, AV.known, Value.cells, List.getD_cons_zero, List.getD_cons_succ, List.set, List.map_cons, List.map_nil, List.length_cons, List.length_nil, List.drop_succ_cons, List.drop_zero, List.headD_cons, List.append_nil, List.getElem?_cons_zero, List.getElem?_cons_succ, List.replicate, List.getElem?_toArray, true_and, and_true, Bool.and_true, Bool.true_and, Bool.false_eq_true, ↓reduceIte, reduceCtorEq, ne_eq, not_false_eq_true, Nat.reduceAdd, Nat.reduceLT, Nat.add_zero, Nat.zero_add, newCount, drawR_nil, drawR_op, drawP_none, drawQ_some, dstep, isFree, St.app, bump, isNew, List.length_append, fm_17, fm_19, fm_len, eg2, b2, strL_len]
              refine ⟨by kernel_rfl, ?_⟩
              skip
              cases hv : v.toList == a.u.toList
              · rw [hv] at hs
                simp only [Bool.false_eq_true, if_false] at hs
                try simp (maxSteps := 1000000) only [go_nil, go_region, go_blk, go_ops_nil, go_op, opK_none, contK_some, condK_t, undef, callOf, fstep, fpre, fstep0, fbinA, fbin, fbin0, fload, fcell, findexAddr, evParts, evOwners, fbuildSlice, felems, fappend, T, TI.isAgg, TI.zeroOk, TI.zav, setParts, partsOk, St.ev, St.put, St.shutAll, St.rehome, killV, killVs, AB.kill, AV.cells, AV.known, AV.flat, AV.pure, AV.owners, Value.cells, Value.oneCell', List.getD_cons_zero, List.getD_cons_succ, List.set, List.map_cons, List.map_nil, List.length_cons, List.length_nil, List.all_cons, List.all_nil, List.drop_zero, List.take_succ_cons, List.take_zero, List.headD_cons, List.cons_append, List.nil_append, List.append_nil, List.getElem?_cons_zero, List.getElem?_cons_succ, List.replicate, true_and, and_true, Bool.and_true, Bool.true_and, Bool.and_self, Bool.or_true, Bool.not_false, Bool.false_eq_true, ↓reduceIte, decide_true, reduceCtorEq, Nat.reduceAdd, Nat.reduceMul, Nat.reduceLeDiff, Nat.reduceEqDiff, Nat.reduceLT, Nat.zero_le, Nat.le_refl, Nat.zero_add, List.length_append, fm_17, fm_20, fm_21, fm_s20, fm_len, fm_add, fm_killA, eg2, b2, strL_len]
                refine ⟨⟨by simp only [maxLen]; omega, by omega⟩, ?_⟩
                try simp (maxSteps := 1000000) only [ew2]
                simp only [loopX_normal, St.trunc, St.keep, truncVs, truncV, keepV, List.drop_zero, List.elem_cons, List.elem_nil, Nat.reduceAdd, Nat.reduceBEq, Nat.reduceLeDiff, Nat.le_refl, Nat.zero_add, Bool.false_eq_true, ↓reduceIte]
                exact ⟨n + 1, hlt2, by omega, by rw [hs, ← strL_snoc, List.length_append]; rfl⟩
              · rw [hv, if_pos rfl, List.append_nil] at hs
                try simp (maxSteps := 1000000) only [go_nil, go_skip, go_region, go_blk, go_ops_nil, go_op, opK_none, contK_some, condK_f, callOf, fstep, fpre, fstep0, fbinA, fbin, fbin0, St.ev, St.put, List.getD_cons_zero, List.getD_cons_succ, List.set, true_and, Bool.true_and, Bool.not_true, ew2]
                simp only [loopX_normal, St.trunc, St.keep, truncVs, truncV, keepV, List.elem_cons, List.elem_nil, Nat.reduceAdd, Nat.reduceBEq, Nat.reduceLeDiff, Nat.zero_add, Bool.false_eq_true, ↓reduceIte]
                exact ⟨n + 1, hlt2, by omega, by rw [hs]; rfl⟩
            · obtain rfl : n = W.length := by have := of_decide_eq_false hf2; omega
              rw [List.take_length]
              try simp (maxSteps := 1000000) only [go_nil, go_region, go_blk, go_exit, exitK_code, exitK_blk, exitK_nil, go_ops_nil, go_op, opK_none, contK_some, condK_f, callOf, fstep, fpre, fstep0, fbinA, fbin, fbin0, St.ev, St.put, List.getD_cons_zero, List.getD_cons_succ, List.set, true_and, Bool.true_and, ↓reduceIte, loopX_exit, ew]
              rw [loopP_normal]
              exact ⟨(i + 1, ({ F with m := unwatchM F.m a.who a.u } : Fd), restW W a.u, E), ⟨hlt, hA'⟩, by simp only; omega, TurnsL.keepPick [0, 5, 6, 7, 8, 9] (List.range 17 ++ [20, 18]) (by decide) (by rfl) (by rfl) (by rfl) (by rfl) (fun b hb => absurd hb (Nat.not_lt_zero _))⟩
        · have q0 : (((a.d % 4 : Nat) : Int) == 0) = false := by rw [beq_eq_false_iff_ne]; omega
          have q1 : (((a.d % 4 : Nat) : Int) == 1) = false := by rw [beq_eq_false_iff_ne]; omega
          try simp (maxSteps := 1000000) only [go_region, go_seq, go_cond, go_ops_nil, go_op, opK_none, opK_some, contK_some, condK_f, callOf, callK_eq, callJ_cons, fstep, fpre, fstep0, fbinA, fbin, fbin0, fload, fcell, ffieldAddr, ffill, fieldPlaces, fieldsOk, fbuild, evParts, evOwners, fbuildSlice, evs, T, TI.isAgg, TI.zeroOk, TI.zav, setParts, partsOk, St.ev, St.put, St.shutAll, splice, AV.cells, AV.known, AV.flat, AV.pure, pureAll, AV.owners, ownersAll, Value.cells, Value.oneCell', List.getD_cons_zero, List.getD_cons_succ, List.set, List.map_cons, List.map_nil, List.length_cons, List.length_nil, List.all_cons, List.all_nil, List.drop_succ_cons, List.drop_zero, List.take_succ_cons, List.take_zero, List.headD_cons, List.cons_append, List.nil_append, List.append_nil, List.getElem?_cons_zero, List.getElem?_cons_succ, List.replicate, Option.isSome_some, List.getElem?_toArray, true_and, and_true, Bool.and_true, Bool.true_and, Bool.and_self, Bool.or_false, Bool.false_eq_true, ↓reduceIte, decide_true, decide_false, reduceCtorEq, ne_eq, not_false_eq_true, Nat.reduceAdd, Nat.reduceMul, Nat.reduceLeDiff, Nat.reduceEqDiff, Nat.reduceLT, Nat.zero_le, Nat.le_refl, Nat.zero_add, List.length_append, fm_19, fm_len, fm_add, q0, q1]
          refine callO_shut ?_
          try simp (maxSteps := 1000000) only [callH_fn, evs, St.ev, St.shutAll, St.shut, shutV, shutVs, AB.shut, List.getD_cons_zero, List.getD_cons_succ, List.set, List.map_cons, List.map_nil, List.length_cons, List.length_nil, List.all_cons, List.all_nil, List.drop_zero, List.take_succ_cons, List.take_zero, List.append_nil, List.getElem?_cons_zero, List.getElem?_cons_succ, true_and, and_true, Bool.and_true, Bool.true_and, Bool.and_self, ↓reduceIte, decide_true, reduceCtorEq, Nat.reduceLeDiff, Nat.reduceEqDiff, Nat.zero_le, Nat.le_refl, Nat.zero_add, fm_20, fm_s20, fm_shut]
          have hT := Tell_at F [.row 9 1 (strL W), .row 37 8 (evts E), .box [.v (.int .u8 a.d), i64 a.who, str a.u, i64 a.live, u64 a.seq], .gone] [⟨a.u, ⟨0, 0, 0⟩, ⟨0, 0, a.live⟩⟩] a.seq hA.ok.1 (by omega) (by simp) (fun j => by have := hA.fl j; omega) rfl
          refine callG_X (kp := kpF) (fun b hb => absurd hb (Nat.not_lt_zero b)) (Sym.ACallX.mono hT ?_)
          rintro _ _ rfl
          try simp (maxSteps := 1000000) only [go_region, go_seq, go_cond, go_ops_nil, go_op, opK_none, contK_some, callOf, fstep, fpre, fstep0, St.ev, St.put, cutVs, cutV, bks, bksAll, List.getD_cons_zero, List.getD_cons_succ, List.set, List.all_cons, List.all_nil, List.append_nil, true_and, Bool.true_and, Bool.and_self, Bool.or_true, Bool.or_false, ↓reduceIte, decide_true, decide_false, Nat.reduceLeDiff, Nat.reduceLT, Nat.le_refl, kpF]
          cases hx : isW W a.u
          · have hA' := hA.tell_no ⟨a.u, ⟨0, 0, 0⟩, ⟨0, 0, a.live⟩⟩ a.seq hk8 (by rw [← hisW]; exact hx)
            try simp (maxSteps := 1000000) only [go_nil, go_skip, go_region, go_blk, go_ops_nil, go_op, opK_none, contK_some, condK_f, callOf, fstep, fpre, fstep0, fbinA, fbin, fbin0, St.ev, St.put, List.getD_cons_zero, List.getD_cons_succ, List.set, true_and, Bool.true_and, ew]
            rw [loopP_normal]
            exact ⟨(i + 1, (tellF F [⟨a.u, ⟨0, 0, 0⟩, ⟨0, 0, a.live⟩⟩] a.seq), W, E), ⟨hlt, hA'⟩, by simp only; omega, TurnsL.keepPick [0, 5, 6, 7, 8, 9] (List.range 19) (by decide) (by rfl) (by rfl) (by rfl) (by rfl) (fun b hb => absurd hb (Nat.not_lt_zero _))⟩
          · have hA' := hA.tell_yes ⟨a.u, ⟨0, 0, 0⟩, ⟨0, 0, a.live⟩⟩ a.seq hk8 (by omega) (by rw [← hisW]; exact hx)
            try simp (maxSteps := 1000000) only [go_nil, go_region, go_blk, go_ops_nil, go_op, opK_none, contK_some, condK_t, callOf, fstep, fpre, fstep0, fbinA, fbin, fbin0, fload, fcell, ffieldAddr, ffill, fieldPlaces, fieldsOk, fbuild, evParts, evOwners, fbuildSlice, felems, fappend, T, TI.isAgg, TI.zeroOk, TI.zav, setParts, partsOk, St.ev, St.put, St.shutAll, St.rehome, killV, killVs, AB.kill, splice, AV.cells, AV.known, AV.flat, AV.pure, pureAll, AV.owners, ownersAll, Value.cells, Value.oneCell', List.getD_cons_zero, List.getD_cons_succ, List.set, List.map_cons, List.map_nil, List.length_cons, List.length_nil, List.all_cons, List.all_nil, List.drop_succ_cons, List.drop_zero, List.take_succ_cons, List.take_zero, List.headD_cons, List.cons_append, List.nil_append, List.append_nil, List.getElem?_cons_zero, List.getElem?_cons_succ, List.replicate, Option.isSome_some, List.getElem?_toArray, true_and, and_true, Bool.and_true, Bool.true_and, Bool.and_self, Bool.or_false, Bool.false_eq_true, ↓reduceIte, decide_true, decide_false, reduceCtorEq, ne_eq, not_false_eq_true, Nat.reduceAdd, Nat.reduceMul, Nat.reduceLeDiff, Nat.reduceEqDiff, Nat.reduceLT, Nat.zero_le, Nat.le_refl, Nat.zero_add, List.length_append, fm_18, fm_19, fm_21, fm_s18, fm_len, fm_add, fm_killA, evts_len]
            refine ⟨⟨by simp only [maxLen]; omega, by omega⟩, ?_⟩
            try simp (maxSteps := 1000000) only [ew]
            rw [loopP_normal]
            refine ⟨(i + 1, (tellF F [⟨a.u, ⟨0, 0, 0⟩, ⟨0, 0, a.live⟩⟩] a.seq), W, E ++ [⟨a.u, ⟨0, 0, 0⟩, ⟨0, 0, a.live⟩, a.seq⟩]), ⟨hlt, hA'⟩, by simp only; omega, ?_⟩
            simp only [onlyS]
            rw [← evts_snoc' E ⟨a.u, ⟨0, 0, 0⟩, ⟨0, 0, a.live⟩, a.seq⟩, List.length_append]
            exact TurnsL.keepPick [0, 5, 6, 7, 8, 9] (List.range 19) (by decide) (by rfl) (by rfl) (by rfl) (by rfl) (fun b hb => absurd hb (Nat.not_lt_zero _))
    · obtain rfl : i = l.length := by have := of_decide_eq_false hf; omega
      have hD := Drain_at F [.row 9 1 (strL W), .row 37 8 (evts E)] k (fun j => by have := hA.fl j; omega) rfl
      have e1 : drainL F k = E := by rw [drainL, if_pos hck, Int.toNat_natCast, hA.q]
      have e2 : drainB F k = false := by rw [drainB, if_pos hck, Int.toNat_natCast, hA.q]
      rw [if_pos hck, e1, e2] at hD
      have hS := ref09_Same E E (by omega) (by omega)
      rw [decide_eq_true rfl] at hS
      have em : (F.drain k).m = F.m := by rw [Fd.drain, if_pos hck]; rfl
      have hC := fun r => Count_at (F.drain k) r k (by rw [em]; omega)
      have ec : cntM (F.drain k).m k = W.length := by rw [em]; exact cnt_eq hA.ok k hA.nd hA.wat
      simp only [ec] at hC
      have et : List.take E.length (evts E) = evts E := List.take_of_length_le (by rw [evts_len]; exact Nat.le_refl _)
      generalize F.drain k = F' at *
      try simp (maxSteps := 1000000) only [go_region, go_seq, go_exit, exitK_code, exitK_blk, exitK_nil, go_op, opK_none, opK_some, contK_some, condK_f, callOf, callK_eq, callJ_nil, callD_fn, fstep, fpre, fstep0, evs, St.ev, St.put, AV.owners, ownersAll, List.getD_cons_zero, List.getD_cons_succ, List.set, List.append_nil, true_and, Bool.true_and, ↓reduceIte, loopP_exit]
      refine callG_X (kp := kpF) (fun b hb => absurd hb (Nat.not_lt_zero b)) (Sym.ACallX.mono hD ?_)
      rintro _ _ ⟨rfl, rfl⟩
      try simp (maxSteps := 1000000) only [go_region, go_seq, go_ops_nil, go_op, opK_none, opK_some, contK_some, callOf, callK_eq, callJ_cons, fstep, fpre, fstep0, evs, St.ev, St.put, AV.owners, ownersAll, cutVs, cutV, bks, List.getD_cons_zero, List.getD_cons_succ, List.set, List.length_cons, List.length_nil, List.all_cons, List.all_nil, List.nil_append, List.append_nil, true_and, Bool.true_and, Bool.and_self, Bool.or_true, Bool.or_false, ↓reduceIte, decide_true, decide_false, Nat.reduceAdd, Nat.reduceLeDiff, Nat.reduceLT, Nat.le_refl, Nat.zero_add, kpF]
      refine callO_shut ?_
      try simp (maxSteps := 1000000) only [callH_fn, evs, St.ev, St.shutAll, St.shut, shutV, shutVs, AB.shut, List.getD_cons_zero, List.getD_cons_succ, List.set, List.map_cons, List.map_nil, List.all_cons, List.all_nil, List.drop_zero, List.append_nil, List.getElem?_cons_zero, List.getElem?_cons_succ, true_and, and_true, Bool.and_true, Bool.true_and, Bool.and_self, ↓reduceIte, decide_true, reduceCtorEq, Nat.reduceLeDiff, Nat.reduceEqDiff, Nat.zero_le, Nat.le_refl, Nat.zero_add, fm_18, fm_s18, fm_shut, evts_len, et]
      (refine callG_use hS rfl ?_; rintro _ rfl)
      try simp (maxSteps := 1000000) only [go_op, go_guard, opK_none, opK_some, contK_some, guardK_eq, guardV_tt, callOf, callK_eq, callJ_nil, callD_fn, fstep, fpre, fstep0, funary, evs, fpick, St.ev, St.put, AV.owners, ownersAll, List.getD_cons_zero, List.getD_cons_succ, List.set, List.append_nil, List.getElem?_cons_zero, List.getElem?_cons_succ, Option.bind_some, List.getElem?_toArray, true_and, Bool.true_and, Bool.not_false, cond_true]
      refine callG_A (Sym.ACall.mono (hC _) ?_)
      rintro _ _ ⟨rfl, rfl⟩
      try simp (maxSteps := 1000000) only [go_ret, go_ops_nil, go_op, go_guard, opK_none, contK_some, guardK_eq, guardV_tt, callOf, fstep, fpre, fstep0, fbinA, fbin, fbin0, flen, fpick, T, St.ev, St.put, List.getD_cons_zero, List.getD_cons_succ, List.set, List.getElem?_cons_zero, List.getElem?_cons_succ, Option.bind_some, List.getElem?_toArray, true_and, Bool.true_and, cond_true, beq_self_eq_true]
      apply hK
      simp only [Try.results7, retK, ares, Bool.and_true, Bool.true_and, AV.ofResults, St.trunc, truncVs, truncV, List.getD_cons_zero, List.getD_cons_succ, List.take_zero, List.map_nil, true_and, and_true, List.cons.injEq, exists_eq_left']
  · try simp (maxSteps := 1000000) only [go_region, go_seq, go_op, opK_some, condK_t, callOf, callK_eq, callJ_nil, callD_fn, evs, St.ev, ownersAll, List.append_nil]
    (refine callG_use law09_awake rfl ?_; rintro _ rfl)
    try simp (maxSteps := 1000000) only [go_ret, go_ops_nil, go_op, opK_none, contK_some, callOf, fstep, fpre, fstep0, St.ev, St.put, List.getD_cons_zero, List.getD_cons_succ, List.set, true_and, Bool.true_and]
    apply hK
    simp only [Try.results7, retK, ares, List.take_nil, Bool.and_true, Bool.true_and, AV.ofResults, St.trunc, truncVs, truncV, List.getD_cons_zero, List.getD_cons_succ, List.map_nil, true_and, and_true, List.cons.injEq, exists_eq_left']

def shapesFeedOnly : List (Bool × List Lf) := [(false, [.sl 5 true [.int .u8, .int .i64, .str, .int .i64, .int .u64]]), (false, [.int .u8])]
theorem shapesFeedOnly_ok : argShapes T 6 [46, 5] = some shapesFeedOnly := by kernel_rfl
theorem law_FeedOnly (xs : List AV) (h : argsFit shapesFeedOnly xs) : PCall P 7 xs (fun x => x = .v (.bool true)) := by
  obtain ⟨_, _, rfl, ⟨_, _, rfl, ⟨ys, rfl, hlen, hys⟩, rfl⟩, _, _, rfl, ⟨_, _, rfl, ⟨w, rfl, hw⟩, rfl⟩, rfl⟩ := h
  obtain ⟨l, rfl, hl⟩ := fits_acps hys
  rw [acps_len] at hlen
  have hw' : 0 ≤ w ∧ w ≤ 255 := by simpa [Lit.wf, IntKind.min, IntKind.max, IntKind.signed, IntKind.bits] using hw
  obtain ⟨w, rfl⟩ : ∃ m : Nat, w = m := ⟨w.toNat, by omega⟩
  exact law_only l w (by simpa [maxLen] using hlen) (by omega) hl
end Go.Proofs.Ytljgfapbbhbbpaa
namespace Go.Proofs.Ytljgfapbbhbbpaa.feedOnly
open Go.ChangeShapes Go.WideShapes Go.ChangeAt Go.RowKit Go.Proofs.Ytljgfapbbhbbpaa.Sym
open Go.ChangeMaps (open_string shut_string)
set_option linter.unusedVariables false
theorem own : ownKnob Try.prog.godebug = none := by kernel_rfl
theorem laidOut : laidOutB Try.prog = true := by kernel_rfl
set_option maxRecDepth 100000 in
theorem lifted (os : Os) (started : os.Started) (H : Type) (enc : TypeId × Value → H) :
    ReturnsInHanded {} Try.checked os 7 .any (Rows.feedOnlySpec.pre6 enc Try.prog Try.f7 Rows.feedOnlyRow.domain false) (Rows.feedOnlySpec.post enc Try.prog Try.f7 false true false false) := by
  refine returnsInHanded_of_change_sized (C := Try.checked) own started (by kernel_rfl) Try.func7
    (ChangeSpec.witness6 (enc := enc) (C := Try.checked) false ⟨#[], #[.slice none 0 0, .int .u8 0], []⟩ 8 (by kernel_rfl) (by kernel_rfl) (by kernel_rfl) (by kernel_rfl)) ?_
  intro W base args ds gs before hval0 hW hcnd hsz0 _
  have hval : ∀ (j : Nat) t v, Try.f7.params[j]? = some t → args[j]? = some v → Value.okWide Try.prog W .any base t v := hval0
  have hW' := hW
  obtain ⟨p, q, hA0, hV, rfl, hfz, hnd⟩ := hW
  have hA : DataW.TrodAll enc Try.prog W 0 (fun _ => true) true Try.f7.params.toList args.toList ds p := hA0
  have hval2 : ∀ (j : Nat) t v, Try.f7.params.toList[j]? = some t → args.toList[j]? = some v → Value.okWide Try.prog W .any base t v := fun j t v h1 h2 => hval j t v (by simpa using h1) (by simpa using h2)
  rw [Try.params7] at hA hval2
  obtain ⟨xs, hfit, hrel⟩ := open_args tyOk _ _ _ _ _ shapesFeedOnly_ok hval2 hA
  obtain ⟨v0, vs0, d0, ds0, p0, q0, hargs, rfl, rfl, h0, r0⟩ := trodAll_cons hA
  obtain ⟨v1, vs1, d1, ds1, p1, q1, rfl, rfl, rfl, h1, r1⟩ := trodAll_cons r0
  obtain ⟨rfl, rfl, rfl⟩ := trodAll_nil r1
  obtain rfl : args = #[v0, v1] := by cases args; simp_all
  obtain ⟨rfl, rfl⟩ := trodVars_none hV
  have k0 := h0
  have lt0 : ∀ x ∈ p0, x.block < W.heap.size := by obtain ⟨m, hm⟩ := k0; exact DataW.trod_lt m _ _ _ hm
  have k1 := h1
  have lt1 : ∀ x ∈ p1, x.block < W.heap.size := by obtain ⟨m, hm⟩ := k1; exact DataW.trod_lt m _ _ _ hm
  clear hA0 hval0 hsz0 hval hval2
  refine (PCall.calls (law_FeedOnly xs hfit) hrel (fun _ _ h => by cases h)).mono ?_
  rintro e W' ⟨y, x, rfl, rfl, hy, bel⟩
  obtain rfl := hy _ rfl
  exact ⟨_, rfl, _, _, _, [], _, [], hW', trodAll_mk1 (shut_bool Try.underlying4 _), (trodAll_cons_mk (Below.trod laidOut (by kernel_rfl) (of_decide_eq_true (by kernel_rfl)) k0 bel lt0) (trodAll_cons_mk (Below.trod laidOut (by kernel_rfl) (of_decide_eq_true (by kernel_rfl)) k1 bel lt1) trodAll_mk0)), rfl, bel.frame _, fun h => by cases h⟩
theorem over : Rows.feedOnlyRow.holds Try.pinned (OpenSpec.ofChange Rows.feedOnlySpec) :=
  OpenClaim.holds_of_wide 7 Try.f7 rfl rfl rfl rfl rfl rfl rfl ⟨rfl, rfl, rfl, rfl, rfl⟩ rfl rfl rfl rfl rfl (by kernel_rfl) Try.func7 (by kernel_rfl)
    (of_decide_eq_true (by kernel_rfl)) (by unfold Func.isWrapper; first | (rw [if_pos (by decide +kernel)]; kernel_rfl) | (rw [if_neg (by decide +kernel)]; exact ⟨rfl, rfl⟩))
    (fun os started H enc _ => lifted os started H enc)
theorem proved : Rows.FeedOnlySaid := over
#print axioms proved
end Go.Proofs.Ytljgfapbbhbbpaa.feedOnly
namespace Go.Proofs.Ytljgfapbbhbbpaa
/-- The row, under a short name, for the claim. -/
theorem feedOnly_holds : Rows.FeedOnlySaid := feedOnly.proved
end Go.Proofs.Ytljgfapbbhbbpaa
