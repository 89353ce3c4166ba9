/- Whatever befalls a feed, all that it tells is the document's. -/
import Derived.Test.YtljgfapbbhbbpaaMh
import Derived.Test.YtljgfapbbhbbpaaMf
namespace Go.Proofs.Ytljgfapbbhbbpaa
open Go Go.Proofs.Ytljgfapbbhbbpaa.Sym
set_option maxRecDepth 100000
set_option linter.unusedSimpArgs false
set_option linter.unusedVariables false

structure ActP where
  d : Nat
  who : Int
  u : ByteArray
  live : Int
  seq : Int
def ActP.av (a : ActP) : AV := .agg [.v (.int .u8 a.d), i64 a.who, str a.u, i64 a.live, u64 a.seq]
def acps (l : List ActP) : List AV := l.map ActP.av
theorem acps_len (l : List ActP) : (acps l).length = l.length := by simp [acps]
theorem acps_get {l : List ActP} {i : Nat} (h : i < l.length) : (acps l).getD (Int.toNat (i : Int)) .any = .agg [.v (.int .u8 (l[i]).d), i64 (l[i]).who, str (l[i]).u, i64 (l[i]).live, u64 (l[i]).seq] := by
  rw [Int.toNat_natCast]; simp [acps, List.getD, h, ActP.av]
theorem law09_long (l : List ActP) (hl : l.length ≤ 9223372036854775807) : ∃ b, PCall P 23 [.sl 5 (acps l)] (fun x => x = bool b) ∧ (b = false → l.length ≤ 200 ∧ ∀ a ∈ l, a.u.size ≤ 100) := by
  refine ⟨decide (200 < l.length) || l.any (fun a => decide (100 < a.u.size)), ?_, ?_⟩
  · refine pcall_go tyOk Try.func23 rfl rfl ?_
    intro K hK
    simp only [Try.ntmps23, List.length_cons, List.length_nil, Nat.reduceAdd, Nat.reduceSub, List.replicate, List.cons_append, List.nil_append]
    by_cases h0 : l.length ≤ 200
    · have c0 : decide ((200 : Int) < (l.length : Int)) = false := decide_eq_false (by omega)
      have c0' : decide ((l.length : Int) > (200 : Int)) = false := decide_eq_false (by omega)
      rw [decide_eq_false (by omega : ¬ 200 < l.length), Bool.false_or] at hK
      try simp (maxSteps := 1000000) only [go_skip, go_region, go_seq, go_cond, go_block, go_loop, go_ops_nil, go_op, opK_none, contK_some, condK_f, callOf, fstep, fpre, fstep0, fbinA, fbin, fbin0, flen, T, St.ev, St.put, List.getD_cons_zero, List.getD_cons_succ, List.set, true_and, Bool.true_and, acps_len, c0]
      refine loopK_rule tyOk (α := Nat) 0 [0, 3] (fun i => i ≤ l.length ∧ (l.take i).any (fun a => decide (100 < a.u.size)) = false)
        (fun i => ⟨[.sl 5 (acps l), .any, .any, i64 i, .any, .any, .any, .any, .any, .any, .any, .any, .any, .any, .any, .any, .any, .any, .any, .any], []⟩)
        (fun i => l.length - i) 0 (by simp) ⟨Nat.zero_le _, rfl⟩ rfl ?_
      rintro i ⟨hi, hall⟩
      try simp (maxSteps := 1000000) only [go_region, go_seq, go_cond, go_ops_nil, go_op, opK_none, contK_some, callOf, fstep, fpre, fstep0, fbinA, fbin, fbin0, flen, T, St.ev, St.put, List.getD_cons_zero, List.getD_cons_succ, List.set, true_and, Bool.true_and, acps_len]
      (first | refine guardV_split ?_ ?_ | refine condK_split ?_ ?_ | refine drawV_split ?_ ?_ | refine condY_split ?_ ?_ | refine guardY_split ?_ ?_) <;> intro hf <;> try simp (maxSteps := 1000000) only [go_skip, go_region, go_seq, go_block, go_exit, go_ret, exitK_code, exitK_blk, exitK_nil, go_ops_nil, go_op, opK_none, contK_some, condK_t, condK_f, callOf, fstep, fpre, fpost, fstep0, fload, fcell, ffieldAddr, findexAddr, flen, T, TI.isAgg, St.ev, St.put, AV.cells, AV.known, Value.cells, List.getD_cons_zero, List.getD_cons_succ, List.set, List.getElem?_cons_zero, List.getElem?_cons_succ, List.getElem?_toArray, true_and, Bool.true_and, Bool.false_eq_true, ↓reduceIte, reduceCtorEq, ne_eq, not_false_eq_true, loopX_exit]
      · have hlt : i < l.length := by simpa using hf
        have eg := acps_get hlt
        have ew : IntKind.i64.wrap ((i : Int) + 1) = ((i + 1 : Nat) : Int) := by rw [wrap_i64 (by omega) (by omega)]; rfl
        have b1 : (0 : Int) ≤ (i : Int) ∧ Int.toNat (i : Int) < l.length := by omega
        by_cases h3 : 100 < (l[i]).u.size
        · have c3 : decide ((100 : Int) < ((l[i]).u.size : Int)) = true := decide_eq_true (by omega)
          have c3' : decide (((l[i]).u.size : Int) > (100 : Int)) = true := decide_eq_true (by omega)
          have he : l.any (fun a => decide (100 < a.u.size)) = true := List.any_eq_true.2 ⟨_, List.getElem_mem hlt, decide_eq_true h3⟩
          rw [he] at hK
          try simp (maxSteps := 1000000) only [go_region, go_seq, go_cond, go_ret, go_ops_nil, go_op, opK_none, contK_some, condK_t, callOf, fstep, fpre, fstep0, fbinA, fbin, fbin0, St.ev, St.put, List.getD_cons_zero, List.getD_cons_succ, List.set, List.length_cons, List.length_nil, List.drop_succ_cons, List.drop_zero, List.headD_cons, true_and, and_true, Bool.and_true, Bool.true_and, Nat.reduceAdd, Nat.reduceLT, Nat.zero_add, loopX_ret, eg, b1, acps_len, c3]
          apply hK
          simp only [Try.results23, retK, ares, List.take_nil, Bool.and_true, Bool.true_and, AV.ofResults, St.trunc, truncVs, truncV, List.getD_cons_zero, List.getD_cons_succ, List.map_nil, true_and, and_true, List.cons.injEq, exists_eq_left']
        · have c3 : decide ((100 : Int) < ((l[i]).u.size : Int)) = false := decide_eq_false (by omega)
          have c3' : decide (((l[i]).u.size : Int) > (100 : Int)) = false := decide_eq_false (by omega)
          try simp (maxSteps := 1000000) only [go_nil, go_skip, go_region, go_cond, go_blk, go_ops_nil, go_op, opK_none, contK_some, condK_f, callOf, fstep, fpre, fstep0, fbinA, fbin, fbin0, St.ev, St.put, List.getD_cons_zero, List.getD_cons_succ, List.set, List.length_cons, List.length_nil, List.drop_succ_cons, List.drop_zero, List.headD_cons, true_and, and_true, Bool.and_true, Bool.true_and, Nat.reduceAdd, Nat.reduceLT, Nat.zero_add, eg, b1, acps_len, c3, ew]
          simp only [loopX_normal, St.trunc, St.keep, truncVs, truncV, keepV, List.elem_cons, List.elem_nil, List.take_zero, List.map_nil, Nat.reduceAdd, Nat.reduceBEq, Nat.zero_add, Bool.false_eq_true, ↓reduceIte]
          refine ⟨i + 1, ⟨hlt, ?_⟩, by omega, rfl⟩
          rw [take_succ' hlt, List.any_append, hall, Bool.false_or]
          simp only [List.any_cons, List.any_nil, Bool.or_false]
          exact decide_eq_false h3
      · obtain rfl : i = l.length := by have := of_decide_eq_false hf; omega
        rw [List.take_length] at hall
        rw [hall] at hK
        apply hK
        simp only [Try.results23, retK, ares, List.take_nil, Bool.and_true, Bool.true_and, AV.ofResults, St.trunc, truncVs, truncV, List.getD_cons_zero, List.getD_cons_succ, List.map_nil, true_and, and_true, List.cons.injEq, exists_eq_left']
    · have c0 : decide ((200 : Int) < (l.length : Int)) = true := decide_eq_true (by omega)
      have c0' : decide ((l.length : Int) > (200 : Int)) = true := decide_eq_true (by omega)
      rw [decide_eq_true (by omega : 200 < l.length), Bool.true_or] at hK
      try simp (maxSteps := 1000000) only [go_region, go_seq, go_cond, go_ret, go_ops_nil, go_op, opK_none, contK_some, condK_t, callOf, fstep, fpre, fstep0, fbinA, fbin, fbin0, flen, T, St.ev, St.put, List.getD_cons_zero, List.getD_cons_succ, List.set, true_and, Bool.true_and, acps_len, c0]
      apply hK
      simp only [Try.results23, retK, ares, List.take_nil, Bool.and_true, Bool.true_and, AV.ofResults, St.trunc, truncVs, truncV, List.getD_cons_zero, List.getD_cons_succ, List.map_nil, true_and, and_true, List.cons.injEq, exists_eq_left']
  · intro h
    rw [Bool.or_eq_false_iff] at h
    refine ⟨by have := of_decide_eq_false h.1; omega, fun a ha => ?_⟩
    have := List.any_eq_false.1 h.2 a ha
    simp at this
    omega

/-! ### The document's feed behind the program's -/
theorem evts_ren' (bs : List Nat) (l : List Ev) : renAll bs (evts l) = evts l := evts_ren bs l
theorem pds_ren (bs : List Nat) (l : Prd) : renAll bs (pds l) = pds l := by
  induction l with
  | nil => rfl
  | cons c l ih => rw [pds, List.map_cons, renAll, ← pds, ih]; rfl
theorem doc_ren (D : Df) : renM [17] [docB D] = [docB D] := by
  simp only [docB, docC, renM, AB.ren, ren, renAll]
theorem doc_pre {g : FuncId} {args args0 : List AV} {K0 K : AV → List AB → Prop} (F : Fd) (D : Df) (r : List AB) (h : ACall P g [docB D] args0 K0) (ha : args = renAll [17] args0) (hb : (bksAll args0).all (fun b => decide (b < 1)) = true)
    (hK : ∀ x m', K0 x m' → ∃ D', m' = [docB D'] ∧ K (ren [17] x) (feedM F ++ docB D' :: r)) : ACall P g (feedM F ++ docB D :: r) args K := by
  refine h.frame [17] (by decide) (by rw [doc_ren]; rfl) ha hb (by rfl) (fun x m' hx => ?_)
  obtain ⟨D', rfl, hv⟩ := hK x m' hx
  exact ⟨rfl, by rw [doc_ren]; exact hv⟩
theorem dWatching_at (F : Fd) (D : Df) (r : List AB) (who : Int) (u : ByteArray) (hl : D.pairs.length ≤ 100000) : ACall P 30 (feedM F ++ docB D :: r) [.ptr 17 0, i64 who, str u]
    (fun x m' => x = bool (watD D.pairs who u) ∧ m' = feedM F ++ docB D :: r) := by
  refine doc_pre F D r (doc_Watching D who u hl) rfl rfl ?_
  rintro x m' ⟨rfl, rfl⟩
  exact ⟨D, rfl, rfl, rfl⟩
theorem dCount_at (F : Fd) (D : Df) (r : List AB) (who : Int) (hl : D.pairs.length ≤ 100000) : ACall P 32 (feedM F ++ docB D :: r) [.ptr 17 0, i64 who]
    (fun x m' => x = i64 (cntD D.pairs who : Nat) ∧ m' = feedM F ++ docB D :: r) := by
  refine doc_pre F D r (doc_Count D who hl) rfl rfl ?_
  rintro x m' ⟨rfl, rfl⟩
  exact ⟨D, rfl, rfl, rfl⟩
theorem dWatch_at (F : Fd) (D : Df) (r : List AB) (who : Int) (u : ByteArray) (hl : D.pairs.length ≤ 90000) : ACall P 24 (feedM F ++ docB D :: r) [.ptr 17 0, i64 who, str u]
    (fun x m' => m' = feedM F ++ docB { D with pairs := watchD D.pairs who u } :: r) := by
  refine doc_pre F D r (doc_Watch D who u hl) rfl rfl ?_
  rintro x m' rfl
  exact ⟨_, rfl, rfl⟩
theorem dUnwatch_at (F : Fd) (D : Df) (r : List AB) (who : Int) (u : ByteArray) (hl : D.pairs.length ≤ 90000) : ACall P 26 (feedM F ++ docB D :: r) [.ptr 17 0, i64 who, str u]
    (fun x m' => m' = feedM F ++ docB { D with pairs := unwD D.pairs who u } :: r) := by
  refine doc_pre F D r (doc_Unwatch D who u hl) rfl rfl ?_
  rintro x m' rfl
  exact ⟨_, rfl, rfl⟩
theorem dTell_at (F : Fd) (D : Df) (r : List AB) (l : List Chg) (seq : Int) (hl : D.pairs.length ≤ 90000) (hll : l.length ≤ 40000) (hq : ∀ k, (D.q k).1.length ≤ 40000) : ACall P 27 (feedM F ++ docB D :: r) [.ptr 17 0, .sl 7 (chgs l), u64 seq]
    (fun x m' => m' = feedM F ++ docB (tellD D l seq) :: r) := by
  refine doc_pre F D r (doc_Tell D l seq hl hll hq) (by simp only [renAll, ren, chgs_ren]; rfl) rfl ?_
  rintro x m' rfl
  exact ⟨_, rfl, rfl⟩
theorem dDrain_at (F : Fd) (D : Df) (r : List AB) (who : Int) : ACall P 28 (feedM F ++ docB D :: r) [.ptr 17 0, i64 who]
    (fun x m' => x = .tup [.sl 8 (evts (if cli who = true then (D.q who.toNat).1 else [])), bool (if cli who = true then (D.q who.toNat).2 else false)] ∧ m' = feedM F ++ docB (D.drain who) :: r) := by
  refine doc_pre F D r (doc_Drain D who) rfl rfl ?_
  rintro x m' ⟨rfl, rfl⟩
  exact ⟨_, rfl, by simp only [ren, renAll, evts_ren], rfl⟩

/-! ### AlkF -/
structure AlkF (room : Int) (n : Nat) (F : Fd) (D : Df) : Prop where
  ok : mskOk F.m
  len : F.m.length ≤ n
  plen : D.pairs.length ≤ n
  nd : D.pairs.Nodup
  wat : ∀ who u, watF F.m who u = watD D.pairs who u
  rD : D.room = room
  rF : F.room = max room 0
  q : ∀ k, k < 8 → D.q k = F.q k
  fl : ∀ k, (F.q k).1.length ≤ n
  dl : ∀ k, (D.q k).1.length ≤ n
theorem isP_iff {who : Int} {u : ByteArray} {p : Int × ByteArray} : isP who u p = true ↔ p = (who, u) := by
  rw [isP, Bool.and_eq_true, beq_iff_eq]
  constructor
  · rintro ⟨rfl, h⟩
    have : p.2 = u := (eqS_iff _ _).1 h
    rw [← this]
  · rintro rfl
    exact ⟨rfl, (eqS_iff _ _).2 rfl⟩
theorem watD_iff {l : Prd} {who : Int} {u : ByteArray} : watD l who u = true ↔ (who, u) ∈ l := by
  rw [watD, List.any_eq_true]
  constructor
  · rintro ⟨p, hp, h⟩; rw [isP_iff.1 h] at hp; exact hp
  · intro h; exact ⟨_, h, isP_iff.2 rfl⟩
theorem AlkF.cnt {room : Int} {n : Nat} {F : Fd} {D : Df} (h : AlkF room n F D) (who : Int) : cntM F.m who = cntD D.pairs who := by
  have := cnt_eq h.ok who (L := (D.pairs.filter fun p => p.1 == who).map Prod.snd) ?_ ?_
  · rw [this, List.length_map]; rfl
  · refine List.Pairwise.map (R := fun p q => p ≠ q ∧ p.1 = q.1) _ (fun p q hpq e => hpq.1 (Prod.ext hpq.2 e)) ?_
    refine List.Pairwise.imp_of_mem ?_ (h.nd.filter _)
    intro p q hp hq hne
    have e1 := (List.mem_filter.1 hp).2
    have e2 := (List.mem_filter.1 hq).2
    exact ⟨hne, (beq_iff_eq.1 e1).trans (beq_iff_eq.1 e2).symm⟩
  · intro u
    rw [h.wat, watD_iff, List.mem_map]
    constructor
    · rintro ⟨p, hp, rfl⟩
      obtain ⟨h1, h2⟩ := List.mem_filter.1 hp
      rw [← beq_iff_eq.1 h2]; exact h1
    · intro hm
      exact ⟨_, List.mem_filter.2 ⟨hm, by simp⟩, rfl⟩
theorem AlkF.watch {room : Int} {n : Nat} {F : Fd} {D : Df} (h : AlkF room n F D) (who : Int) (u : ByteArray) : AlkF room (n + 1) { F with m := watchM F.m who u } { D with pairs := watchD D.pairs who u } := by
  refine ⟨watch_ok h.ok who u, Nat.le_trans (watch_len _ _ _) (Nat.succ_le_succ h.len), ?_, ?_, fun who' u' => ?_, h.rD, h.rF, h.q, fun k => Nat.le_succ_of_le (h.fl k), fun k => Nat.le_succ_of_le (h.dl k)⟩
  · have := h.plen
    show (watchD D.pairs who u).length ≤ n + 1
    unfold watchD
    split
    · simp; omega
    · omega
  · show (watchD D.pairs who u).Nodup
    unfold watchD
    split
    · rename_i hc
      simp only [Bool.and_eq_true, Bool.not_eq_true'] at hc
      refine List.nodup_append.2 ⟨h.nd, by simp, ?_⟩
      intro a ha b hb e
      simp at hb
      subst hb
      rw [e] at ha
      rw [watD_iff.2 ha] at hc
      cases hc.2
    · exact h.nd
  · show watF (watchM F.m who u) who' u' = watD (watchD D.pairs who u) who' u'
    rw [wat_watch h.ok, h.wat]
    rw [Bool.eq_iff_iff]
    simp only [Bool.or_eq_true, Bool.and_eq_true, decide_eq_true_eq, watD_iff]
    unfold watchD
    split
    · rename_i hc
      simp only [Bool.and_eq_true, Bool.not_eq_true'] at hc
      simp [hc.1]
    · rename_i hc
      constructor
      · rintro (h1 | ⟨h1, rfl, rfl⟩)
        · exact h1
        · simp only [h1, Bool.true_and, Bool.not_eq_true, Bool.not_eq_false'] at hc
          exact watD_iff.1 hc
      · exact .inl
theorem AlkF.unwatch {room : Int} {n : Nat} {F : Fd} {D : Df} (h : AlkF room n F D) (who : Int) (u : ByteArray) : AlkF room (n + 1) { F with m := unwatchM F.m who u } { D with pairs := unwD D.pairs who u } := by
  refine ⟨unwatch_ok h.ok who u, Nat.le_trans (unwatch_len _ _ _) (Nat.succ_le_succ h.len), Nat.le_succ_of_le (Nat.le_trans (List.length_filter_le _ _) h.plen), h.nd.filter _, fun who' u' => ?_, h.rD, h.rF, h.q, fun k => Nat.le_succ_of_le (h.fl k), fun k => Nat.le_succ_of_le (h.dl k)⟩
  show watF (unwatchM F.m who u) who' u' = watD (unwD D.pairs who u) who' u'
  rw [wat_unwatch h.ok, h.wat, Bool.eq_iff_iff]
  simp only [Bool.and_eq_true, Bool.not_eq_true', watD_iff, unwD, List.mem_filter]
  refine and_congr_right fun _ => ?_
  have := isP_iff (who := who) (u := u) (p := (who', u'))
  rw [← Bool.not_eq_true, ← Bool.not_eq_true, Bool.and_eq_true, decide_eq_true_eq, decide_eq_true_eq, this, Prod.mk.injEq]
theorem AlkF.tell {room : Int} {n : Nat} {F : Fd} {D : Df} (h : AlkF room n F D) (c : Chg) (seq : Int) : AlkF room (n + 1) (tellF F [c] seq) (tellD D [c] seq) := by
  obtain ⟨a1, a2, a3⟩ := tellF_ok F [c] seq
  obtain ⟨b1, b2, b3⟩ := tellD_ok D [c] seq
  refine ⟨by rw [a1]; exact h.ok, by rw [a1]; exact Nat.le_succ_of_le h.len, by rw [b1]; exact Nat.le_succ_of_le h.plen, by rw [b1]; exact h.nd, fun who u => by rw [a1, b1]; exact h.wat who u, b2.trans h.rD, a2.trans h.rF, fun k hk => ?_, fun k => Nat.le_trans (a3 k) (Nat.succ_le_succ (h.fl k)), fun k => Nat.le_trans (b3 k) (Nat.succ_le_succ (h.dl k))⟩
  show (tell1D D c seq 8).q k = (tell1 F c seq 8).q k
  rw [tell1_q F c seq hk, h.wat]
  simp only [tell1D, hk, decide_true, Bool.true_and]
  rw [h.q k hk]
  split
  · unfold putR
    rw [h.rD, h.rF]
    have : (room ≤ ((F.q k).1.length : Int)) ↔ (max room 0 ≤ ((F.q k).1.length : Int)) := by omega
    by_cases hc : room ≤ ((F.q k).1.length : Int)
    · rw [if_pos hc, if_pos (this.1 hc)]
    · rw [if_neg hc, if_neg (fun h => hc (this.2 h))]
  · rfl
theorem AlkF.drain {room : Int} {n : Nat} {F : Fd} {D : Df} (h : AlkF room n F D) (who : Int) : AlkF room (n + 1) (F.drain who) (D.drain who) ∧ (if cli who = true then (D.q who.toNat).1 else []) = drainL F who ∧ (if cli who = true then (D.q who.toNat).2 else false) = drainB F who := by
  unfold Fd.drain Df.drain drainL drainB
  cases hc : cli who
  · simp only [Bool.false_eq_true, if_false, and_self, and_true]
    exact ⟨h.ok, Nat.le_succ_of_le h.len, Nat.le_succ_of_le h.plen, h.nd, h.wat, h.rD, h.rF, h.q, fun k => Nat.le_succ_of_le (h.fl k), fun k => Nat.le_succ_of_le (h.dl k)⟩
  · obtain ⟨k, hk, rfl⟩ := cli_iff hc
    simp only [if_true, Int.toNat_natCast, h.q k hk, and_self, and_true]
    refine ⟨h.ok, Nat.le_succ_of_le h.len, Nat.le_succ_of_le h.plen, h.nd, h.wat, h.rD, h.rF, fun j hj => ?_, fun j => ?_, fun j => ?_⟩
    · simp only [Df.setQ, Fd.setQ]
      split
      · rfl
      · exact h.q j hj
    · simp only [Fd.setQ]
      split
      · exact Nat.zero_le _
      · exact Nat.le_succ_of_le (h.fl j)
    · simp only [Df.setQ]
      split
      · exact Nat.zero_le _
      · exact Nat.le_succ_of_le (h.dl j)

theorem weakM_app : ∀ (a : List AB) {x y : List AB}, weakM x y → weakM (a ++ x) (a ++ y)
  | [], _, _, h => h
  | b :: a, _, _, h => ⟨b, _, rfl, weakB_refl b, weakM_app a h⟩
abbrev nlV : AV := .v (.slice none 0 0)
set_option maxHeartbeats 2000000 in
theorem law_plays (room : Int) (l : List ActP) (who : Int) (user : ByteArray) (hl : l.length ≤ 9223372036854775807) (hd : ∀ a ∈ l, a.d ≤ 255) :
    PCall P 6 [i64 room, .sl 5 (acps l), i64 who, str user] (fun x => x = .v (.bool true)) := by
  obtain ⟨b, hb, hlong⟩ := law09_long l hl
  refine pcall_go tyOk Try.func6 rfl rfl ?_
  intro K hK
  simp only [Try.ntmps6, List.length_cons, List.length_nil, Nat.reduceAdd, Nat.reduceSub, List.replicate, List.cons_append, List.nil_append]
  try simp (maxSteps := 1000000) only [go_region, go_seq, go_ops_nil, go_op, opK_none, opK_some, contK_some, callOf, callK_eq, callJ_nil, callD_fn, fstep, fpre, fstep0, evs, St.ev, St.put, ownersAll, List.set, List.append_nil, true_and, Bool.true_and]
  (refine callG_use law09_awake rfl ?_; rintro _ rfl)
  try simp (maxSteps := 1000000) only [go_op, go_guard, opK_none, opK_some, contK_some, guardK_eq, guardV_ff, callOf, callK_eq, callJ_nil, callD_fn, fstep, fpre, fstep0, funary, evs, St.ev, St.put, AV.owners, ownersAll, List.getD_cons_zero, List.getD_cons_succ, List.set, List.append_nil, List.getElem?_cons_zero, List.getElem?_cons_succ, Option.bind_some, List.getElem?_toArray, true_and, Bool.true_and, Bool.not_true]
  (refine callG_use hb rfl ?_; rintro _ rfl)
  try simp (maxSteps := 1000000) only [go_op, go_guard, opK_none, contK_some, guardK_eq, callOf, fstep, fpre, fstep0, fpick, St.ev, St.put, List.getD_cons_zero, List.getD_cons_succ, List.set, List.getElem?_cons_zero, List.getElem?_cons_succ, Option.bind_some, List.getElem?_toArray, true_and, Bool.true_and, cond_false]
  cases b
  · obtain ⟨hll, _⟩ := hlong rfl
    try simp (maxSteps := 1000000) only [go_cond, go_ops_nil, go_op, go_guard, opK_none, contK_some, guardK_eq, guardV_ff, callOf, fstep, fpre, fstep0, fbinA, fbin, fbin0, flen, fpick, T, St.ev, St.put, List.getD_cons_zero, List.getD_cons_succ, List.set, List.getElem?_cons_zero, List.getElem?_cons_succ, Option.bind_some, List.getElem?_toArray, true_and, Bool.true_and, cond_false]
    (first | refine guardV_split ?_ ?_ | refine condK_split ?_ ?_ | refine drawV_split ?_ ?_ | refine condY_split ?_ ?_ | refine guardY_split ?_ ?_) <;> intro hu
    · try simp (maxSteps := 1000000) only [go_region, go_seq, go_op, opK_some, condK_t, callOf, callK_eq, callJ_nil, callD_fn, evs, St.ev, ownersAll, List.append_nil]
      (refine callG_use law09_awake rfl ?_; rintro _ rfl)
      try simp (maxSteps := 1000000) only [go_ret, go_ops_nil, go_op, opK_none, contK_some, callOf, fstep, fpre, fstep0, St.ev, St.put, List.getD_cons_zero, List.getD_cons_succ, List.set, true_and, Bool.true_and]
      apply hK
      simp only [Try.results6, retK, ares, List.take_nil, Bool.and_true, Bool.true_and, AV.ofResults, St.trunc, truncVs, truncV, List.getD_cons_zero, List.getD_cons_succ, List.map_nil, true_and, and_true, List.cons.injEq, exists_eq_left']
    · try simp (maxSteps := 1000000) only [go_skip, go_region, go_seq, go_op, opK_none, opK_some, contK_some, condK_f, callOf, callK_eq, callJ_nil, callD_fn, fstep, fpre, fstep0, evs, St.ev, St.put, AV.owners, ownersAll, List.getD_cons_zero, List.getD_cons_succ, List.set, List.append_nil, true_and, Bool.true_and]
      refine callG_A (Sym.ACall.mono (feed_New room) ?_)
      rintro _ _ ⟨rfl, rfl⟩
      try simp (maxSteps := 1000000) only [go_region, go_seq, go_block, go_loop, go_ops_nil, go_op, opK_none, contK_some, callOf, fstep, fpre, fstep0, ffill, fieldPlaces, fieldsOk, fbuild, evParts, T, St.ev, St.put, splice, AV.cells, AV.known, Value.cells, List.getD_cons_zero, List.getD_cons_succ, List.set, List.map_cons, List.map_nil, List.length_cons, List.length_nil, List.drop_succ_cons, List.drop_zero, List.take_zero, List.cons_append, List.nil_append, List.getElem?_cons_zero, Option.isSome_some, List.getElem?_toArray, true_and, and_true, Bool.and_true, Bool.true_and, Bool.and_self, Nat.reduceAdd, Nat.reduceLeDiff, Nat.zero_add, fm_len]
      refine loopK_ruleT tyOk (α := Nat × Fd × Df) 18 [0, 1, 2, 3, 9, 10, 11] (fun s => s.1 ≤ l.length ∧ AlkF room s.1 s.2.1 s.2.2)
        (fun s => ⟨[i64 room, .sl 5 (acps l), i64 who, str user, .any, .any, .any, .any, .any, .ptr 0 0, .ptr 17 0, i64 s.1, .any, .any, .any, .any, .any, .any, .any, .any, .any, .any, .any, .any, .any, .any, .any, .any, .any, .any, .any, .any, .any, .any, .any, .any, .any, .any, .any, .any, .any, .any, .any, .any, .any, .any, .any, .any, .any, .any, .any, .any, .any, .any, .any, .any, .any, .any, .any, .any, .any, .any, .any, .any, .any, .any, .any, .any, .any, .any, .any, .any, .any, .any, .any, .any, .any, .any, .any, .any, .any, .any, .any, .any, .any, .any, .any, .any, .any, .any, .any, .any, .any, .any, .any, .any, .any, .any, .any, .any, .any, .any, .any, .any, .any, .any, .any, .any, .any, .any, .any, .any, .any, .any, .any, .any, .any, .any, .any, .any, .any, .any, .any, .any, .any, .any, .any, .any, .any, .any, .any, .any, .any, .any, .any, .any, .any, .any, .any, .any], feedM s.2.1 ++ [docB s.2.2]⟩)
        (fun s => l.length - s.1) (0, ⟨[], max room 0, fun _ => ([], false)⟩, ⟨room, [], fun _ => ([], false)⟩) (by simp) ⟨Nat.zero_le _, ?_⟩ ?_ ?_
      · exact ⟨msk_nil, Nat.le_refl _, Nat.le_refl _, List.nodup_nil, fun w u => by rw [wat_nil]; rfl, rfl, rfl, fun k hk => rfl, fun k => Nat.le_refl _, fun k => Nat.le_refl _⟩
      · refine Turns.weak (weaks_refl _) ?_
        show weakM (feedM ⟨[], max room 0, fun _ => ([], false)⟩ ++ [.box [i64 room, nlV, nlV, nlV, nlV, nlV, nlV, nlV, nlV, nlV, bool false, bool false, bool false, bool false, bool false, bool false, bool false, bool false]]) (feedM ⟨[], max room 0, fun _ => ([], false)⟩ ++ [docB ⟨room, [], fun _ => ([], false)⟩])
        exact weakM_app _ ⟨_, _, rfl, ⟨_, rfl, _, _, rfl, weak_refl _, _, _, rfl, weak_nil 2, _, _, rfl, weak_nil 8, _, _, rfl, weak_nil 8, _, _, rfl, weak_nil 8, _, _, rfl, weak_nil 8, _, _, rfl, weak_nil 8, _, _, rfl, weak_nil 8, _, _, rfl, weak_nil 8, _, _, rfl, weak_nil 8, weaks_refl _⟩, rfl⟩
      rintro ⟨i, F, D⟩ ⟨hi, hA⟩
      simp only at hi hA
      try simp (maxSteps := 1000000) only [go_region, go_seq, go_cond, go_ops_nil, go_op, opK_none, contK_some, callOf, fstep, fpre, fstep0, fbinA, fbin, fbin0, flen, T, St.ev, St.put, List.getD_cons_zero, List.getD_cons_succ, List.set, true_and, Bool.true_and, acps_len]
      (first | refine guardV_split ?_ ?_ | refine condK_split ?_ ?_ | refine drawV_split ?_ ?_ | refine condY_split ?_ ?_ | refine guardY_split ?_ ?_) <;> intro hf
      · have hlt : i < l.length := by simpa using hf
        have eg := acps_get hlt
        have ew : IntKind.i64.wrap ((i : Int) + 1) = ((i + 1 : Nat) : Int) := by rw [wrap_i64 (by omega) (by omega)]; rfl
        have b1 : (0 : Int) ≤ (i : Int) ∧ Int.toNat (i : Int) < l.length := by omega
        have hdd := hd _ (List.getElem_mem hlt)
        generalize l[i] = a at *
        have em : Int.tmod (a.d : Int) 4 = ((a.d % 4 : Nat) : Int) := rfl
        try simp (maxSteps := 1000000) only [go_skip, go_region, go_seq, go_cond, go_block, go_ops_nil, go_op, opK_none, contK_some, condK_t, callOf, fstep, fpre, fstep0, fbinA, fbin, fbin0, fload, fcell, fstore, ffieldAddr, findexAddr, T, TI.isAgg, St.ev, St.put, splice, AV.cells, AV.known, AV.flat, Value.oneCell', List.getD_cons_zero, List.getD_cons_succ, List.set, List.map_cons, List.map_nil, List.length_cons, List.length_nil, List.all_cons, List.all_nil, List.drop_succ_cons, List.drop_zero, List.take_succ_cons, List.take_zero, List.headD_cons, List.cons_append, List.nil_append, List.append_nil, List.getElem?_cons_zero, List.getElem?_cons_succ, List.getElem?_toArray, true_and, and_true, Bool.and_true, Bool.true_and, Bool.and_self, Bool.false_eq_true, ↓reduceIte, reduceCtorEq, ne_eq, not_false_eq_true, Nat.reduceAdd, Nat.reduceLT, Nat.le_refl, Nat.add_zero, Nat.zero_add, Int.reduceEq, List.length_append, fm_18, fm_s18, fm_len, fm_add, eg, b1, acps_len, em]
        have hFl := hA.len
        have hDl := hA.plen
        have hcases : a.d % 4 = 0 ∨ a.d % 4 = 1 ∨ a.d % 4 = 2 ∨ a.d % 4 = 3 := by omega
        rcases hcases with hm | hm | hm | hm
        · have q0 : (((a.d % 4 : Nat) : Int) == 0) = true := by rw [hm]; rfl
          try simp (maxSteps := 1000000) only [go_region, go_seq, go_op, opK_none, opK_some, contK_some, condK_t, callOf, callK_eq, callJ_nil, callD_fn, fstep, fpre, fstep0, fload, fcell, ffieldAddr, evs, T, TI.isAgg, St.ev, St.put, AV.owners, ownersAll, List.getD_cons_zero, List.getD_cons_succ, List.set, List.length_cons, List.length_nil, List.drop_succ_cons, List.drop_zero, List.headD_cons, List.append_nil, List.getElem?_cons_zero, List.getElem?_cons_succ, List.getElem?_toArray, true_and, Bool.true_and, Bool.false_eq_true, ↓reduceIte, reduceCtorEq, ne_eq, not_false_eq_true, Nat.reduceAdd, Nat.reduceLT, Nat.zero_add, fm_18, q0]
          refine callG_A (Sym.ACall.mono (Watch_at F [docB D, .box [.v (.int .u8 a.d), i64 a.who, str a.u, i64 a.live, u64 a.seq]] a.who a.u hA.ok.1 (by omega)) ?_)
          rintro _ _ rfl
          try simp (maxSteps := 1000000) only [go_region, go_ops_nil, go_op, opK_none, opK_some, contK_some, callOf, callK_eq, callJ_nil, callD_fn, fstep, fpre, fstep0, fload, fcell, ffieldAddr, evs, T, TI.isAgg, St.ev, St.put, AV.owners, ownersAll, List.getD_cons_zero, List.getD_cons_succ, List.set, List.length_cons, List.length_nil, List.drop_succ_cons, List.drop_zero, List.headD_cons, List.append_nil, List.getElem?_cons_zero, List.getElem?_cons_succ, List.getElem?_toArray, true_and, Bool.true_and, Bool.false_eq_true, ↓reduceIte, reduceCtorEq, ne_eq, not_false_eq_true, Nat.reduceAdd, Nat.reduceLT, Nat.zero_add, fm_18]
          refine callG_A (Sym.ACall.mono (dWatch_at { F with m := watchM F.m a.who a.u } D [.box [.v (.int .u8 a.d), i64 a.who, str a.u, i64 a.live, u64 a.seq]] a.who a.u (by omega)) ?_)
          rintro _ _ rfl
          have hA' := hA.watch a.who a.u
          generalize ({ F with m := watchM F.m a.who a.u } : Fd) = F' at *
          generalize ({ D with pairs := watchD D.pairs a.who a.u } : Df) = D' at *
          have hWa := fun r => Watching_at F' (docB D' :: r) who user hA'.ok.1 (by have := hA'.len; omega)
          have hWd := fun r => dWatching_at F' D' r who user (by have := hA'.plen; omega)
          have hCa := fun r => Count_at F' (docB D' :: r) who (by have := hA'.len; omega)
          have hCd := fun r => dCount_at F' D' r who (by have := hA'.plen; omega)
          simp only [hA'.wat] at hWa
          simp only [hA'.cnt] at hCa
          try simp (maxSteps := 1000000) only [go_region, go_seq, go_blk, go_ops_nil, go_op, opK_none, opK_some, contK_some, callOf, callK_eq, callJ_nil, callD_fn, fstep, fpre, fstep0, evs, St.ev, St.put, AV.owners, ownersAll, List.getD_cons_zero, List.getD_cons_succ, List.set, List.append_nil, true_and, Bool.true_and]
          refine callG_A (Sym.ACall.mono (hWa _) ?_)
          rintro _ _ ⟨rfl, rfl⟩
          try simp (maxSteps := 1000000) only [go_op, opK_none, opK_some, contK_some, callOf, callK_eq, callJ_nil, callD_fn, fstep, fpre, fstep0, evs, St.ev, St.put, AV.owners, ownersAll, List.getD_cons_zero, List.getD_cons_succ, List.set, List.append_nil, true_and, Bool.true_and]
          refine callG_A (Sym.ACall.mono (hWd _) ?_)
          rintro _ _ ⟨rfl, rfl⟩
          try simp (maxSteps := 1000000) only [go_op, go_guard, opK_none, opK_some, contK_some, guardK_eq, guardV_ff, callOf, callK_eq, callJ_nil, callD_fn, fstep, fpre, fstep0, fbinA, fbin, fbin0, evs, isBoolTy, T, St.ev, St.put, AV.owners, ownersAll, List.getD_cons_zero, List.getD_cons_succ, List.set, List.append_nil, List.getElem?_cons_zero, List.getElem?_cons_succ, Option.bind_some, List.getElem?_toArray, true_and, Bool.true_and, bne_self_eq_false]
          refine callG_A (Sym.ACall.mono (hCa _) ?_)
          rintro _ _ ⟨rfl, rfl⟩
          try simp (maxSteps := 1000000) only [go_guard, opK_none, opK_some, contK_some, guardK_eq, guardV_ff, callOf, callK_eq, callJ_nil, callD_fn, fstep, fpre, fstep0, evs, St.ev, St.put, AV.owners, ownersAll, List.getD_cons_zero, List.getD_cons_succ, List.set, List.append_nil, List.getElem?_cons_zero, List.getElem?_cons_succ, Option.bind_some, List.getElem?_toArray, true_and, Bool.true_and]
          refine callG_A (Sym.ACall.mono (hCd _) ?_)
          rintro _ _ ⟨rfl, rfl⟩
          try simp (maxSteps := 1000000) only [go_nil, go_skip, go_region, go_cond, go_blk, go_ops_nil, go_op, go_guard, opK_none, contK_some, condK_f, guardK_eq, guardV_ff, callOf, fstep, fpre, fstep0, fbinA, fbin, fbin0, fpick, St.ev, St.put, List.getD_cons_zero, List.getD_cons_succ, List.set, List.getElem?_cons_zero, List.getElem?_cons_succ, Option.bind_some, List.getElem?_toArray, true_and, Bool.true_and, cond_false, bne_self_eq_false, ew]
          simp only [loopT_normal, St.trunc, St.keep, truncVs, truncV, keepV, List.drop_zero, List.elem_cons, List.elem_nil, Nat.reduceAdd, Nat.reduceBEq, Nat.reduceLeDiff, Nat.le_refl, Nat.zero_add, Bool.false_eq_true, ↓reduceIte]
          exact ⟨(i + 1, F', D'), ⟨hlt, hA'⟩, by simp only; omega, Turns.of_eq rfl⟩
        · have q0 : (((a.d % 4 : Nat) : Int) == 0) = false := by rw [hm]; rfl
          have q1 : (((a.d % 4 : Nat) : Int) == 1) = true := by rw [hm]; rfl
          try simp (maxSteps := 1000000) only [go_region, go_seq, go_cond, go_ops_nil, go_op, opK_none, opK_some, contK_some, condK_t, condK_f, callOf, callK_eq, callJ_nil, callD_fn, fstep, fpre, fstep0, fbinA, fbin, fbin0, fload, fcell, ffieldAddr, evs, T, TI.isAgg, St.ev, St.put, AV.owners, ownersAll, List.getD_cons_zero, List.getD_cons_succ, List.set, List.length_cons, List.length_nil, List.drop_succ_cons, List.drop_zero, List.headD_cons, List.append_nil, List.getElem?_cons_zero, List.getElem?_cons_succ, List.getElem?_toArray, true_and, Bool.true_and, Bool.false_eq_true, ↓reduceIte, reduceCtorEq, ne_eq, not_false_eq_true, Nat.reduceAdd, Nat.reduceLT, Nat.zero_add, fm_18, q0, q1]
          refine callG_A (Sym.ACall.mono (Unwatch_at F [docB D, .box [.v (.int .u8 a.d), i64 a.who, str a.u, i64 a.live, u64 a.seq]] a.who a.u hA.ok.1 (by omega)) ?_)
          rintro _ _ rfl
          try simp (maxSteps := 1000000) only [go_region, go_ops_nil, go_op, opK_none, opK_some, contK_some, callOf, callK_eq, callJ_nil, callD_fn, fstep, fpre, fstep0, fload, fcell, ffieldAddr, evs, T, TI.isAgg, St.ev, St.put, AV.owners, ownersAll, List.getD_cons_zero, List.getD_cons_succ, List.set, List.length_cons, List.length_nil, List.drop_succ_cons, List.drop_zero, List.headD_cons, List.append_nil, List.getElem?_cons_zero, List.getElem?_cons_succ, List.getElem?_toArray, true_and, Bool.true_and, Bool.false_eq_true, ↓reduceIte, reduceCtorEq, ne_eq, not_false_eq_true, Nat.reduceAdd, Nat.reduceLT, Nat.zero_add, fm_18]
          refine callG_A (Sym.ACall.mono (dUnwatch_at { F with m := unwatchM F.m a.who a.u } D [.box [.v (.int .u8 a.d), i64 a.who, str a.u, i64 a.live, u64 a.seq]] a.who a.u (by omega)) ?_)
          rintro _ _ rfl
          have hA' := hA.unwatch a.who a.u
          generalize ({ F with m := unwatchM F.m a.who a.u } : Fd) = F' at *
          generalize ({ D with pairs := unwD D.pairs a.who a.u } : Df) = D' at *
          have hWa := fun r => Watching_at F' (docB D' :: r) who user hA'.ok.1 (by have := hA'.len; omega)
          have hWd := fun r => dWatching_at F' D' r who user (by have := hA'.plen; omega)
          have hCa := fun r => Count_at F' (docB D' :: r) who (by have := hA'.len; omega)
          have hCd := fun r => dCount_at F' D' r who (by have := hA'.plen; omega)
          simp only [hA'.wat] at hWa
          simp only [hA'.cnt] at hCa
          try simp (maxSteps := 1000000) only [go_region, go_seq, go_blk, go_ops_nil, go_op, opK_none, opK_some, contK_some, callOf, callK_eq, callJ_nil, callD_fn, fstep, fpre, fstep0, evs, St.ev, St.put, AV.owners, ownersAll, List.getD_cons_zero, List.getD_cons_succ, List.set, List.append_nil, true_and, Bool.true_and]
          refine callG_A (Sym.ACall.mono (hWa _) ?_)
          rintro _ _ ⟨rfl, rfl⟩
          try simp (maxSteps := 1000000) only [go_op, opK_none, opK_some, contK_some, callOf, callK_eq, callJ_nil, callD_fn, fstep, fpre, fstep0, evs, St.ev, St.put, AV.owners, ownersAll, List.getD_cons_zero, List.getD_cons_succ, List.set, List.append_nil, true_and, Bool.true_and]
          refine callG_A (Sym.ACall.mono (hWd _) ?_)
          rintro _ _ ⟨rfl, rfl⟩
          try simp (maxSteps := 1000000) only [go_op, go_guard, opK_none, opK_some, contK_some, guardK_eq, guardV_ff, callOf, callK_eq, callJ_nil, callD_fn, fstep, fpre, fstep0, fbinA, fbin, fbin0, evs, isBoolTy, T, St.ev, St.put, AV.owners, ownersAll, List.getD_cons_zero, List.getD_cons_succ, List.set, List.append_nil, List.getElem?_cons_zero, List.getElem?_cons_succ, Option.bind_some, List.getElem?_toArray, true_and, Bool.true_and, bne_self_eq_false]
          refine callG_A (Sym.ACall.mono (hCa _) ?_)
          rintro _ _ ⟨rfl, rfl⟩
          try simp (maxSteps := 1000000) only [go_guard, opK_none, opK_some, contK_some, guardK_eq, guardV_ff, callOf, callK_eq, callJ_nil, callD_fn, fstep, fpre, fstep0, evs, St.ev, St.put, AV.owners, ownersAll, List.getD_cons_zero, List.getD_cons_succ, List.set, List.append_nil, List.getElem?_cons_zero, List.getElem?_cons_succ, Option.bind_some, List.getElem?_toArray, true_and, Bool.true_and]
          refine callG_A (Sym.ACall.mono (hCd _) ?_)
          rintro _ _ ⟨rfl, rfl⟩
          try simp (maxSteps := 1000000) only [go_nil, go_skip, go_region, go_cond, go_blk, go_ops_nil, go_op, go_guard, opK_none, contK_some, condK_f, guardK_eq, guardV_ff, callOf, fstep, fpre, fstep0, fbinA, fbin, fbin0, fpick, St.ev, St.put, List.getD_cons_zero, List.getD_cons_succ, List.set, List.getElem?_cons_zero, List.getElem?_cons_succ, Option.bind_some, List.getElem?_toArray, true_and, Bool.true_and, cond_false, bne_self_eq_false, ew]
          simp only [loopT_normal, St.trunc, St.keep, truncVs, truncV, keepV, List.drop_zero, List.elem_cons, List.elem_nil, Nat.reduceAdd, Nat.reduceBEq, Nat.reduceLeDiff, Nat.le_refl, Nat.zero_add, Bool.false_eq_true, ↓reduceIte]
          exact ⟨(i + 1, F', D'), ⟨hlt, hA'⟩, by simp only; omega, Turns.of_eq rfl⟩
        · have q0 : (((a.d % 4 : Nat) : Int) == 0) = false := by rw [hm]; rfl
          have q1 : (((a.d % 4 : Nat) : Int) == 1) = false := by rw [hm]; rfl
          have q2 : (((a.d % 4 : Nat) : Int) == 2) = true := by rw [hm]; rfl
          try simp (maxSteps := 1000000) only [go_region, go_seq, go_cond, go_ops_nil, go_op, opK_none, opK_some, contK_some, condK_t, condK_f, callOf, callK_eq, callJ_cons, fstep, fpre, fstep0, fbinA, fbin, fbin0, fload, fcell, ffieldAddr, ffill, fieldPlaces, fieldsOk, fbuild, evParts, evOwners, fbuildSlice, evs, T, TI.isAgg, TI.zeroOk, TI.zav, setParts, partsOk, St.ev, St.put, St.shutAll, splice, AV.cells, AV.known, AV.flat, AV.pure, pureAll, AV.owners, ownersAll, Value.cells, Value.oneCell', List.getD_cons_zero, List.getD_cons_succ, List.set, List.map_cons, List.map_nil, List.length_cons, List.length_nil, List.all_cons, List.all_nil, List.drop_succ_cons, List.drop_zero, List.take_succ_cons, List.take_zero, List.headD_cons, List.cons_append, List.nil_append, List.append_nil, List.getElem?_cons_zero, List.getElem?_cons_succ, List.replicate, Option.isSome_some, List.getElem?_toArray, true_and, and_true, Bool.and_true, Bool.true_and, Bool.and_self, Bool.or_false, Bool.false_eq_true, ↓reduceIte, decide_true, decide_false, reduceCtorEq, ne_eq, not_false_eq_true, Nat.reduceAdd, Nat.reduceMul, Nat.reduceLeDiff, Nat.reduceEqDiff, Nat.reduceLT, Nat.zero_le, Nat.le_refl, Nat.zero_add, List.length_append, fm_18, fm_len, fm_add, q0, q1, q2]
          refine callO_shut ?_
          try simp (maxSteps := 1000000) only [callH_fn, evs, St.ev, St.shutAll, St.shut, shutV, shutVs, AB.shut, List.getD_cons_zero, List.getD_cons_succ, List.set, List.map_cons, List.map_nil, List.length_cons, List.length_nil, List.all_cons, List.all_nil, List.drop_zero, List.take_succ_cons, List.take_zero, List.append_nil, List.getElem?_cons_zero, List.getElem?_cons_succ, true_and, and_true, Bool.and_true, Bool.true_and, Bool.and_self, ↓reduceIte, decide_true, reduceCtorEq, Nat.reduceLeDiff, Nat.reduceEqDiff, Nat.zero_le, Nat.le_refl, Nat.zero_add, fm_19, fm_s19, fm_shut]
          have hT := Tell_at F [docB D, .box [.v (.int .u8 a.d), i64 a.who, str a.u, i64 a.live, u64 a.seq], .gone] [⟨a.u, ⟨0, 0, 0⟩, ⟨0, 0, a.live⟩⟩] a.seq hA.ok.1 (by omega) (by simp) (fun k => by have := hA.fl k; omega) rfl
          refine callG_X (kp := kpF) (fun b hb => absurd hb (Nat.not_lt_zero b)) (Sym.ACallX.mono hT ?_)
          rintro _ _ rfl
          try simp (maxSteps := 1000000) only [go_region, go_ops_nil, go_op, opK_none, opK_some, contK_some, callOf, callK_eq, callJ_cons, fstep, fpre, fstep0, fload, fcell, ffieldAddr, ffill, fieldPlaces, fieldsOk, fbuild, evParts, evOwners, fbuildSlice, evs, T, TI.isAgg, TI.zeroOk, TI.zav, setParts, partsOk, St.ev, St.put, St.shutAll, splice, AV.cells, AV.known, AV.flat, AV.pure, pureAll, AV.owners, ownersAll, Value.cells, Value.oneCell', cutVs, cutV, bks, bksAll, List.getD_cons_zero, List.getD_cons_succ, List.set, List.map_cons, List.map_nil, List.length_cons, List.length_nil, List.all_cons, List.all_nil, List.drop_succ_cons, List.drop_zero, List.take_succ_cons, List.take_zero, List.headD_cons, List.cons_append, List.nil_append, List.append_nil, List.getElem?_cons_zero, List.getElem?_cons_succ, List.replicate, Option.isSome_some, List.getElem?_toArray, true_and, and_true, Bool.and_true, Bool.true_and, Bool.and_self, Bool.or_true, Bool.or_false, Bool.false_eq_true, ↓reduceIte, decide_true, decide_false, reduceCtorEq, ne_eq, not_false_eq_true, Nat.reduceAdd, Nat.reduceMul, Nat.reduceLeDiff, Nat.reduceEqDiff, Nat.reduceLT, Nat.zero_le, Nat.le_refl, Nat.zero_add, List.length_append, fm_18, fm_len, fm_add, kpF]
          refine callO_shut ?_
          try simp (maxSteps := 1000000) only [callH_fn, evs, St.ev, St.shutAll, St.shut, shutV, shutVs, AB.shut, List.getD_cons_zero, List.getD_cons_succ, List.set, List.map_cons, List.map_nil, List.length_cons, List.length_nil, List.all_cons, List.all_nil, List.drop_zero, List.take_succ_cons, List.take_zero, List.append_nil, List.getElem?_cons_zero, List.getElem?_cons_succ, true_and, and_true, Bool.and_true, Bool.true_and, Bool.and_self, ↓reduceIte, decide_true, reduceCtorEq, Nat.reduceLeDiff, Nat.reduceEqDiff, Nat.zero_le, Nat.le_refl, Nat.zero_add, fm_20, fm_s20, fm_shut]
          refine callG_A (Sym.ACall.mono (dTell_at (tellF F [⟨a.u, ⟨0, 0, 0⟩, ⟨0, 0, a.live⟩⟩] a.seq) D [.box [.v (.int .u8 a.d), i64 a.who, str a.u, i64 a.live, u64 a.seq], .gone, .gone] [⟨a.u, ⟨0, 0, 0⟩, ⟨0, 0, a.live⟩⟩] a.seq (by omega) (by simp) (fun k => by have := hA.dl k; omega)) ?_)
          rintro _ _ rfl
          have hA' := hA.tell ⟨a.u, ⟨0, 0, 0⟩, ⟨0, 0, a.live⟩⟩ a.seq
          generalize tellF F [⟨a.u, ⟨0, 0, 0⟩, ⟨0, 0, a.live⟩⟩] a.seq = F' at *
          generalize tellD D [⟨a.u, ⟨0, 0, 0⟩, ⟨0, 0, a.live⟩⟩] a.seq = D' at *
          have hWa := fun r => Watching_at F' (docB D' :: r) who user hA'.ok.1 (by have := hA'.len; omega)
          have hWd := fun r => dWatching_at F' D' r who user (by have := hA'.plen; omega)
          have hCa := fun r => Count_at F' (docB D' :: r) who (by have := hA'.len; omega)
          have hCd := fun r => dCount_at F' D' r who (by have := hA'.plen; omega)
          simp only [hA'.wat] at hWa
          simp only [hA'.cnt] at hCa
          try simp (maxSteps := 1000000) only [go_region, go_seq, go_blk, go_ops_nil, go_op, opK_none, opK_some, contK_some, callOf, callK_eq, callJ_nil, callD_fn, fstep, fpre, fstep0, evs, St.ev, St.put, AV.owners, ownersAll, List.getD_cons_zero, List.getD_cons_succ, List.set, List.append_nil, true_and, Bool.true_and]
          refine callG_A (Sym.ACall.mono (hWa _) ?_)
          rintro _ _ ⟨rfl, rfl⟩
          try simp (maxSteps := 1000000) only [go_op, opK_none, opK_some, contK_some, callOf, callK_eq, callJ_nil, callD_fn, fstep, fpre, fstep0, evs, St.ev, St.put, AV.owners, ownersAll, List.getD_cons_zero, List.getD_cons_succ, List.set, List.append_nil, true_and, Bool.true_and]
          refine callG_A (Sym.ACall.mono (hWd _) ?_)
          rintro _ _ ⟨rfl, rfl⟩
          try simp (maxSteps := 1000000) only [go_op, go_guard, opK_none, opK_some, contK_some, guardK_eq, guardV_ff, callOf, callK_eq, callJ_nil, callD_fn, fstep, fpre, fstep0, fbinA, fbin, fbin0, evs, isBoolTy, T, St.ev, St.put, AV.owners, ownersAll, List.getD_cons_zero, List.getD_cons_succ, List.set, List.append_nil, List.getElem?_cons_zero, List.getElem?_cons_succ, Option.bind_some, List.getElem?_toArray, true_and, Bool.true_and, bne_self_eq_false]
          refine callG_A (Sym.ACall.mono (hCa _) ?_)
          rintro _ _ ⟨rfl, rfl⟩
          try simp (maxSteps := 1000000) only [go_guard, opK_none, opK_some, contK_some, guardK_eq, guardV_ff, callOf, callK_eq, callJ_nil, callD_fn, fstep, fpre, fstep0, evs, St.ev, St.put, AV.owners, ownersAll, List.getD_cons_zero, List.getD_cons_succ, List.set, List.append_nil, List.getElem?_cons_zero, List.getElem?_cons_succ, Option.bind_some, List.getElem?_toArray, true_and, Bool.true_and]
          refine callG_A (Sym.ACall.mono (hCd _) ?_)
          rintro _ _ ⟨rfl, rfl⟩
          try simp (maxSteps := 1000000) only [go_nil, go_skip, go_region, go_cond, go_blk, go_ops_nil, go_op, go_guard, opK_none, contK_some, condK_f, guardK_eq, guardV_ff, callOf, fstep, fpre, fstep0, fbinA, fbin, fbin0, fpick, St.ev, St.put, List.getD_cons_zero, List.getD_cons_succ, List.set, List.getElem?_cons_zero, List.getElem?_cons_succ, Option.bind_some, List.getElem?_toArray, true_and, Bool.true_and, cond_false, bne_self_eq_false, ew]
          simp only [loopT_normal, St.trunc, St.keep, truncVs, truncV, keepV, List.drop_zero, List.elem_cons, List.elem_nil, Nat.reduceAdd, Nat.reduceBEq, Nat.reduceLeDiff, Nat.le_refl, Nat.zero_add, Bool.false_eq_true, ↓reduceIte]
          exact ⟨(i + 1, F', D'), ⟨hlt, hA'⟩, by simp only; omega, Turns.of_eq rfl⟩
        · have q0 : (((a.d % 4 : Nat) : Int) == 0) = false := by rw [hm]; rfl
          have q1 : (((a.d % 4 : Nat) : Int) == 1) = false := by rw [hm]; rfl
          have q2 : (((a.d % 4 : Nat) : Int) == 2) = false := by rw [hm]; rfl
          have hD := Drain_at F [docB D, .box [.v (.int .u8 a.d), i64 a.who, str a.u, i64 a.live, u64 a.seq]] a.who (fun k => by have := hA.fl k; omega) rfl
          obtain ⟨hA', hdL, hdB⟩ := hA.drain a.who
          have hDd := dDrain_at (F.drain a.who) D [.box [.v (.int .u8 a.d), i64 a.who, str a.u, i64 a.live, u64 a.seq]] a.who
          rw [hdL, hdB] at hDd
          have hlL : (drainL F a.who).length ≤ 100000 := by
            unfold drainL
            split
            · have := hA.fl a.who.toNat; omega
            · exact Nat.zero_le _
          have hS := ref09_Same (drainL F a.who) (drainL F a.who) hlL hlL
          rw [decide_eq_true rfl] at hS
          generalize F.drain a.who = F' at *
          generalize D.drain a.who = D' at *
          generalize drainB F a.who = B at *
          try simp (maxSteps := 1000000) only [go_region, go_seq, go_cond, go_ops_nil, go_op, opK_none, opK_some, contK_some, condK_f, callOf, callK_eq, callJ_nil, callD_fn, fstep, fpre, fstep0, fbinA, fbin, fbin0, fload, fcell, ffieldAddr, evs, T, TI.isAgg, St.ev, St.put, AV.owners, ownersAll, List.getD_cons_zero, List.getD_cons_succ, List.set, List.length_cons, List.length_nil, List.drop_succ_cons, List.drop_zero, List.headD_cons, List.append_nil, List.getElem?_cons_zero, List.getElem?_cons_succ, List.getElem?_toArray, true_and, Bool.true_and, Bool.false_eq_true, ↓reduceIte, reduceCtorEq, ne_eq, not_false_eq_true, Nat.reduceAdd, Nat.reduceLT, Nat.zero_add, fm_18, q0, q1, q2]
          cases hc : cli a.who
          · have e : drainL F a.who = [] := by rw [drainL, hc]; rfl
            rw [e] at hS hDd hD
            rw [hc] at hD
            refine callG_X (kp := kpF) (fun b hb => absurd hb (Nat.not_lt_zero b)) (Sym.ACallX.mono hD ?_)
            rintro _ _ ⟨rfl, rfl⟩
            try simp (maxSteps := 1000000) only [go_region, go_seq, go_ops_nil, go_op, opK_none, opK_some, contK_some, callOf, callK_eq, callJ_nil, callD_fn, fstep, fpre, fstep0, fload, fcell, ffieldAddr, evs, T, TI.isAgg, St.ev, St.put, AV.owners, ownersAll, cutVs, cutV, bks, bksAll, List.getD_cons_zero, List.getD_cons_succ, List.set, List.length_cons, List.length_nil, List.all_cons, List.all_nil, List.drop_succ_cons, List.drop_zero, List.headD_cons, List.append_nil, List.getElem?_cons_zero, List.getElem?_cons_succ, List.getElem?_toArray, true_and, Bool.true_and, Bool.and_self, Bool.or_true, Bool.or_false, Bool.false_eq_true, ↓reduceIte, decide_true, decide_false, reduceCtorEq, ne_eq, not_false_eq_true, Nat.reduceAdd, Nat.reduceLeDiff, Nat.reduceLT, Nat.le_refl, Nat.zero_add, fm_18, kpF]
            refine callG_A (Sym.ACall.mono hDd ?_)
            rintro _ _ ⟨rfl, rfl⟩
            try simp (maxSteps := 1000000) only [go_region, go_seq, go_ops_nil, go_op, opK_none, opK_some, contK_some, callOf, callK_eq, callJ_nil, callD_fn, fstep, fpre, fstep0, evs, St.ev, St.put, AV.owners, ownersAll, List.getD_cons_zero, List.getD_cons_succ, List.set, List.length_cons, List.length_nil, List.append_nil, true_and, Bool.true_and, Nat.reduceAdd, Nat.reduceLT, Nat.zero_add]
            (refine callG_use (PCall.weakArgs hS ⟨_, _, rfl, weak_nil 8, weaks_refl _⟩) rfl ?_; rintro _ rfl)
            try simp (maxSteps := 1000000) only [go_skip, go_region, go_seq, go_cond, go_blk, go_ops_nil, go_op, go_guard, opK_none, opK_some, contK_some, condK_f, guardK_eq, guardV_ff, callOf, callK_eq, callJ_nil, callD_fn, fstep, fpre, fstep0, fbinA, fbin, fbin0, funary, evs, fpick, isBoolTy, T, St.ev, St.put, AV.owners, ownersAll, List.getD_cons_zero, List.getD_cons_succ, List.set, List.append_nil, List.getElem?_cons_zero, List.getElem?_cons_succ, Option.bind_some, List.getElem?_toArray, true_and, Bool.true_and, Bool.not_true, cond_false, bne_self_eq_false]
            have hWa := fun r => Watching_at F' (docB D' :: r) who user hA'.ok.1 (by have := hA'.len; omega)
            have hWd := fun r => dWatching_at F' D' r who user (by have := hA'.plen; omega)
            have hCa := fun r => Count_at F' (docB D' :: r) who (by have := hA'.len; omega)
            have hCd := fun r => dCount_at F' D' r who (by have := hA'.plen; omega)
            simp only [hA'.wat] at hWa
            simp only [hA'.cnt] at hCa
            skip
            refine callG_A (Sym.ACall.mono (hWa _) ?_)
            rintro _ _ ⟨rfl, rfl⟩
            try simp (maxSteps := 1000000) only [go_op, opK_none, opK_some, contK_some, callOf, callK_eq, callJ_nil, callD_fn, fstep, fpre, fstep0, evs, St.ev, St.put, AV.owners, ownersAll, List.getD_cons_zero, List.getD_cons_succ, List.set, List.append_nil, true_and, Bool.true_and]
            refine callG_A (Sym.ACall.mono (hWd _) ?_)
            rintro _ _ ⟨rfl, rfl⟩
            try simp (maxSteps := 1000000) only [go_op, go_guard, opK_none, opK_some, contK_some, guardK_eq, guardV_ff, callOf, callK_eq, callJ_nil, callD_fn, fstep, fpre, fstep0, fbinA, fbin, fbin0, evs, isBoolTy, T, St.ev, St.put, AV.owners, ownersAll, List.getD_cons_zero, List.getD_cons_succ, List.set, List.append_nil, List.getElem?_cons_zero, List.getElem?_cons_succ, Option.bind_some, List.getElem?_toArray, true_and, Bool.true_and, bne_self_eq_false]
            refine callG_A (Sym.ACall.mono (hCa _) ?_)
            rintro _ _ ⟨rfl, rfl⟩
            try simp (maxSteps := 1000000) only [go_guard, opK_none, opK_some, contK_some, guardK_eq, guardV_ff, callOf, callK_eq, callJ_nil, callD_fn, fstep, fpre, fstep0, evs, St.ev, St.put, AV.owners, ownersAll, List.getD_cons_zero, List.getD_cons_succ, List.set, List.append_nil, List.getElem?_cons_zero, List.getElem?_cons_succ, Option.bind_some, List.getElem?_toArray, true_and, Bool.true_and]
            refine callG_A (Sym.ACall.mono (hCd _) ?_)
            rintro _ _ ⟨rfl, rfl⟩
            try simp (maxSteps := 1000000) only [go_nil, go_skip, go_region, go_cond, go_blk, go_ops_nil, go_op, go_guard, opK_none, contK_some, condK_f, guardK_eq, guardV_ff, callOf, fstep, fpre, fstep0, fbinA, fbin, fbin0, fpick, St.ev, St.put, List.getD_cons_zero, List.getD_cons_succ, List.set, List.getElem?_cons_zero, List.getElem?_cons_succ, Option.bind_some, List.getElem?_toArray, true_and, Bool.true_and, cond_false, bne_self_eq_false, ew]
            simp only [loopT_normal, St.trunc, St.keep, truncVs, truncV, keepV, List.drop_zero, List.elem_cons, List.elem_nil, Nat.reduceAdd, Nat.reduceBEq, Nat.reduceLeDiff, Nat.le_refl, Nat.zero_add, Bool.false_eq_true, ↓reduceIte]
            exact ⟨(i + 1, F', D'), ⟨hlt, hA'⟩, by simp only; omega, Turns.of_eq rfl⟩
          · rw [hc] at hD
            refine callG_X (kp := kpF) (fun b hb => absurd hb (Nat.not_lt_zero b)) (Sym.ACallX.mono hD ?_)
            rintro _ _ ⟨rfl, rfl⟩
            try simp (maxSteps := 1000000) only [go_region, go_seq, go_ops_nil, go_op, opK_none, opK_some, contK_some, callOf, callK_eq, callJ_nil, callD_fn, fstep, fpre, fstep0, fload, fcell, ffieldAddr, evs, T, TI.isAgg, St.ev, St.put, AV.owners, ownersAll, cutVs, cutV, bks, bksAll, List.getD_cons_zero, List.getD_cons_succ, List.set, List.length_cons, List.length_nil, List.all_cons, List.all_nil, List.drop_succ_cons, List.drop_zero, List.headD_cons, List.append_nil, List.getElem?_cons_zero, List.getElem?_cons_succ, List.getElem?_toArray, true_and, Bool.true_and, Bool.and_self, Bool.or_true, Bool.or_false, Bool.false_eq_true, ↓reduceIte, decide_true, decide_false, reduceCtorEq, ne_eq, not_false_eq_true, Nat.reduceAdd, Nat.reduceLeDiff, Nat.reduceLT, Nat.le_refl, Nat.zero_add, fm_18, kpF]
            refine callG_A (Sym.ACall.mono hDd ?_)
            rintro _ _ ⟨rfl, rfl⟩
            try simp (maxSteps := 1000000) only [go_region, go_seq, go_ops_nil, go_op, opK_none, opK_some, contK_some, callOf, callK_eq, callJ_nil, callD_fn, fstep, fpre, fstep0, evs, St.ev, St.put, AV.owners, ownersAll, List.getD_cons_zero, List.getD_cons_succ, List.set, List.length_cons, List.length_nil, List.append_nil, true_and, Bool.true_and, Nat.reduceAdd, Nat.reduceLT, Nat.zero_add]
            (refine callG_use hS rfl ?_; rintro _ rfl)
            try simp (maxSteps := 1000000) only [go_skip, go_region, go_seq, go_cond, go_blk, go_ops_nil, go_op, go_guard, opK_none, opK_some, contK_some, condK_f, guardK_eq, guardV_ff, callOf, callK_eq, callJ_nil, callD_fn, fstep, fpre, fstep0, fbinA, fbin, fbin0, funary, evs, fpick, isBoolTy, T, St.ev, St.put, AV.owners, ownersAll, List.getD_cons_zero, List.getD_cons_succ, List.set, List.append_nil, List.getElem?_cons_zero, List.getElem?_cons_succ, Option.bind_some, List.getElem?_toArray, true_and, Bool.true_and, Bool.not_true, cond_false, bne_self_eq_false]
            have hWa := fun r => Watching_at F' (docB D' :: r) who user hA'.ok.1 (by have := hA'.len; omega)
            have hWd := fun r => dWatching_at F' D' r who user (by have := hA'.plen; omega)
            have hCa := fun r => Count_at F' (docB D' :: r) who (by have := hA'.len; omega)
            have hCd := fun r => dCount_at F' D' r who (by have := hA'.plen; omega)
            simp only [hA'.wat] at hWa
            simp only [hA'.cnt] at hCa
            skip
            refine callG_A (Sym.ACall.mono (hWa _) ?_)
            rintro _ _ ⟨rfl, rfl⟩
            try simp (maxSteps := 1000000) only [go_op, opK_none, opK_some, contK_some, callOf, callK_eq, callJ_nil, callD_fn, fstep, fpre, fstep0, evs, St.ev, St.put, AV.owners, ownersAll, List.getD_cons_zero, List.getD_cons_succ, List.set, List.append_nil, true_and, Bool.true_and]
            refine callG_A (Sym.ACall.mono (hWd _) ?_)
            rintro _ _ ⟨rfl, rfl⟩
            try simp (maxSteps := 1000000) only [go_op, go_guard, opK_none, opK_some, contK_some, guardK_eq, guardV_ff, callOf, callK_eq, callJ_nil, callD_fn, fstep, fpre, fstep0, fbinA, fbin, fbin0, evs, isBoolTy, T, St.ev, St.put, AV.owners, ownersAll, List.getD_cons_zero, List.getD_cons_succ, List.set, List.append_nil, List.getElem?_cons_zero, List.getElem?_cons_succ, Option.bind_some, List.getElem?_toArray, true_and, Bool.true_and, bne_self_eq_false]
            refine callG_A (Sym.ACall.mono (hCa _) ?_)
            rintro _ _ ⟨rfl, rfl⟩
            try simp (maxSteps := 1000000) only [go_guard, opK_none, opK_some, contK_some, guardK_eq, guardV_ff, callOf, callK_eq, callJ_nil, callD_fn, fstep, fpre, fstep0, evs, St.ev, St.put, AV.owners, ownersAll, List.getD_cons_zero, List.getD_cons_succ, List.set, List.append_nil, List.getElem?_cons_zero, List.getElem?_cons_succ, Option.bind_some, List.getElem?_toArray, true_and, Bool.true_and]
            refine callG_A (Sym.ACall.mono (hCd _) ?_)
            rintro _ _ ⟨rfl, rfl⟩
            try simp (maxSteps := 1000000) only [go_nil, go_skip, go_region, go_cond, go_blk, go_ops_nil, go_op, go_guard, opK_none, contK_some, condK_f, guardK_eq, guardV_ff, callOf, fstep, fpre, fstep0, fbinA, fbin, fbin0, fpick, St.ev, St.put, List.getD_cons_zero, List.getD_cons_succ, List.set, List.getElem?_cons_zero, List.getElem?_cons_succ, Option.bind_some, List.getElem?_toArray, true_and, Bool.true_and, cond_false, bne_self_eq_false, ew]
            simp only [loopT_normal, St.trunc, St.keep, truncVs, truncV, keepV, List.drop_zero, List.elem_cons, List.elem_nil, Nat.reduceAdd, Nat.reduceBEq, Nat.reduceLeDiff, Nat.le_refl, Nat.zero_add, Bool.false_eq_true, ↓reduceIte]
            exact ⟨(i + 1, F', D'), ⟨hlt, hA'⟩, by simp only; omega, Turns.of_eq rfl⟩
      · try simp (maxSteps := 1000000) only [go_region, go_seq, go_exit, go_ret, exitK_code, exitK_blk, exitK_nil, go_ops_nil, go_op, opK_none, contK_some, condK_f, callOf, fstep, fpre, fstep0, St.ev, St.put, List.set, true_and, Bool.true_and, ↓reduceIte, loopT_exit]
        apply hK
        simp only [Try.results6, retK, ares, Bool.and_true, Bool.true_and, AV.ofResults, St.trunc, truncVs, truncV, List.getD_cons_zero, List.getD_cons_succ, List.take_zero, List.map_nil, true_and, and_true, List.cons.injEq, exists_eq_left']
  · try simp (maxSteps := 1000000) only [go_region, go_seq, go_cond, go_ops_nil, go_op, go_guard, opK_none, opK_some, contK_some, condK_t, guardK_eq, guardV_tf, undef, callOf, callK_eq, callJ_nil, callD_fn, fstep, fpre, fstep0, evs, fpick, St.ev, St.put, ownersAll, List.getD_cons_zero, List.getD_cons_succ, List.set, List.append_nil, List.getElem?_cons_zero, List.getElem?_cons_succ, Option.bind_some, List.getElem?_toArray, true_and, Bool.true_and, ↓reduceIte]
    (refine callG_use law09_awake rfl ?_; rintro _ rfl)
    try simp (maxSteps := 1000000) only [go_ret, go_ops_nil, go_op, opK_none, contK_some, callOf, fstep, fpre, fstep0, St.ev, St.put, List.getD_cons_zero, List.getD_cons_succ, List.set, true_and, Bool.true_and]
    apply hK
    simp only [Try.results6, retK, ares, List.take_nil, Bool.and_true, Bool.true_and, AV.ofResults, St.trunc, truncVs, truncV, List.getD_cons_zero, List.getD_cons_succ, List.map_nil, true_and, and_true, List.cons.injEq, exists_eq_left']

def shapesFeedPlays : List (Bool × List Lf) := [(false, [.int .i64]), (false, [.sl 5 true [.int .u8, .int .i64, .str, .int .i64, .int .u64]]), (false, [.int .i64]), (false, [.str])]
theorem shapesFeedPlays_ok : argShapes T 6 [3, 46, 3, 9] = some shapesFeedPlays := by kernel_rfl
theorem fits_acps {ys : List AV} (h : ∀ y ∈ ys, ∃ zs, fitsAll [.int .u8, .int .i64, .str, .int .i64, .int .u64] zs ∧ y = pack true zs) : ∃ l : List ActP, ys = acps l ∧ ∀ a ∈ l, a.d ≤ 255 := by
  induction ys with
  | nil => exact ⟨[], rfl, fun a ha => by cases ha⟩
  | cons y ys ih =>
    obtain ⟨l, rfl, hl⟩ := ih (fun z hz => h z (by simp [hz]))
    obtain ⟨zs, ⟨_, _, rfl, ⟨d, rfl, hd⟩, _, _, rfl, ⟨w, rfl, _⟩, _, _, rfl, ⟨u, rfl, _⟩, _, _, rfl, ⟨v, rfl, _⟩, _, _, rfl, ⟨q, rfl, _⟩, rfl⟩, rfl⟩ := h y (by simp)
    have hd' : 0 ≤ d ∧ d ≤ 255 := by simpa [Lit.wf, IntKind.min, IntKind.max, IntKind.signed, IntKind.bits] using hd
    obtain ⟨d, rfl⟩ : ∃ m : Nat, d = m := ⟨d.toNat, by omega⟩
    refine ⟨⟨d, w, u, v, q⟩ :: l, rfl, fun b hb => ?_⟩
    rcases List.mem_cons.1 hb with rfl | hb
    · simp only; omega
    · exact hl b hb
theorem law_FeedPlays (xs : List AV) (h : argsFit shapesFeedPlays xs) : PCall P 6 xs (fun x => x = .v (.bool true)) := by
  obtain ⟨_, _, rfl, ⟨_, _, rfl, ⟨room, rfl, _⟩, rfl⟩, _, _, rfl, ⟨_, _, rfl, ⟨ys, rfl, hlen, hys⟩, rfl⟩, _, _, rfl, ⟨_, _, rfl, ⟨who, rfl, _⟩, rfl⟩, _, _, rfl, ⟨_, _, rfl, ⟨u, rfl, _⟩, rfl⟩, rfl⟩ := h
  obtain ⟨l, rfl, hl⟩ := fits_acps hys
  rw [acps_len] at hlen
  exact law_plays room l who u (by simpa [maxLen] using hlen) hl
end Go.Proofs.Ytljgfapbbhbbpaa
