/- BookSame. -/
import Derived.Test.YtljgfapbbhbbpaaBSame
namespace Go.Proofs.Ytljgfapbbhbbpaa
open Go Go.Proofs.Ytljgfapbbhbbpaa.Sym
set_option maxRecDepth 100000
set_option linter.unusedSimpArgs false
set_option linter.unusedVariables false

def roomy (n : Int) (m : Bk) : Prop := ∀ p ∈ m, 0 < p.2.l.length ∧ (p.2.l.length : Int) ≤ n
theorem was_room {n : Int} {m : Bk} (hr : rises_se m) (h : roomy n m) (h0 : 0 ≤ n) (u : ByteArray) : ((wasOf m u).l.length : Int) ≤ n := by
  by_cases hk : u ∈ m.map Prod.fst
  · obtain ⟨⟨k, e⟩, hp, rfl⟩ := List.mem_map.1 hk
    rw [wasOf, get_mem ordS eqS_iff hr hp]
    exact (h _ hp).2
  · rw [wasOf, get_none ordS eqS_iff hr hk]
    exact h0
theorem setF_room {l : List Ses} (hr : Up l) (s : Ses) {n : Int} (h : (l.length : Int) ≤ n) : ((setF l s n).1.length : Int) ≤ n := by
  cases hh : has l s.id with
  | true => rw [set_has hr n hh, List.length_set]; exact h
  | false =>
    cases hm : decide (n ≤ l.length) with
    | true => rw [set_full hh hm]; exact h
    | false =>
      have hle : lb ltI (ids l) s.id ≤ l.length := by have := lb_le (lt := ltI) (ids l) s.id; rwa [ids_len] at this
      have : ¬ n ≤ l.length := by simpa using hm
      rw [set_new hr hh hm]
      simp only [List.length_append, List.length_take, List.length_drop, List.length_singleton]
      omega
theorem room_write {k : Nat} {n : Int} {m : Bk} (hk : bookOk k m) (h : roomy n m) (h0 : 0 ≤ n) (o : Opb) (now : Int) : roomy n (writeB m o now n) := by
  intro p hp
  rcases settle_mem hk.1 hp with hp | ⟨rfl, hne⟩
  · exact h p hp
  · refine ⟨by simp only; omega, ?_⟩
    have hw := was_room hk.1 h h0 o.u
    have hup := lives_up (was_ok hk o.u).1 now
    have hl : (lives now (wasOf m o.u).l).length ≤ (wasOf m o.u).l.length := List.length_filter_le _ _
    unfold writeL
    simp only
    split
    · exact setF_room hup _ (by omega)
    · split
      · rw [(beatF_ok hup _ _).2]; omega
      · split
        · have : (clear (lives now (wasOf m o.u).l) o.id).length ≤ _ := List.length_filter_le _ _
          simp only; omega
        · simp only; omega
theorem room_sweep {n : Int} {m : Bk} (hr : rises_se m) (h : roomy n m) (now : Int) : roomy n (sweepF m now).1 := by
  intro p hp
  rw [sweepF_eq hr] at hp
  obtain ⟨q, hq, rfl, hne⟩ := swept_mem hp
  have := h q hq
  have hl : (lives now q.2.l).length ≤ q.2.l.length := List.length_filter_le _ _
  exact ⟨by simp only; omega, by simp only; omega⟩
theorem room_made {n : Int} (h0 : 0 ≤ n) (l : List ActB) : roomy n (madeF l n).1 := by
  refine snoc_ind (p := fun l => roomy n (madeF l n).1) (fun p hp => by cases hp) ?_ l
  intro l a ih
  have e : madeF (l ++ [a]) n = madeStep n (madeF l n) a := by rw [madeF, List.foldl_append]; rfl
  have hok := made_ok l n
  rw [e, madeStep]
  simp only
  split
  · exact room_sweep hok.1 ih _
  · exact room_write hok ih h0 _ _

theorem maps_ext {α β : Type} {lt : α → α → Bool} (O : StrictOrd lt) : ∀ {a b : List (α × β)}, RisesM lt a → RisesM lt b → (∀ p, p ∈ a ↔ p ∈ b) → a = b
  | [], [], _, _, _ => rfl
  | [], y :: b, _, _, h => absurd ((h y).2 List.mem_cons_self) (by simp)
  | x :: a, [], _, _, h => absurd ((h x).1 List.mem_cons_self) (by simp)
  | x :: a, y :: b, ha, hb, h => by
    have pa := List.pairwise_cons.1 (risesM_iff.1 ha)
    have pb := List.pairwise_cons.1 (risesM_iff.1 hb)
    have hxy : x = y := by
      rcases List.mem_cons.1 ((h x).1 List.mem_cons_self) with e | e
      · exact e
      · rcases List.mem_cons.1 ((h y).2 List.mem_cons_self) with e2 | e2
        · exact e2.symm
        · have := O.trans _ _ _ (pa.1 y e2) (pb.1 x e)
          rw [O.irrefl] at this; cases this
    subst hxy
    congr 1
    refine maps_ext O (risesM_iff.2 pa.2) (risesM_iff.2 pb.2) fun k => ?_
    constructor
    · intro hk
      rcases List.mem_cons.1 ((h k).1 (List.mem_cons_of_mem _ hk)) with rfl | e
      · have := pa.1 k hk; rw [O.irrefl] at this; cases this
      · exact e
    · intro hk
      rcases List.mem_cons.1 ((h k).2 (List.mem_cons_of_mem _ hk)) with rfl | e
      · have := pb.1 k hk; rw [O.irrefl] at this; cases this
      · exact e
def full (m : Bk) : Prop := ∀ p ∈ m, 0 < p.2.l.length
theorem was_in {m : Bk} (hr : rises_se m) (hf : full m) (u : ByteArray) (e : En) : (u, e) ∈ m ↔ (wasOf m u = e ∧ 0 < e.l.length) := by
  constructor
  · intro h
    refine ⟨?_, hf _ h⟩
    rw [wasOf, get_mem ordS eqS_iff hr h]
  · rintro ⟨h, h0⟩
    by_cases hk : u ∈ m.map Prod.fst
    · obtain ⟨⟨k, e'⟩, hp, rfl⟩ := List.mem_map.1 hk
      rw [wasOf, get_mem ordS eqS_iff hr hp] at h
      rw [← h]; exact hp
    · rw [wasOf, get_none ordS eqS_iff hr hk] at h
      rw [← h] at h0
      exact absurd h0 (by decide)
theorem books_ext {a b : Bk} (ha : rises_se a) (hb : rises_se b) (fa : full a) (fb : full b) (h : ∀ u, wasOf a u = wasOf b u) : a = b :=
  maps_ext ordS ha hb fun ⟨u, e⟩ => by rw [was_in ha fa, was_in hb fb, h]
theorem full_settle {m : Bk} (hr : rises_se m) (hf : full m) (u : ByteArray) (l : List Ses) (now : Int) : full (settleB m u l now) := by
  intro p hp
  rcases settle_mem hr hp with hp | ⟨rfl, hn⟩
  · exact hf p hp
  · simp only; omega
theorem same_iff {m : Bk} (hr : rises_se m) (hf : full m) (o : Opb) (now most : Int) : (m = writeB m o now most) ↔ wasOf m o.u = wasOf (writeB m o now most) o.u := by
  constructor
  · intro h; rw [← h]
  · intro h
    refine books_ext hr (settleB_rises hr _ _ _).1 hf (full_settle hr hf _ _ _) fun u => ?_
    by_cases hu : u = o.u
    · rw [hu]; exact h
    · exact (was_other hr hu).symm

set_option maxHeartbeats 2000000 in
theorem law_same (l : List ActB) (x : Opb) (hl : l.length ≤ maxLen) : PCall P 12 [.sl 9 (bacts l), x.av] (fun x => x = .v (.bool true)) := by
  refine pcall_go tyOk Try.func12 rfl rfl ?_
  intro K hK
  simp only [Try.ntmps12, List.length_cons, List.length_nil, Nat.reduceAdd, Nat.reduceSub, List.replicate, List.cons_append, List.nil_append]
  try simp (maxSteps := 1000000) only [go_region, go_seq, go_ops_nil, go_op, opK_none, opK_some, contK_some, callOf, callK_eq, callJ_nil, callD_fn, fstep, fpre, fstep0, evs, St.ev, St.put, AV.cells, AV.known, ownersAll, List.getD_cons_zero, List.getD_cons_succ, List.set, List.length_nil, List.nil_append, List.append_nil, true_and, Bool.true_and, Opb.av]
  (refine callG_use law08_awake rfl ?_; rintro _ rfl)
  try simp (maxSteps := 1000000) only [go_op, go_guard, opK_none, opK_some, contK_some, guardK_eq, guardV_ff, callOf, callK_eq, callJ_nil, callD_fn, fstep, fpre, fstep0, funary, evs, St.ev, St.put, AV.owners, ownersAll, List.getD_cons_zero, List.getD_cons_succ, List.set, List.append_nil, List.getElem?_cons_zero, List.getElem?_cons_succ, Option.bind_some, List.getElem?_toArray, true_and, Bool.true_and, Bool.not_true]
  (refine callG_use (law08_long l hl) rfl ?_; rintro _ rfl)
  try simp (maxSteps := 1000000) only [go_op, go_guard, opK_none, contK_some, guardK_eq, callOf, fstep, fpre, fstep0, fpick, St.ev, St.put, List.getD_cons_zero, List.getD_cons_succ, List.set, List.getElem?_cons_zero, List.getElem?_cons_succ, Option.bind_some, List.getElem?_toArray, true_and, Bool.true_and, cond_false]
  (first | refine guardV_split ?_ ?_ | refine condK_split ?_ ?_ | refine drawV_split ?_ ?_ | refine condY_split ?_ ?_ | refine guardY_split ?_ ?_) <;> intro h0
  · try simp (maxSteps := 1000000) only [go_region, go_seq, go_cond, go_ops_nil, go_op, go_guard, opK_none, opK_some, contK_some, condK_t, guardK_eq, guardV_tf, undef, callOf, callK_eq, callJ_nil, callD_fn, fstep, fpre, fstep0, evs, fpick, St.ev, St.put, ownersAll, List.getD_cons_zero, List.getD_cons_succ, List.set, List.append_nil, List.getElem?_cons_zero, List.getElem?_cons_succ, Option.bind_some, List.getElem?_toArray, true_and, Bool.true_and, ↓reduceIte]
    (refine callG_use law08_awake rfl ?_; rintro _ rfl)
    try simp (maxSteps := 1000000) only [go_ret, go_ops_nil, go_op, opK_none, contK_some, callOf, fstep, fpre, fstep0, St.ev, St.put, List.getD_cons_zero, List.getD_cons_succ, List.set, true_and, Bool.true_and]
    apply hK
    simp only [Try.results12, retK, ares, Bool.and_true, Bool.true_and, AV.ofResults, St.trunc, truncVs, truncV, List.getD_cons_zero, List.getD_cons_succ, List.take_zero, List.map_nil, true_and, and_true, List.cons.injEq, exists_eq_left']
  try simp (maxSteps := 1000000) only [go_cond, go_ops_nil, go_op, go_guard, opK_none, contK_some, guardK_eq, guardV_ff, callOf, fstep, fpre, fstep0, fbinA, fbin, fbin0, fload, fcell, ffieldAddr, flen, fpick, T, TI.isAgg, St.ev, St.put, List.getD_cons_zero, List.getD_cons_succ, List.set, List.length_cons, List.length_nil, List.drop_succ_cons, List.drop_zero, List.headD_cons, List.getElem?_cons_zero, List.getElem?_cons_succ, Option.bind_some, List.getElem?_toArray, true_and, Bool.true_and, Bool.false_eq_true, ↓reduceIte, reduceCtorEq, ne_eq, not_false_eq_true, Nat.reduceAdd, Nat.reduceLT, Nat.zero_add, cond_false]
  (first | refine guardV_split ?_ ?_ | refine condK_split ?_ ?_ | refine drawV_split ?_ ?_ | refine condY_split ?_ ?_ | refine guardY_split ?_ ?_) <;> intro h1
  · try simp (maxSteps := 1000000) only [go_region, go_seq, go_op, opK_some, condK_t, callOf, callK_eq, callJ_nil, callD_fn, evs, St.ev, ownersAll, List.append_nil]
    (refine callG_use law08_awake rfl ?_; rintro _ rfl)
    try simp (maxSteps := 1000000) only [go_ret, go_ops_nil, go_op, opK_none, contK_some, callOf, fstep, fpre, fstep0, St.ev, St.put, List.getD_cons_zero, List.getD_cons_succ, List.set, true_and, Bool.true_and]
    apply hK
    simp only [Try.results12, retK, ares, Bool.and_true, Bool.true_and, AV.ofResults, St.trunc, truncVs, truncV, List.getD_cons_zero, List.getD_cons_succ, List.take_zero, List.map_nil, true_and, and_true, List.cons.injEq, exists_eq_left']
  have hlen := longB_few h0
  have hmade := made_call l 4 (by omega)
  have hok := (made_ok l 4).mono (show l.length ≤ 200 by omega)
  have hfull : full (madeF l 4).1 := fun p hp => (room_made (n := 4) (by decide) l p hp).1
  obtain ⟨⟨M, now⟩, hM⟩ : ∃ s, madeF l 4 = s := ⟨_, rfl⟩
  rw [hM] at hok hfull hmade
  simp only at hok hfull hmade
  have hC := write_call 200 M x now 4 hok (by omega)
  have hCok := book_write hok x now 4
  have hiff := same_iff hok.1 hfull x now 4
  generalize hCC : writeB M x now 4 = C at *
  have hs0 := same_call M M (hok.mono (by omega)) (hok.mono (by omega))
  rw [decide_eq_true rfl] at hs0
  have hs1 := same_call M C (hok.mono (by omega)) (hCok.mono (by omega))
  have hs2 := same_call C M (hCok.mono (by omega)) (hok.mono (by omega))
  have hsd : decide (C = M) = decide (M = C) := by rw [Bool.eq_iff_iff]; simp only [decide_eq_true_eq]; exact eq_comm
  rw [hsd] at hs2
  have hd : decide (M = C) = decide (wasOf M x.u = wasOf C x.u) := by rw [Bool.eq_iff_iff]; simp only [decide_eq_true_eq]; exact hiff
  rw [hd] at hs1 hs2
  have hgM := get_open M x.u hok.1 (by have := hok.2.1; omega)
  have hgC := get_open C x.u hCok.1 (by have := hCok.2.1; omega)
  have hlp := (was_ok hok x.u).2
  have hlq := (was_ok hCok x.u).2
  generalize wasOf M x.u = p at *
  generalize wasOf C x.u = q at *
  dsimp only [Opb.av] at hC
  unfold map_se at hmade hC hs0 hs1 hs2 hgM hgC
  try simp (maxSteps := 1000000) only [go_skip, go_region, go_seq, go_op, opK_none, opK_some, contK_some, condK_f, callOf, callK_eq, callJ_nil, callD_fn, fstep, fpre, fstep0, evs, St.ev, St.put, AV.owners, ownersAll, List.getD_cons_zero, List.getD_cons_succ, List.set, List.append_nil, true_and, Bool.true_and]
  (refine callG_use hmade rfl ?_; rintro _ rfl)
  try simp (maxSteps := 1000000) only [go_region, go_seq, go_ops_nil, go_op, opK_none, opK_some, contK_some, callOf, callK_eq, callJ_nil, callD_fn, fstep, fpre, fstep0, fstore, evs, T, St.ev, St.put, splice, AV.cells, AV.known, AV.flat, AV.owners, ownersAll, List.getD_cons_zero, List.getD_cons_succ, List.set, List.map_cons, List.map_nil, List.length_cons, List.length_nil, List.all_cons, List.all_nil, List.drop_succ_cons, List.drop_zero, List.take_zero, List.cons_append, List.nil_append, List.append_nil, List.getElem?_cons_zero, List.getElem?_cons_succ, true_and, and_true, Bool.and_true, Bool.true_and, Bool.and_self, Nat.reduceAdd, Nat.reduceLT, Nat.le_refl, Nat.zero_add]
  (refine callG_use hmade rfl ?_; rintro _ rfl)
  try simp (maxSteps := 1000000) only [go_region, go_seq, go_ops_nil, go_op, opK_none, opK_some, contK_some, callOf, callK_eq, callJ_nil, callD_fn, fstep, fpre, fstep0, fload, fcell, fstore, evs, T, TI.isAgg, St.ev, St.put, splice, AV.cells, AV.known, AV.flat, AV.owners, ownersAll, List.getD_cons_zero, List.getD_cons_succ, List.set, List.map_cons, List.map_nil, List.length_cons, List.length_nil, List.all_cons, List.all_nil, List.drop_succ_cons, List.drop_zero, List.take_succ_cons, List.take_zero, List.cons_append, List.nil_append, List.append_nil, List.getElem?_cons_zero, List.getElem?_cons_succ, true_and, and_true, Bool.and_true, Bool.true_and, Bool.and_self, ↓reduceIte, Nat.reduceAdd, Nat.reduceLT, Nat.le_refl, Nat.zero_add]
  (refine callG_use hs0 rfl ?_; rintro _ rfl)
  try simp (maxSteps := 1000000) only [go_skip, go_region, go_seq, go_cond, go_ops_nil, go_op, opK_none, opK_some, contK_some, condK_f, callOf, callK_eq, callJ_nil, callD_fn, fstep, fpre, fstep0, fload, fcell, funary, evs, T, TI.isAgg, St.ev, St.put, AV.owners, ownersAll, List.getD_cons_zero, List.getD_cons_succ, List.set, List.length_cons, List.length_nil, List.drop_zero, List.take_succ_cons, List.take_zero, List.append_nil, List.getElem?_cons_zero, List.getElem?_cons_succ, true_and, Bool.true_and, Bool.not_true, ↓reduceIte, Nat.reduceAdd, Nat.le_refl, Nat.zero_add]
  (refine callG_use hC rfl ?_; rintro _ rfl)
  try simp (maxSteps := 1000000) only [go_region, go_seq, go_ops_nil, go_op, opK_none, opK_some, contK_some, callOf, callK_eq, callJ_nil, callD_fn, fstep, fpre, fstep0, fload, fcell, fstore, ffieldAddr, evs, T, TI.isAgg, St.ev, St.put, splice, AV.cells, AV.known, AV.flat, AV.owners, ownersAll, List.getD_cons_zero, List.getD_cons_succ, List.set, List.map_cons, List.map_nil, List.length_cons, List.length_nil, List.all_cons, List.all_nil, List.drop_succ_cons, List.drop_zero, List.take_succ_cons, List.take_zero, List.headD_cons, List.cons_append, List.nil_append, List.append_nil, List.getElem?_cons_zero, List.getElem?_cons_succ, List.getElem?_toArray, true_and, and_true, Bool.and_true, Bool.true_and, Bool.and_self, Bool.false_eq_true, ↓reduceIte, reduceCtorEq, ne_eq, not_false_eq_true, Nat.reduceAdd, Nat.reduceLT, Nat.le_refl, Nat.zero_add]
  (refine callG_use hgM rfl ?_; rintro _ rfl)
  try simp (maxSteps := 1000000) only [go_region, go_seq, go_ops_nil, go_op, opK_none, opK_some, contK_some, callOf, callK_eq, callJ_nil, callD_fn, fstep, fpre, fstep0, fload, fcell, fstore, ffieldAddr, evs, T, TI.isAgg, St.ev, St.put, splice, AV.cells, AV.known, AV.flat, AV.owners, ownersAll, Value.oneCell', List.getD_cons_zero, List.getD_cons_succ, List.set, List.map_cons, List.map_nil, List.length_cons, List.length_nil, List.all_cons, List.all_nil, List.drop_succ_cons, List.drop_zero, List.take_succ_cons, List.take_zero, List.headD_cons, List.cons_append, List.nil_append, List.append_nil, List.getElem?_cons_zero, List.getElem?_cons_succ, List.getElem?_toArray, true_and, and_true, Bool.and_true, Bool.true_and, Bool.and_self, Bool.false_eq_true, ↓reduceIte, reduceCtorEq, ne_eq, not_false_eq_true, Nat.reduceAdd, Nat.reduceLT, Nat.le_refl, Nat.zero_add]
  (refine callG_use hgC rfl ?_; rintro _ rfl)
  try simp (maxSteps := 1000000) only [go_region, go_seq, go_ops_nil, go_op, go_guard, opK_none, contK_some, guardK_eq, callOf, fstep, fpre, fstep0, fbinA, fbin, fbin0, fload, fcell, fstore, ffieldAddr, flen, T, TI.isAgg, St.ev, St.put, splice, AV.cells, AV.known, AV.flat, Value.oneCell', List.getD_cons_zero, List.getD_cons_succ, List.set, List.map_cons, List.map_nil, List.length_cons, List.length_nil, List.all_cons, List.all_nil, List.drop_succ_cons, List.drop_zero, List.take_zero, List.headD_cons, List.cons_append, List.nil_append, List.append_nil, List.getElem?_cons_zero, List.getElem?_cons_succ, Option.bind_some, List.getElem?_toArray, true_and, and_true, Bool.and_true, Bool.true_and, Bool.and_self, Bool.false_eq_true, ↓reduceIte, reduceCtorEq, ne_eq, not_false_eq_true, Nat.reduceAdd, Nat.reduceLT, Nat.le_refl, Nat.add_zero, Nat.zero_add, avs_len]
  (first | refine guardV_split ?_ ?_ | refine condK_split ?_ ?_ | refine drawV_split ?_ ?_ | refine condY_split ?_ ?_ | refine guardY_split ?_ ?_) <;> intro h2
  · have hpq : p.l.length = q.l.length := by
      have : ((p.l.length : Nat) : Int) = ((q.l.length : Nat) : Int) := by simpa using h2
      omega
    try simp (maxSteps := 1000000) only [go_region, go_seq, go_block, go_loop, go_ops_nil, go_op, go_guard, opK_none, contK_some, guardK_eq, guardV_tt, callOf, fstep, fpre, fstep0, fbinA, fbin, fbinS, eqVs, eqV, kOks, kOk, fload, fcell, ffieldAddr, fpick, T, TI.isAgg, St.ev, St.put, List.getD_cons_zero, List.getD_cons_succ, List.set, List.length_cons, List.length_nil, List.drop_succ_cons, List.drop_zero, List.take_succ_cons, List.take_zero, List.getElem?_cons_zero, List.getElem?_cons_succ, Option.bind_some, List.getElem?_toArray, true_and, and_true, Bool.and_true, Bool.true_and, Bool.and_self, ↓reduceIte, decide_true, reduceCtorEq, ne_eq, not_false_eq_true, Nat.reduceAdd, Nat.le_refl, Nat.zero_add, cond_true, eqc28, pr_beq]
    by_cases ht : p.t = q.t
    · rw [decide_eq_true ht]
      have hi1 : true = true → p.l.length = q.l.length ∧ p.t = q.t ∧ p.l.take 0 = q.l.take 0 := fun _ => ⟨hpq, ht, rfl⟩
      have hi2 : true = false → ¬ p = q := fun h => by cases h
      skip
      let s0 := true
      refine loopK_rule tyOk (α := Nat × Bool) 6 [3, 5, 7, 9, 12, 14, 16, 17] (fun s => s.1 ≤ p.l.length ∧ (s.2 = true → p.l.length = q.l.length ∧ p.t = q.t ∧ p.l.take s.1 = q.l.take s.1) ∧ (s.2 = false → ¬ p = q))
        (fun s => ⟨[.any, .any, .any, .ptr 0 0, .any, .ptr 1 0, .any, .ptr 2 0, .any, .ptr 3 0, .any, .any, .ptr 4 0, .any, .ptr 5 0, .any, bool s.2, i64 s.1, .any, .any, .any, .any, .any, .any, .any, .any, .any, .any, .any, .any, .any, .any, .any, .any, .any, .any, .any, .any, .any, .any, .any, .any, .any, .any, .any, .any, .any, .any, .any, .any, .any, .any, .any, .any, .any, .any, .any, .any, .any, .any, .any, .any, .any, .any, .any, .any, .any, .any, .any, .any, .any, .any, .any, .any, .any, .any, .any, .any, .any, .any, .any, .any, .any, .any, .any, .any, .any, .any, .any, .any, .any, .any, .any, .any, .any, .any, .any, .any, .any, .any, .any, .any, .any, .any, .any, .any, .any, .any, .any, .any, .any, .any, .any, .any], [.box [i64 x.kind, str x.u, i64 x.id, i64 x.st, i64 x.pr, u64 x.ttl, .sl 1 (x.us.map fun x => str x)], ebox M, ebox M, ebox C, .box [.sl 4 (avs p.l), i64 p.t.st, i64 p.t.pr, i64 p.t.n], .box [.sl 4 (avs q.l), i64 q.t.st, i64 q.t.pr, i64 q.t.n]]⟩)
        (fun s => p.l.length - s.1) (0, s0) (Nat.zero_le _) ⟨Nat.zero_le _, hi1, hi2⟩ rfl ?_
      rintro ⟨i, s⟩ ⟨hi, hs, hs'⟩
      simp only at hi hs hs'
      try simp (maxSteps := 1000000) only [go_region, go_seq, go_op, go_guard, opK_none, contK_some, guardK_eq, callOf, fstep, fpre, fstep0, fbinA, fbin, fbin0, fload, fcell, ffieldAddr, flen, T, TI.isAgg, St.ev, St.put, List.getD_cons_zero, List.getD_cons_succ, List.set, List.length_cons, List.length_nil, List.drop_zero, List.headD_cons, List.getElem?_cons_zero, List.getElem?_cons_succ, Option.bind_some, List.getElem?_toArray, true_and, Bool.true_and, Bool.false_eq_true, ↓reduceIte, reduceCtorEq, ne_eq, not_false_eq_true, Nat.reduceAdd, Nat.reduceLT, Nat.add_zero, Nat.zero_add, avs_len]
      (first | refine guardV_split ?_ ?_ | refine condK_split ?_ ?_ | refine drawV_split ?_ ?_ | refine condY_split ?_ ?_ | refine guardY_split ?_ ?_) <;> intro h3
      · cases s with
        | true =>
          obtain ⟨hpq, ht, he⟩ := hs rfl
          obtain ⟨hlt, eg, ew, c1⟩ := at_idx (by omega) h3
          obtain ⟨hlt2, eg2, _, c2⟩ := at_idx (l := q.l) (i := i) (by omega) (by rw [← hpq]; exact h3)
          try simp (maxSteps := 1000000) only [go_skip, go_seq, go_cond, go_block, go_draws, go_ops_nil, go_op, opK_none, contK_some, condK_t, guardV_tt, callOf, fstep, fpre, fstep0, fpick, St.ev, St.put, List.getD_cons_zero, List.getD_cons_succ, List.set, true_and, Bool.true_and, cond_true]
          refine draw_rule tyOk (by rfl) (by simp only [List.length_cons, List.length_nil, Nat.reduceAdd, Nat.zero_le]) (by kernel_rfl) rfl ?_
          try simp (maxSteps := 1000000) only [go_nil, go_region, go_blk, go_ops_nil, go_op, opK_none, contK_some, callOf, fstep, fpre, fstep0, fbinA, fbin, fbin0, fbinS, eqVs, eqV, kOks, kOk, fload, fcell, ffieldAddr, findexAddr, T, TI.isAgg, St.ev, St.put, AV.cells, AV.known, List.getD_cons_zero, List.getD_cons_succ, List.set, List.length_cons, List.length_nil, List.drop_zero, List.take_succ_cons, List.take_zero, List.headD_cons, List.append_nil, List.getElem?_cons_zero, List.getElem?_cons_succ, List.replicate, List.getElem?_toArray, true_and, and_true, Bool.and_true, Bool.true_and, Bool.and_self, Bool.false_eq_true, ↓reduceIte, decide_true, reduceCtorEq, ne_eq, not_false_eq_true, Nat.reduceAdd, Nat.reduceLT, Nat.le_refl, Nat.add_zero, Nat.zero_add, newCount, drawR_nil, drawR_op, drawP_none, drawQ_some, dstep, isFree, St.app, bump, isNew, eqc91, eg, eg2, c1, c2, avs_len]
          refine ⟨by kernel_rfl, ?_⟩
          try simp (maxSteps := 1000000) only [ses_beq, ew]
          simp only [loopX_normal, St.trunc, St.keep, truncVs, truncV, AB.trunc, keepV, List.elem_cons, List.elem_nil, List.take_succ_cons, List.take_zero, List.map_cons, List.map_nil, Nat.reduceAdd, Nat.reduceBEq, Nat.reduceLeDiff, Nat.zero_add, Bool.false_eq_true, ↓reduceIte]
          refine ⟨(i + 1, decide (p.l[i] = q.l[i])), ⟨hlt, fun h => ⟨hpq, ht, (take_same hlt hlt2).2 ⟨he, by simpa using h⟩⟩, fun h => ?_⟩, by simp only; omega, rfl⟩
          rintro rfl
          simp at h
        | false =>
          rw [decide_eq_false (hs' rfl)] at hs1 hs2
          try simp (maxSteps := 1000000) only [go_region, go_seq, go_cond, go_exit, exitK_code, exitK_blk, exitK_nil, go_ops_nil, go_op, opK_none, opK_some, contK_some, condK_f, guardV_tt, callOf, callK_eq, callJ_nil, callD_fn, fstep, fpre, fstep0, fload, fcell, evs, fpick, T, TI.isAgg, St.ev, St.put, AV.owners, ownersAll, List.getD_cons_zero, List.getD_cons_succ, List.set, List.length_cons, List.length_nil, List.drop_zero, List.take_succ_cons, List.take_zero, List.append_nil, List.getElem?_cons_zero, List.getElem?_cons_succ, true_and, Bool.true_and, ↓reduceIte, Nat.reduceAdd, Nat.le_refl, Nat.zero_add, cond_true, loopX_exit]
          (refine callG_use hs1 rfl ?_; rintro _ rfl)
          try simp (maxSteps := 1000000) only [go_op, go_guard, opK_none, opK_some, contK_some, guardK_eq, guardV_tt, callOf, callK_eq, callJ_nil, callD_fn, fstep, fpre, fstep0, fbinA, fbin, fbin0, fload, fcell, evs, isBoolTy, T, TI.isAgg, St.ev, St.put, AV.owners, ownersAll, List.getD_cons_zero, List.getD_cons_succ, List.set, List.length_cons, List.length_nil, List.drop_zero, List.take_succ_cons, List.take_zero, List.append_nil, List.getElem?_cons_zero, List.getElem?_cons_succ, Option.bind_some, List.getElem?_toArray, true_and, Bool.true_and, ↓reduceIte, Nat.reduceAdd, Nat.le_refl, Nat.zero_add, beq_self_eq_true]
          (refine callG_use hs2 rfl ?_; rintro _ rfl)
          try simp (maxSteps := 1000000) only [go_ret, go_ops_nil, go_op, go_guard, opK_none, contK_some, guardK_eq, guardV_tt, callOf, fstep, fpre, fstep0, fbinA, fbin, fbin0, fpick, isBoolTy, T, St.ev, St.put, List.getD_cons_zero, List.getD_cons_succ, List.set, List.getElem?_cons_zero, List.getElem?_cons_succ, Option.bind_some, List.getElem?_toArray, true_and, Bool.true_and, cond_true, beq_self_eq_true]
          apply hK
          simp only [Try.results12, retK, ares, Bool.and_true, Bool.true_and, AV.ofResults, St.trunc, truncVs, truncV, List.getD_cons_zero, List.getD_cons_succ, List.take_zero, List.map_nil, true_and, and_true, List.cons.injEq, exists_eq_left']
      · have hie := at_end hi h3
        cases s with
        | true =>
          obtain ⟨hpq, ht, he⟩ := hs rfl
          rw [hie, List.take_length, hpq, List.take_length] at he
          rw [decide_eq_true (en_eq.2 ⟨ht, he⟩)] at hs1 hs2
          try simp (maxSteps := 1000000) only [go_region, go_seq, go_cond, go_exit, exitK_code, exitK_blk, exitK_nil, go_ops_nil, go_op, opK_none, opK_some, contK_some, condK_f, guardV_ft, undef, callOf, callK_eq, callJ_nil, callD_fn, fstep, fpre, fstep0, fload, fcell, evs, fpick, T, TI.isAgg, St.ev, St.put, AV.owners, ownersAll, List.getD_cons_zero, List.getD_cons_succ, List.set, List.length_cons, List.length_nil, List.drop_zero, List.take_succ_cons, List.take_zero, List.append_nil, List.getElem?_cons_zero, List.getElem?_cons_succ, true_and, Bool.true_and, Bool.false_eq_true, ↓reduceIte, Nat.reduceAdd, Nat.le_refl, Nat.zero_add, loopX_exit]
          (refine callG_use hs1 rfl ?_; rintro _ rfl)
          try simp (maxSteps := 1000000) only [go_op, go_guard, opK_none, opK_some, contK_some, guardK_eq, guardV_tt, callOf, callK_eq, callJ_nil, callD_fn, fstep, fpre, fstep0, fbinA, fbin, fbin0, fload, fcell, evs, isBoolTy, T, TI.isAgg, St.ev, St.put, AV.owners, ownersAll, List.getD_cons_zero, List.getD_cons_succ, List.set, List.length_cons, List.length_nil, List.drop_zero, List.take_succ_cons, List.take_zero, List.append_nil, List.getElem?_cons_zero, List.getElem?_cons_succ, Option.bind_some, List.getElem?_toArray, true_and, Bool.true_and, ↓reduceIte, Nat.reduceAdd, Nat.le_refl, Nat.zero_add, beq_self_eq_true]
          (refine callG_use hs2 rfl ?_; rintro _ rfl)
          try simp (maxSteps := 1000000) only [go_ret, go_ops_nil, go_op, go_guard, opK_none, contK_some, guardK_eq, guardV_tt, callOf, fstep, fpre, fstep0, fbinA, fbin, fbin0, fpick, isBoolTy, T, St.ev, St.put, List.getD_cons_zero, List.getD_cons_succ, List.set, List.getElem?_cons_zero, List.getElem?_cons_succ, Option.bind_some, List.getElem?_toArray, true_and, Bool.true_and, cond_true, beq_self_eq_true]
          apply hK
          simp only [Try.results12, retK, ares, Bool.and_true, Bool.true_and, AV.ofResults, St.trunc, truncVs, truncV, List.getD_cons_zero, List.getD_cons_succ, List.take_zero, List.map_nil, true_and, and_true, List.cons.injEq, exists_eq_left']
        | false =>
          rw [decide_eq_false (hs' rfl)] at hs1 hs2
          try simp (maxSteps := 1000000) only [go_region, go_seq, go_cond, go_exit, exitK_code, exitK_blk, exitK_nil, go_ops_nil, go_op, opK_none, opK_some, contK_some, condK_f, guardV_ft, undef, callOf, callK_eq, callJ_nil, callD_fn, fstep, fpre, fstep0, fload, fcell, evs, fpick, T, TI.isAgg, St.ev, St.put, AV.owners, ownersAll, List.getD_cons_zero, List.getD_cons_succ, List.set, List.length_cons, List.length_nil, List.drop_zero, List.take_succ_cons, List.take_zero, List.append_nil, List.getElem?_cons_zero, List.getElem?_cons_succ, true_and, Bool.true_and, Bool.false_eq_true, ↓reduceIte, Nat.reduceAdd, Nat.le_refl, Nat.zero_add, loopX_exit]
          (refine callG_use hs1 rfl ?_; rintro _ rfl)
          try simp (maxSteps := 1000000) only [go_op, go_guard, opK_none, opK_some, contK_some, guardK_eq, guardV_tt, callOf, callK_eq, callJ_nil, callD_fn, fstep, fpre, fstep0, fbinA, fbin, fbin0, fload, fcell, evs, isBoolTy, T, TI.isAgg, St.ev, St.put, AV.owners, ownersAll, List.getD_cons_zero, List.getD_cons_succ, List.set, List.length_cons, List.length_nil, List.drop_zero, List.take_succ_cons, List.take_zero, List.append_nil, List.getElem?_cons_zero, List.getElem?_cons_succ, Option.bind_some, List.getElem?_toArray, true_and, Bool.true_and, ↓reduceIte, Nat.reduceAdd, Nat.le_refl, Nat.zero_add, beq_self_eq_true]
          (refine callG_use hs2 rfl ?_; rintro _ rfl)
          try simp (maxSteps := 1000000) only [go_ret, go_ops_nil, go_op, go_guard, opK_none, contK_some, guardK_eq, guardV_tt, callOf, fstep, fpre, fstep0, fbinA, fbin, fbin0, fpick, isBoolTy, T, St.ev, St.put, List.getD_cons_zero, List.getD_cons_succ, List.set, List.getElem?_cons_zero, List.getElem?_cons_succ, Option.bind_some, List.getElem?_toArray, true_and, Bool.true_and, cond_true, beq_self_eq_true]
          apply hK
          simp only [Try.results12, retK, ares, Bool.and_true, Bool.true_and, AV.ofResults, St.trunc, truncVs, truncV, List.getD_cons_zero, List.getD_cons_succ, List.take_zero, List.map_nil, true_and, and_true, List.cons.injEq, exists_eq_left']
    · rw [decide_eq_false ht]
      have hne : ¬ p = q := fun h => ht (by rw [h])
      have hi1 : false = true → p.l.length = q.l.length ∧ p.t = q.t ∧ p.l.take 0 = q.l.take 0 := fun h => by cases h
      have hi2 : false = false → ¬ p = q := fun _ => hne
      skip
      let s0 := false
      refine loopK_rule tyOk (α := Nat × Bool) 6 [3, 5, 7, 9, 12, 14, 16, 17] (fun s => s.1 ≤ p.l.length ∧ (s.2 = true → p.l.length = q.l.length ∧ p.t = q.t ∧ p.l.take s.1 = q.l.take s.1) ∧ (s.2 = false → ¬ p = q))
        (fun s => ⟨[.any, .any, .any, .ptr 0 0, .any, .ptr 1 0, .any, .ptr 2 0, .any, .ptr 3 0, .any, .any, .ptr 4 0, .any, .ptr 5 0, .any, bool s.2, i64 s.1, .any, .any, .any, .any, .any, .any, .any, .any, .any, .any, .any, .any, .any, .any, .any, .any, .any, .any, .any, .any, .any, .any, .any, .any, .any, .any, .any, .any, .any, .any, .any, .any, .any, .any, .any, .any, .any, .any, .any, .any, .any, .any, .any, .any, .any, .any, .any, .any, .any, .any, .any, .any, .any, .any, .any, .any, .any, .any, .any, .any, .any, .any, .any, .any, .any, .any, .any, .any, .any, .any, .any, .any, .any, .any, .any, .any, .any, .any, .any, .any, .any, .any, .any, .any, .any, .any, .any, .any, .any, .any, .any, .any, .any, .any, .any, .any], [.box [i64 x.kind, str x.u, i64 x.id, i64 x.st, i64 x.pr, u64 x.ttl, .sl 1 (x.us.map fun x => str x)], ebox M, ebox M, ebox C, .box [.sl 4 (avs p.l), i64 p.t.st, i64 p.t.pr, i64 p.t.n], .box [.sl 4 (avs q.l), i64 q.t.st, i64 q.t.pr, i64 q.t.n]]⟩)
        (fun s => p.l.length - s.1) (0, s0) (Nat.zero_le _) ⟨Nat.zero_le _, hi1, hi2⟩ rfl ?_
      rintro ⟨i, s⟩ ⟨hi, hs, hs'⟩
      simp only at hi hs hs'
      try simp (maxSteps := 1000000) only [go_region, go_seq, go_op, go_guard, opK_none, contK_some, guardK_eq, callOf, fstep, fpre, fstep0, fbinA, fbin, fbin0, fload, fcell, ffieldAddr, flen, T, TI.isAgg, St.ev, St.put, List.getD_cons_zero, List.getD_cons_succ, List.set, List.length_cons, List.length_nil, List.drop_zero, List.headD_cons, List.getElem?_cons_zero, List.getElem?_cons_succ, Option.bind_some, List.getElem?_toArray, true_and, Bool.true_and, Bool.false_eq_true, ↓reduceIte, reduceCtorEq, ne_eq, not_false_eq_true, Nat.reduceAdd, Nat.reduceLT, Nat.add_zero, Nat.zero_add, avs_len]
      (first | refine guardV_split ?_ ?_ | refine condK_split ?_ ?_ | refine drawV_split ?_ ?_ | refine condY_split ?_ ?_ | refine guardY_split ?_ ?_) <;> intro h3
      · cases s with
        | true =>
          obtain ⟨hpq, ht, he⟩ := hs rfl
          obtain ⟨hlt, eg, ew, c1⟩ := at_idx (by omega) h3
          obtain ⟨hlt2, eg2, _, c2⟩ := at_idx (l := q.l) (i := i) (by omega) (by rw [← hpq]; exact h3)
          try simp (maxSteps := 1000000) only [go_skip, go_seq, go_cond, go_block, go_draws, go_ops_nil, go_op, opK_none, contK_some, condK_t, guardV_tt, callOf, fstep, fpre, fstep0, fpick, St.ev, St.put, List.getD_cons_zero, List.getD_cons_succ, List.set, true_and, Bool.true_and, cond_true]
          refine draw_rule tyOk (by rfl) (by simp only [List.length_cons, List.length_nil, Nat.reduceAdd, Nat.zero_le]) (by kernel_rfl) rfl ?_
          try simp (maxSteps := 1000000) only [go_nil, go_region, go_blk, go_ops_nil, go_op, opK_none, contK_some, callOf, fstep, fpre, fstep0, fbinA, fbin, fbin0, fbinS, eqVs, eqV, kOks, kOk, fload, fcell, ffieldAddr, findexAddr, T, TI.isAgg, St.ev, St.put, AV.cells, AV.known, List.getD_cons_zero, List.getD_cons_succ, List.set, List.length_cons, List.length_nil, List.drop_zero, List.take_succ_cons, List.take_zero, List.headD_cons, List.append_nil, List.getElem?_cons_zero, List.getElem?_cons_succ, List.replicate, List.getElem?_toArray, true_and, and_true, Bool.and_true, Bool.true_and, Bool.and_self, Bool.false_eq_true, ↓reduceIte, decide_true, reduceCtorEq, ne_eq, not_false_eq_true, Nat.reduceAdd, Nat.reduceLT, Nat.le_refl, Nat.add_zero, Nat.zero_add, newCount, drawR_nil, drawR_op, drawP_none, drawQ_some, dstep, isFree, St.app, bump, isNew, eqc91, eg, eg2, c1, c2, avs_len]
          refine ⟨by kernel_rfl, ?_⟩
          try simp (maxSteps := 1000000) only [ses_beq, ew]
          simp only [loopX_normal, St.trunc, St.keep, truncVs, truncV, AB.trunc, keepV, List.elem_cons, List.elem_nil, List.take_succ_cons, List.take_zero, List.map_cons, List.map_nil, Nat.reduceAdd, Nat.reduceBEq, Nat.reduceLeDiff, Nat.zero_add, Bool.false_eq_true, ↓reduceIte]
          refine ⟨(i + 1, decide (p.l[i] = q.l[i])), ⟨hlt, fun h => ⟨hpq, ht, (take_same hlt hlt2).2 ⟨he, by simpa using h⟩⟩, fun h => ?_⟩, by simp only; omega, rfl⟩
          rintro rfl
          simp at h
        | false =>
          rw [decide_eq_false (hs' rfl)] at hs1 hs2
          try simp (maxSteps := 1000000) only [go_region, go_seq, go_cond, go_exit, exitK_code, exitK_blk, exitK_nil, go_ops_nil, go_op, opK_none, opK_some, contK_some, condK_f, guardV_tt, callOf, callK_eq, callJ_nil, callD_fn, fstep, fpre, fstep0, fload, fcell, evs, fpick, T, TI.isAgg, St.ev, St.put, AV.owners, ownersAll, List.getD_cons_zero, List.getD_cons_succ, List.set, List.length_cons, List.length_nil, List.drop_zero, List.take_succ_cons, List.take_zero, List.append_nil, List.getElem?_cons_zero, List.getElem?_cons_succ, true_and, Bool.true_and, ↓reduceIte, Nat.reduceAdd, Nat.le_refl, Nat.zero_add, cond_true, loopX_exit]
          (refine callG_use hs1 rfl ?_; rintro _ rfl)
          try simp (maxSteps := 1000000) only [go_op, go_guard, opK_none, opK_some, contK_some, guardK_eq, guardV_tt, callOf, callK_eq, callJ_nil, callD_fn, fstep, fpre, fstep0, fbinA, fbin, fbin0, fload, fcell, evs, isBoolTy, T, TI.isAgg, St.ev, St.put, AV.owners, ownersAll, List.getD_cons_zero, List.getD_cons_succ, List.set, List.length_cons, List.length_nil, List.drop_zero, List.take_succ_cons, List.take_zero, List.append_nil, List.getElem?_cons_zero, List.getElem?_cons_succ, Option.bind_some, List.getElem?_toArray, true_and, Bool.true_and, ↓reduceIte, Nat.reduceAdd, Nat.le_refl, Nat.zero_add, beq_self_eq_true]
          (refine callG_use hs2 rfl ?_; rintro _ rfl)
          try simp (maxSteps := 1000000) only [go_ret, go_ops_nil, go_op, go_guard, opK_none, contK_some, guardK_eq, guardV_tt, callOf, fstep, fpre, fstep0, fbinA, fbin, fbin0, fpick, isBoolTy, T, St.ev, St.put, List.getD_cons_zero, List.getD_cons_succ, List.set, List.getElem?_cons_zero, List.getElem?_cons_succ, Option.bind_some, List.getElem?_toArray, true_and, Bool.true_and, cond_true, beq_self_eq_true]
          apply hK
          simp only [Try.results12, retK, ares, Bool.and_true, Bool.true_and, AV.ofResults, St.trunc, truncVs, truncV, List.getD_cons_zero, List.getD_cons_succ, List.take_zero, List.map_nil, true_and, and_true, List.cons.injEq, exists_eq_left']
      · have hie := at_end hi h3
        cases s with
        | true =>
          obtain ⟨hpq, ht, he⟩ := hs rfl
          rw [hie, List.take_length, hpq, List.take_length] at he
          rw [decide_eq_true (en_eq.2 ⟨ht, he⟩)] at hs1 hs2
          try simp (maxSteps := 1000000) only [go_region, go_seq, go_cond, go_exit, exitK_code, exitK_blk, exitK_nil, go_ops_nil, go_op, opK_none, opK_some, contK_some, condK_f, guardV_ft, undef, callOf, callK_eq, callJ_nil, callD_fn, fstep, fpre, fstep0, fload, fcell, evs, fpick, T, TI.isAgg, St.ev, St.put, AV.owners, ownersAll, List.getD_cons_zero, List.getD_cons_succ, List.set, List.length_cons, List.length_nil, List.drop_zero, List.take_succ_cons, List.take_zero, List.append_nil, List.getElem?_cons_zero, List.getElem?_cons_succ, true_and, Bool.true_and, Bool.false_eq_true, ↓reduceIte, Nat.reduceAdd, Nat.le_refl, Nat.zero_add, loopX_exit]
          (refine callG_use hs1 rfl ?_; rintro _ rfl)
          try simp (maxSteps := 1000000) only [go_op, go_guard, opK_none, opK_some, contK_some, guardK_eq, guardV_tt, callOf, callK_eq, callJ_nil, callD_fn, fstep, fpre, fstep0, fbinA, fbin, fbin0, fload, fcell, evs, isBoolTy, T, TI.isAgg, St.ev, St.put, AV.owners, ownersAll, List.getD_cons_zero, List.getD_cons_succ, List.set, List.length_cons, List.length_nil, List.drop_zero, List.take_succ_cons, List.take_zero, List.append_nil, List.getElem?_cons_zero, List.getElem?_cons_succ, Option.bind_some, List.getElem?_toArray, true_and, Bool.true_and, ↓reduceIte, Nat.reduceAdd, Nat.le_refl, Nat.zero_add, beq_self_eq_true]
          (refine callG_use hs2 rfl ?_; rintro _ rfl)
          try simp (maxSteps := 1000000) only [go_ret, go_ops_nil, go_op, go_guard, opK_none, contK_some, guardK_eq, guardV_tt, callOf, fstep, fpre, fstep0, fbinA, fbin, fbin0, fpick, isBoolTy, T, St.ev, St.put, List.getD_cons_zero, List.getD_cons_succ, List.set, List.getElem?_cons_zero, List.getElem?_cons_succ, Option.bind_some, List.getElem?_toArray, true_and, Bool.true_and, cond_true, beq_self_eq_true]
          apply hK
          simp only [Try.results12, retK, ares, Bool.and_true, Bool.true_and, AV.ofResults, St.trunc, truncVs, truncV, List.getD_cons_zero, List.getD_cons_succ, List.take_zero, List.map_nil, true_and, and_true, List.cons.injEq, exists_eq_left']
        | false =>
          rw [decide_eq_false (hs' rfl)] at hs1 hs2
          try simp (maxSteps := 1000000) only [go_region, go_seq, go_cond, go_exit, exitK_code, exitK_blk, exitK_nil, go_ops_nil, go_op, opK_none, opK_some, contK_some, condK_f, guardV_ft, undef, callOf, callK_eq, callJ_nil, callD_fn, fstep, fpre, fstep0, fload, fcell, evs, fpick, T, TI.isAgg, St.ev, St.put, AV.owners, ownersAll, List.getD_cons_zero, List.getD_cons_succ, List.set, List.length_cons, List.length_nil, List.drop_zero, List.take_succ_cons, List.take_zero, List.append_nil, List.getElem?_cons_zero, List.getElem?_cons_succ, true_and, Bool.true_and, Bool.false_eq_true, ↓reduceIte, Nat.reduceAdd, Nat.le_refl, Nat.zero_add, loopX_exit]
          (refine callG_use hs1 rfl ?_; rintro _ rfl)
          try simp (maxSteps := 1000000) only [go_op, go_guard, opK_none, opK_some, contK_some, guardK_eq, guardV_tt, callOf, callK_eq, callJ_nil, callD_fn, fstep, fpre, fstep0, fbinA, fbin, fbin0, fload, fcell, evs, isBoolTy, T, TI.isAgg, St.ev, St.put, AV.owners, ownersAll, List.getD_cons_zero, List.getD_cons_succ, List.set, List.length_cons, List.length_nil, List.drop_zero, List.take_succ_cons, List.take_zero, List.append_nil, List.getElem?_cons_zero, List.getElem?_cons_succ, Option.bind_some, List.getElem?_toArray, true_and, Bool.true_and, ↓reduceIte, Nat.reduceAdd, Nat.le_refl, Nat.zero_add, beq_self_eq_true]
          (refine callG_use hs2 rfl ?_; rintro _ rfl)
          try simp (maxSteps := 1000000) only [go_ret, go_ops_nil, go_op, go_guard, opK_none, contK_some, guardK_eq, guardV_tt, callOf, fstep, fpre, fstep0, fbinA, fbin, fbin0, fpick, isBoolTy, T, St.ev, St.put, List.getD_cons_zero, List.getD_cons_succ, List.set, List.getElem?_cons_zero, List.getElem?_cons_succ, Option.bind_some, List.getElem?_toArray, true_and, Bool.true_and, cond_true, beq_self_eq_true]
          apply hK
          simp only [Try.results12, retK, ares, Bool.and_true, Bool.true_and, AV.ofResults, St.trunc, truncVs, truncV, List.getD_cons_zero, List.getD_cons_succ, List.take_zero, List.map_nil, true_and, and_true, List.cons.injEq, exists_eq_left']
  · have hne : ¬ p = q := by
      rintro rfl
      simp at h2
    have hi1 : false = true → p.l.length = q.l.length ∧ p.t = q.t ∧ p.l.take 0 = q.l.take 0 := fun h => by cases h
    have hi2 : false = false → ¬ p = q := fun _ => hne
    try simp (maxSteps := 1000000) only [go_region, go_seq, go_block, go_loop, go_ops_nil, go_op, go_guard, opK_none, contK_some, guardK_eq, guardV_ft, undef, callOf, fstep, fpre, fstep0, fpick, St.ev, St.put, List.getD_cons_zero, List.getD_cons_succ, List.set, List.getElem?_cons_zero, List.getElem?_cons_succ, Option.bind_some, List.getElem?_toArray, true_and, Bool.true_and, Bool.false_eq_true, ↓reduceIte]
    let s0 := false
    refine loopK_rule tyOk (α := Nat × Bool) 6 [3, 5, 7, 9, 12, 14, 16, 17] (fun s => s.1 ≤ p.l.length ∧ (s.2 = true → p.l.length = q.l.length ∧ p.t = q.t ∧ p.l.take s.1 = q.l.take s.1) ∧ (s.2 = false → ¬ p = q))
      (fun s => ⟨[.any, .any, .any, .ptr 0 0, .any, .ptr 1 0, .any, .ptr 2 0, .any, .ptr 3 0, .any, .any, .ptr 4 0, .any, .ptr 5 0, .any, bool s.2, i64 s.1, .any, .any, .any, .any, .any, .any, .any, .any, .any, .any, .any, .any, .any, .any, .any, .any, .any, .any, .any, .any, .any, .any, .any, .any, .any, .any, .any, .any, .any, .any, .any, .any, .any, .any, .any, .any, .any, .any, .any, .any, .any, .any, .any, .any, .any, .any, .any, .any, .any, .any, .any, .any, .any, .any, .any, .any, .any, .any, .any, .any, .any, .any, .any, .any, .any, .any, .any, .any, .any, .any, .any, .any, .any, .any, .any, .any, .any, .any, .any, .any, .any, .any, .any, .any, .any, .any, .any, .any, .any, .any, .any, .any, .any, .any, .any, .any], [.box [i64 x.kind, str x.u, i64 x.id, i64 x.st, i64 x.pr, u64 x.ttl, .sl 1 (x.us.map fun x => str x)], ebox M, ebox M, ebox C, .box [.sl 4 (avs p.l), i64 p.t.st, i64 p.t.pr, i64 p.t.n], .box [.sl 4 (avs q.l), i64 q.t.st, i64 q.t.pr, i64 q.t.n]]⟩)
      (fun s => p.l.length - s.1) (0, s0) (Nat.zero_le _) ⟨Nat.zero_le _, hi1, hi2⟩ rfl ?_
    rintro ⟨i, s⟩ ⟨hi, hs, hs'⟩
    simp only at hi hs hs'
    try simp (maxSteps := 1000000) only [go_region, go_seq, go_op, go_guard, opK_none, contK_some, guardK_eq, callOf, fstep, fpre, fstep0, fbinA, fbin, fbin0, fload, fcell, ffieldAddr, flen, T, TI.isAgg, St.ev, St.put, List.getD_cons_zero, List.getD_cons_succ, List.set, List.length_cons, List.length_nil, List.drop_zero, List.headD_cons, List.getElem?_cons_zero, List.getElem?_cons_succ, Option.bind_some, List.getElem?_toArray, true_and, Bool.true_and, Bool.false_eq_true, ↓reduceIte, reduceCtorEq, ne_eq, not_false_eq_true, Nat.reduceAdd, Nat.reduceLT, Nat.add_zero, Nat.zero_add, avs_len]
    (first | refine guardV_split ?_ ?_ | refine condK_split ?_ ?_ | refine drawV_split ?_ ?_ | refine condY_split ?_ ?_ | refine guardY_split ?_ ?_) <;> intro h3
    · cases s with
      | true =>
        obtain ⟨hpq, ht, he⟩ := hs rfl
        obtain ⟨hlt, eg, ew, c1⟩ := at_idx (by omega) h3
        obtain ⟨hlt2, eg2, _, c2⟩ := at_idx (l := q.l) (i := i) (by omega) (by rw [← hpq]; exact h3)
        try simp (maxSteps := 1000000) only [go_skip, go_seq, go_cond, go_block, go_draws, go_ops_nil, go_op, opK_none, contK_some, condK_t, guardV_tt, callOf, fstep, fpre, fstep0, fpick, St.ev, St.put, List.getD_cons_zero, List.getD_cons_succ, List.set, true_and, Bool.true_and, cond_true]
        refine draw_rule tyOk (by rfl) (by simp only [List.length_cons, List.length_nil, Nat.reduceAdd, Nat.zero_le]) (by kernel_rfl) rfl ?_
        try simp (maxSteps := 1000000) only [go_nil, go_region, go_blk, go_ops_nil, go_op, opK_none, contK_some, callOf, fstep, fpre, fstep0, fbinA, fbin, fbin0, fbinS, eqVs, eqV, kOks, kOk, fload, fcell, ffieldAddr, findexAddr, T, TI.isAgg, St.ev, St.put, AV.cells, AV.known, List.getD_cons_zero, List.getD_cons_succ, List.set, List.length_cons, List.length_nil, List.drop_zero, List.take_succ_cons, List.take_zero, List.headD_cons, List.append_nil, List.getElem?_cons_zero, List.getElem?_cons_succ, List.replicate, List.getElem?_toArray, true_and, and_true, Bool.and_true, Bool.true_and, Bool.and_self, Bool.false_eq_true, ↓reduceIte, decide_true, reduceCtorEq, ne_eq, not_false_eq_true, Nat.reduceAdd, Nat.reduceLT, Nat.le_refl, Nat.add_zero, Nat.zero_add, newCount, drawR_nil, drawR_op, drawP_none, drawQ_some, dstep, isFree, St.app, bump, isNew, eqc91, eg, eg2, c1, c2, avs_len]
        refine ⟨by kernel_rfl, ?_⟩
        try simp (maxSteps := 1000000) only [ses_beq, ew]
        simp only [loopX_normal, St.trunc, St.keep, truncVs, truncV, AB.trunc, keepV, List.elem_cons, List.elem_nil, List.take_succ_cons, List.take_zero, List.map_cons, List.map_nil, Nat.reduceAdd, Nat.reduceBEq, Nat.reduceLeDiff, Nat.zero_add, Bool.false_eq_true, ↓reduceIte]
        refine ⟨(i + 1, decide (p.l[i] = q.l[i])), ⟨hlt, fun h => ⟨hpq, ht, (take_same hlt hlt2).2 ⟨he, by simpa using h⟩⟩, fun h => ?_⟩, by simp only; omega, rfl⟩
        rintro rfl
        simp at h
      | false =>
        rw [decide_eq_false (hs' rfl)] at hs1 hs2
        try simp (maxSteps := 1000000) only [go_region, go_seq, go_cond, go_exit, exitK_code, exitK_blk, exitK_nil, go_ops_nil, go_op, opK_none, opK_some, contK_some, condK_f, guardV_tt, callOf, callK_eq, callJ_nil, callD_fn, fstep, fpre, fstep0, fload, fcell, evs, fpick, T, TI.isAgg, St.ev, St.put, AV.owners, ownersAll, List.getD_cons_zero, List.getD_cons_succ, List.set, List.length_cons, List.length_nil, List.drop_zero, List.take_succ_cons, List.take_zero, List.append_nil, List.getElem?_cons_zero, List.getElem?_cons_succ, true_and, Bool.true_and, ↓reduceIte, Nat.reduceAdd, Nat.le_refl, Nat.zero_add, cond_true, loopX_exit]
        (refine callG_use hs1 rfl ?_; rintro _ rfl)
        try simp (maxSteps := 1000000) only [go_op, go_guard, opK_none, opK_some, contK_some, guardK_eq, guardV_tt, callOf, callK_eq, callJ_nil, callD_fn, fstep, fpre, fstep0, fbinA, fbin, fbin0, fload, fcell, evs, isBoolTy, T, TI.isAgg, St.ev, St.put, AV.owners, ownersAll, List.getD_cons_zero, List.getD_cons_succ, List.set, List.length_cons, List.length_nil, List.drop_zero, List.take_succ_cons, List.take_zero, List.append_nil, List.getElem?_cons_zero, List.getElem?_cons_succ, Option.bind_some, List.getElem?_toArray, true_and, Bool.true_and, ↓reduceIte, Nat.reduceAdd, Nat.le_refl, Nat.zero_add, beq_self_eq_true]
        (refine callG_use hs2 rfl ?_; rintro _ rfl)
        try simp (maxSteps := 1000000) only [go_ret, go_ops_nil, go_op, go_guard, opK_none, contK_some, guardK_eq, guardV_tt, callOf, fstep, fpre, fstep0, fbinA, fbin, fbin0, fpick, isBoolTy, T, St.ev, St.put, List.getD_cons_zero, List.getD_cons_succ, List.set, List.getElem?_cons_zero, List.getElem?_cons_succ, Option.bind_some, List.getElem?_toArray, true_and, Bool.true_and, cond_true, beq_self_eq_true]
        apply hK
        simp only [Try.results12, retK, ares, Bool.and_true, Bool.true_and, AV.ofResults, St.trunc, truncVs, truncV, List.getD_cons_zero, List.getD_cons_succ, List.take_zero, List.map_nil, true_and, and_true, List.cons.injEq, exists_eq_left']
    · have hie := at_end hi h3
      cases s with
      | true =>
        obtain ⟨hpq, ht, he⟩ := hs rfl
        rw [hie, List.take_length, hpq, List.take_length] at he
        rw [decide_eq_true (en_eq.2 ⟨ht, he⟩)] at hs1 hs2
        try simp (maxSteps := 1000000) only [go_region, go_seq, go_cond, go_exit, exitK_code, exitK_blk, exitK_nil, go_ops_nil, go_op, opK_none, opK_some, contK_some, condK_f, guardV_ft, undef, callOf, callK_eq, callJ_nil, callD_fn, fstep, fpre, fstep0, fload, fcell, evs, fpick, T, TI.isAgg, St.ev, St.put, AV.owners, ownersAll, List.getD_cons_zero, List.getD_cons_succ, List.set, List.length_cons, List.length_nil, List.drop_zero, List.take_succ_cons, List.take_zero, List.append_nil, List.getElem?_cons_zero, List.getElem?_cons_succ, true_and, Bool.true_and, Bool.false_eq_true, ↓reduceIte, Nat.reduceAdd, Nat.le_refl, Nat.zero_add, loopX_exit]
        (refine callG_use hs1 rfl ?_; rintro _ rfl)
        try simp (maxSteps := 1000000) only [go_op, go_guard, opK_none, opK_some, contK_some, guardK_eq, guardV_tt, callOf, callK_eq, callJ_nil, callD_fn, fstep, fpre, fstep0, fbinA, fbin, fbin0, fload, fcell, evs, isBoolTy, T, TI.isAgg, St.ev, St.put, AV.owners, ownersAll, List.getD_cons_zero, List.getD_cons_succ, List.set, List.length_cons, List.length_nil, List.drop_zero, List.take_succ_cons, List.take_zero, List.append_nil, List.getElem?_cons_zero, List.getElem?_cons_succ, Option.bind_some, List.getElem?_toArray, true_and, Bool.true_and, ↓reduceIte, Nat.reduceAdd, Nat.le_refl, Nat.zero_add, beq_self_eq_true]
        (refine callG_use hs2 rfl ?_; rintro _ rfl)
        try simp (maxSteps := 1000000) only [go_ret, go_ops_nil, go_op, go_guard, opK_none, contK_some, guardK_eq, guardV_tt, callOf, fstep, fpre, fstep0, fbinA, fbin, fbin0, fpick, isBoolTy, T, St.ev, St.put, List.getD_cons_zero, List.getD_cons_succ, List.set, List.getElem?_cons_zero, List.getElem?_cons_succ, Option.bind_some, List.getElem?_toArray, true_and, Bool.true_and, cond_true, beq_self_eq_true]
        apply hK
        simp only [Try.results12, retK, ares, Bool.and_true, Bool.true_and, AV.ofResults, St.trunc, truncVs, truncV, List.getD_cons_zero, List.getD_cons_succ, List.take_zero, List.map_nil, true_and, and_true, List.cons.injEq, exists_eq_left']
      | false =>
        rw [decide_eq_false (hs' rfl)] at hs1 hs2
        try simp (maxSteps := 1000000) only [go_region, go_seq, go_cond, go_exit, exitK_code, exitK_blk, exitK_nil, go_ops_nil, go_op, opK_none, opK_some, contK_some, condK_f, guardV_ft, undef, callOf, callK_eq, callJ_nil, callD_fn, fstep, fpre, fstep0, fload, fcell, evs, fpick, T, TI.isAgg, St.ev, St.put, AV.owners, ownersAll, List.getD_cons_zero, List.getD_cons_succ, List.set, List.length_cons, List.length_nil, List.drop_zero, List.take_succ_cons, List.take_zero, List.append_nil, List.getElem?_cons_zero, List.getElem?_cons_succ, true_and, Bool.true_and, Bool.false_eq_true, ↓reduceIte, Nat.reduceAdd, Nat.le_refl, Nat.zero_add, loopX_exit]
        (refine callG_use hs1 rfl ?_; rintro _ rfl)
        try simp (maxSteps := 1000000) only [go_op, go_guard, opK_none, opK_some, contK_some, guardK_eq, guardV_tt, callOf, callK_eq, callJ_nil, callD_fn, fstep, fpre, fstep0, fbinA, fbin, fbin0, fload, fcell, evs, isBoolTy, T, TI.isAgg, St.ev, St.put, AV.owners, ownersAll, List.getD_cons_zero, List.getD_cons_succ, List.set, List.length_cons, List.length_nil, List.drop_zero, List.take_succ_cons, List.take_zero, List.append_nil, List.getElem?_cons_zero, List.getElem?_cons_succ, Option.bind_some, List.getElem?_toArray, true_and, Bool.true_and, ↓reduceIte, Nat.reduceAdd, Nat.le_refl, Nat.zero_add, beq_self_eq_true]
        (refine callG_use hs2 rfl ?_; rintro _ rfl)
        try simp (maxSteps := 1000000) only [go_ret, go_ops_nil, go_op, go_guard, opK_none, contK_some, guardK_eq, guardV_tt, callOf, fstep, fpre, fstep0, fbinA, fbin, fbin0, fpick, isBoolTy, T, St.ev, St.put, List.getD_cons_zero, List.getD_cons_succ, List.set, List.getElem?_cons_zero, List.getElem?_cons_succ, Option.bind_some, List.getElem?_toArray, true_and, Bool.true_and, cond_true, beq_self_eq_true]
        apply hK
        simp only [Try.results12, retK, ares, Bool.and_true, Bool.true_and, AV.ofResults, St.trunc, truncVs, truncV, List.getD_cons_zero, List.getD_cons_succ, List.take_zero, List.map_nil, true_and, and_true, List.cons.injEq, exists_eq_left']
def shapesBookSame : List (Bool × List Lf) := [(false, [.sl 9 true [.bool, .int .i64, .str, .int .i64, .int .i64, .int .i64, .int .u64, .sl 1 false [.str], .int .u64]]), (true, [.int .i64, .str, .int .i64, .int .i64, .int .i64, .int .u64, .sl 1 false [.str]])]
theorem shapesBookSame_ok : argShapes T 6 [65, 73] = some shapesBookSame := by kernel_rfl
theorem law_BookSame (xs : List AV) (h : argsFit shapesBookSame xs) : PCall P 12 xs (fun x => x = .v (.bool true)) := by
  obtain ⟨_, _, rfl, ⟨_, _, rfl, ⟨ys, rfl, hlen, hys⟩, rfl⟩, x, _, rfl, hx, rfl⟩ := h
  obtain ⟨l, rfl, hby⟩ := fits_bacts2 hys
  obtain ⟨o, ho, ht⟩ := fits_op2 hx
  rw [bacts_len] at hlen
  have := law_same l o hlen
  rw [← ho] at this
  exact this
end Go.Proofs.Ytljgfapbbhbbpaa
