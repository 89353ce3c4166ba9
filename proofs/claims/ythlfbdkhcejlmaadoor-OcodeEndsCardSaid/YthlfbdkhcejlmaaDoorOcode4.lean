/- Scripts, as the document reads them. -/
import Derived.Test.YthlfbdkhcejlmaaDoorOcode3
namespace Go.Proofs.YthlfbdkhcejlmaaDoor
open Go Go.Proofs.YthlfbdkhcejlmaaDoor.Sym
set_option maxRecDepth 100000
set_option linter.unusedSimpArgs false
set_option linter.unusedVariables false

theorem opAt_bd {l : List Int} (hb : Bytes l) (q : Nat) : (opAt l q).2 ≤ q + 12 := by
  simp only [opAt]
  have := (rem_wrap (rd_bd hb (q + 2)).1 (show (0 : Int) < 10 by decide) (by decide))
  split
  · simp
  · split
    · simp
    · split
      · simp
      · split
        · simp only; generalize (rd l (q + 2)).tmod 10 = z at this; omega
        · simp
theorem opsF_bd {l : List Int} (hb : Bytes l) (q : Nat) : ∀ i, (opsF l q i).2 ≤ q + 12 * i
  | 0 => Nat.le_refl _
  | i + 1 => by
    have h1 := opsF_bd hb q i
    have h2 := opAt_bd hb (opsF l q i).2
    rw [opsF]
    simp only
    omega
theorem many_bd {l : List Int} (hb : Bytes l) (q : Nat) : manyOps l q ≤ 40 := by
  obtain ⟨n, hn, h⟩ := rd_mod hb q (m := 41) (by decide) (by decide)
  rw [manyOps, hn, Int.toNat_natCast]; omega
theorem clientsF_bd {l : List Int} (hb : Bytes l) (q : Nat) : ∀ i, (clientsF l q i).2 ≤ q + 500 * i
  | 0 => Nat.le_refl _
  | i + 1 => by
    have h1 := clientsF_bd hb q i
    have h2 := opsF_bd hb ((clientsF l q i).2 + 1) (manyOps l (clientsF l q i).2)
    have h3 := many_bd hb (clientsF l q i).2
    rw [clientsF]
    simp only
    omega

/-- The document's index into bytes. -/
theorem at_k {l : List Int} (hl : l.length < 9223372036854775807) (hb : Bytes l) (q : Nat) (x : Int) (h : x = q) : PCall P 24 [.sl 1 (bav l), i64 x] (fun x => x = i64 (rd l q)) := by
  subst h; exact ref12_at l q hl hb
theorem wrap_nat {n : Int} {m : Nat} (h : n = m) (h1 : m < 9223372036854775808) : IntKind.i64.wrap n = (m : Int) := by
  rw [wrap_i64 (by omega) (by omega), h]

theorem opav_weak (k : Int) (u : ByteArray) (a b c d : Int) : Sym.weak (.agg [i64 k, str u, i64 a, i64 b, i64 c, u64 d, .v (.slice none 0 0)]) (Opn.av ⟨k, u, a, b, c, d, []⟩) :=
  .inr ⟨_, rfl, _, _, rfl, weak_refl _, _, _, rfl, weak_refl _, _, _, rfl, weak_refl _, _, _, rfl, weak_refl _, _, _, rfl, weak_refl _, _, _, rfl, weak_refl _, _, _, rfl, weak_nil 1, rfl⟩

set_option maxHeartbeats 2000000 in
theorem ref12_Read (l : List Int) (hl : l.length ≤ 60000) (hb : Bytes l) : PCall P 12 [.sl 1 (bav l)] (fun x => x = (readF l).av) := by
  refine pcall_go tyOk Tryd.func12 rfl rfl ?_
  intro K hK
  simp only [Tryd.ntmps12, List.length_cons, List.length_nil, Nat.reduceAdd, Nat.reduceSub, List.replicate, List.cons_append, List.nil_append]
  have hl' : l.length < 9223372036854775807 := by omega
  have m0 := rem_wrap (rd_bd hb 0).1 (show (0 : Int) < 8 by decide) (by decide)
  have m1 := rem_wrap (rd_bd hb 1).1 (show (0 : Int) < 8 by decide) (by decide)
  have m2 := rem_wrap (rd_bd hb 2).1 (show (0 : Int) < 16 by decide) (by decide)
  have m3 := rem_wrap (rd_bd hb 3).1 (show (0 : Int) < 8 by decide) (by decide)
  have w0 : IntKind.i64.wrap (1 + (rd l 0).tmod 8) = 1 + (rd l 0).tmod 8 := by generalize (rd l 0).tmod 8 = z at m0; exact wrap_i64 (by omega) (by omega)
  have w1 : IntKind.i64.wrap (1 + (rd l 1).tmod 8) = 1 + (rd l 1).tmod 8 := by generalize (rd l 1).tmod 8 = z at m1; exact wrap_i64 (by omega) (by omega)
  have w2 : IntKind.i64.wrap (1 + (rd l 2).tmod 16) = 1 + (rd l 2).tmod 16 := by generalize (rd l 2).tmod 16 = z at m2; exact wrap_i64 (by omega) (by omega)
  have w3 : IntKind.i64.wrap (1 + (rd l 3).tmod 8) = 1 + (rd l 3).tmod 8 := by generalize (rd l 3).tmod 8 = z at m3; exact wrap_i64 (by omega) (by omega)
  have e5 : IntKind.u64.wrap (rd l 5) = rd l 5 := by have := rd_bd hb 5; exact wrap_u64 this.1 (by omega)
  clear m0 m1 m2 m3
  try simp (maxSteps := 1000000) only [go_region, go_seq, go_ops_nil, go_op, opK_none, opK_some, contK_some, callOf, callK_eq, callJ_nil, callD_fn, fstep, fpre, fstep0, evs, T, St.ev, St.put, AV.owners, ownersAll, List.getD_cons_zero, List.getD_cons_succ, List.set, List.map_cons, List.map_nil, List.length_nil, List.nil_append, List.append_nil, true_and, Bool.true_and]
  (refine callG_use (at_k hl' hb 0 _ rfl) rfl ?_; rintro _ rfl)
  try simp (maxSteps := 1000000) only [go_op, opK_none, opK_some, contK_some, callOf, callK_eq, callJ_nil, callD_fn, fstep, fpre, fstep0, fbinA, fbin, fbin0, evs, St.ev, St.put, AV.owners, ownersAll, List.getD_cons_zero, List.getD_cons_succ, List.set, List.append_nil, true_and, and_true, Bool.and_true, Bool.true_and, ne_eq, not_false_eq_true, Int.reduceEq, w0]
  (refine callG_use (at_k hl' hb 1 _ rfl) rfl ?_; rintro _ rfl)
  try simp (maxSteps := 1000000) only [go_op, opK_none, opK_some, contK_some, callOf, callK_eq, callJ_nil, callD_fn, fstep, fpre, fstep0, fbinA, fbin, fbin0, evs, St.ev, St.put, AV.owners, ownersAll, List.getD_cons_zero, List.getD_cons_succ, List.set, List.append_nil, true_and, and_true, Bool.and_true, Bool.true_and, ne_eq, not_false_eq_true, Int.reduceEq, w1]
  (refine callG_use (at_k hl' hb 2 _ rfl) rfl ?_; rintro _ rfl)
  try simp (maxSteps := 1000000) only [go_op, opK_none, opK_some, contK_some, callOf, callK_eq, callJ_nil, callD_fn, fstep, fpre, fstep0, fbinA, fbin, fbin0, evs, St.ev, St.put, AV.owners, ownersAll, List.getD_cons_zero, List.getD_cons_succ, List.set, List.append_nil, true_and, and_true, Bool.and_true, Bool.true_and, ne_eq, not_false_eq_true, Int.reduceEq, w2]
  (refine callG_use (at_k hl' hb 3 _ rfl) rfl ?_; rintro _ rfl)
  try simp (maxSteps := 1000000) only [go_op, opK_none, opK_some, contK_some, callOf, callK_eq, callJ_nil, callD_fn, fstep, fpre, fstep0, fbinA, fbin, fbin0, evs, St.ev, St.put, AV.owners, ownersAll, List.getD_cons_zero, List.getD_cons_succ, List.set, List.append_nil, true_and, and_true, Bool.and_true, Bool.true_and, ne_eq, not_false_eq_true, Int.reduceEq, w3]
  (refine callG_use (at_k hl' hb 4 _ rfl) rfl ?_; rintro _ rfl)
  try simp (maxSteps := 1000000) only [go_op, opK_none, opK_some, contK_some, callOf, callK_eq, callJ_nil, callD_fn, fstep, fpre, fstep0, fbinA, fbin, fbin0, evs, St.ev, St.put, AV.owners, ownersAll, List.getD_cons_zero, List.getD_cons_succ, List.set, List.append_nil, true_and, and_true, Bool.and_true, Bool.true_and, ne_eq, not_false_eq_true, Int.reduceEq]
  (refine callG_use (at_k hl' hb 5 _ rfl) rfl ?_; rintro _ rfl)
  try simp (maxSteps := 1000000) only [go_op, opK_none, opK_some, contK_some, callOf, callK_eq, callJ_nil, callD_fn, fstep, fpre, fstep0, fconvA, fconvert, evs, T, St.ev, St.put, AV.owners, ownersAll, List.getD_cons_zero, List.getD_cons_succ, List.set, List.append_nil, true_and, Bool.true_and, e5]
  (refine callG_use (at_k hl' hb 6 _ rfl) rfl ?_; rintro _ rfl)
  try simp (maxSteps := 1000000) only [go_op, opK_some, callOf, callK_eq, callJ_nil, callD_fn, evs, St.ev, St.put, AV.owners, ownersAll, List.getD_cons_zero, List.getD_cons_succ, List.set, List.append_nil]
  (refine callG_use (ref12_Long _ (rd_bd hb 6)) rfl ?_; rintro _ rfl)
  try simp (maxSteps := 1000000) only [go_region, go_seq, go_ops_nil, go_op, opK_none, opK_some, contK_some, callOf, callK_eq, callJ_nil, callD_fn, fstep, fpre, fstep0, fstore, ffill, fieldPlaces, fieldsOk, fbuild, evParts, evs, T, St.ev, St.put, splice, AV.cells, AV.known, AV.flat, AV.owners, ownersAll, Value.cells, Value.oneCell', List.getD_cons_zero, List.getD_cons_succ, List.set, List.map_cons, List.map_nil, List.length_cons, List.length_nil, List.all_cons, List.all_nil, List.drop_succ_cons, List.drop_zero, List.take_succ_cons, List.take_zero, List.cons_append, List.nil_append, List.append_nil, List.getElem?_cons_zero, List.getElem?_cons_succ, Option.isSome_some, List.getElem?_toArray, true_and, and_true, Bool.and_true, Bool.true_and, Bool.and_self, Nat.reduceAdd, Nat.reduceLeDiff, Nat.le_refl, Nat.zero_add]
  (refine callG_use (at_k hl' hb 7 _ rfl) rfl ?_; rintro _ rfl)
  obtain ⟨c, hc, hc8⟩ := rd_mod hb 7 (m := 8) (by decide) (by decide)
  have w7 : IntKind.i64.wrap (1 + (c : Int)) = ((1 + c : Nat) : Int) := by rw [wrap_i64 (by omega) (by omega)]; omega
  try simp (maxSteps := 1000000) only [go_block, go_loop, go_ops_nil, go_op, opK_none, contK_some, callOf, fstep, fpre, fstep0, fbinA, fbin, fbin0, St.ev, St.put, List.getD_cons_zero, List.getD_cons_succ, List.set, true_and, and_true, Bool.and_true, Bool.true_and, ne_eq, not_false_eq_true, Int.reduceEq, hc, w7]
  obtain ⟨C, hC⟩ : ∃ C : Nat, C = 1 + c := ⟨_, rfl⟩
  have hC8 : C ≤ 8 := by omega
  have hread : readF l = ⟨1 + (rd l 0).tmod 8, 1 + (rd l 1).tmod 8, 1 + (rd l 2).tmod 16, 1 + (rd l 3).tmod 8, (rd l 4).tmod 5, rd l 5, lng (rd l 6), (clientsF l 8 C).1, picksF l (clientsF l 8 C).2 (nPicks l (clientsF l 8 C).2)⟩ := by
    rw [readF, hc, Int.zero_add, show (1 + (c : Int)).toNat = C by omega]
  rw [← hC]
  refine loopK_turn (Turns.adoptIn (b := 1) (c := 7) 41 1 rfl rfl) ?_
  refine loopK_rule tyOk (α := Nat) 3 [0, 2, 3, 4, 5] (fun i => i ≤ C)
    (fun i => ⟨[.sl 1 (bav l), .any, .ptr 0 0, .ptr 1 0, i64 ((clientsF l 8 i).2 : Nat), i64 ((C : Int) - (i : Int)), .any, .any, .any, .any, .any, .any, .any, .any, .any, .any, .any, .any, .any, .any, .any, .any, .any, .any, .any, .any, .any, .any, .any, .any, .any, .any, .any, .any, .any, .any, .any, .any, .any, .any, .any, .any, .any, .any, .any, .any, .any, .any, .any, .any, .any, .any, .any, .any, .any, .any, .any, .any, .any, .any, .any, .any, .any, .any, .any, .any, .any, .any, .any, .any, .any, .any, .any, .any, .any, .any, .any, .any, .any, .any, .any, .any, .any, .any, .any, .any, .any, .any, .any, .any, .any, .any, .any, .any, .any, .any, .any, .any, .any, .any, .any, .any, .any, .any, .any, .any, .any, .any, .any, .any, .any, .any, .any, .any, .any, .any, .any, .any, .any, .any, .any, .any, .any, .any, .any, .any, .any, .any, .any, .any, .any, .any, .any, .any, .any, .any, .any, .any, .any, .any, .any, .any, .any, .any, .any, .any, .any, .any, .any, .any, .any, .any, .any, .any, .any, .any, .any, .any, .any, .any, .any, .any, .any, .any, .any, .any, .any, .any, .any, .any, .any, .any, .any, .any, .any, .any, .any, .any, .any, .any, .any, .any, .any], [.box [i64 0, i64 0, i64 0, i64 0, i64 0, u64 0, u64 0, .v (.slice none 0 0), .v (.slice none 0 0)],
      .box [i64 (1 + (rd l 0).tmod 8), i64 (1 + (rd l 1).tmod 8), i64 (1 + (rd l 2).tmod 16), i64 (1 + (rd l 3).tmod 8), i64 ((rd l 4).tmod 5), u64 (rd l 5), u64 (lng (rd l 6)), .own 2 1 0 i, .v (.slice none 0 0)],
      .row 41 1 ((clientsF l 8 i).1.map opav)]⟩)
    (fun i => C - i) 0 (Nat.zero_le _) (Nat.zero_le _) (by rw [show (C : Int) - ((0 : Nat) : Int) = (C : Int) by omega]; rfl) ?_
  intro i hi
  try simp (maxSteps := 1000000) only [go_region, go_seq, go_cond, go_ops_nil, go_op, opK_none, contK_some, callOf, fstep, fpre, fstep0, fbinA, fbin, fbin0, St.ev, St.put, List.getD_cons_zero, List.getD_cons_succ, List.set, true_and, Bool.true_and]
  (first | refine guardV_split ?_ ?_ | refine condK_split ?_ ?_ | refine drawV_split ?_ ?_ | refine condY_split ?_ ?_ | refine guardY_split ?_ ?_) <;> intro h <;> try simp (maxSteps := 1000000) only [go_skip, go_region, go_seq, go_block, go_exit, go_loop, exitK_code, exitK_blk, exitK_nil, go_ops_nil, go_op, opK_none, opK_some, contK_some, condK_t, condK_f, callOf, callK_eq, callJ_nil, callD_fn, fstep, fpre, fstep0, evs, St.ev, St.put, AV.owners, ownersAll, List.getD_cons_zero, List.getD_cons_succ, List.set, List.append_nil, true_and, Bool.true_and, ↓reduceIte, loopX_exit]
  · have hlt : i < C := by have : (0 : Int) < (C : Int) - (i : Int) := by simpa using h
                           omega
    have ewi : IntKind.i64.wrap ((C : Int) - (i : Int) - 1) = (C : Int) - ((i + 1 : Nat) : Int) := by rw [wrap_i64 (by omega) (by omega)]; omega
    have hcl := clientsF_len l 8 i
    have hqb := clientsF_bd hb 8 i
    have hnx : clientsF l 8 (i + 1) = ((clientsF l 8 i).1 ++ [(opsF l ((clientsF l 8 i).2 + 1) (manyOps l (clientsF l 8 i).2)).1], (opsF l ((clientsF l 8 i).2 + 1) (manyOps l (clientsF l 8 i).2)).2) := rfl
    generalize clientsF l 8 i = cl at hcl hnx hqb
    obtain ⟨cs, q⟩ := cl
    simp only at hcl hnx hqb
    (refine callG_use (ref12_at l q hl' hb) rfl ?_; rintro _ rfl)
    obtain ⟨n, hn, hn41⟩ := rd_mod hb q (m := 41) (by decide) (by decide)
    have hmany : manyOps l q = n := by rw [manyOps, hn, Int.toNat_natCast]
    rw [hmany] at hnx
    have wq : IntKind.i64.wrap ((q : Int) + 1) = ((q + 1 : Nat) : Int) := wrap_nat (by omega) (by omega)
    try simp (maxSteps := 1000000) only [go_region, go_seq, go_block, go_loop, go_ops_nil, go_op, opK_none, contK_some, callOf, fstep, fpre, fstep0, fbinA, fbin, fbin0, St.ev, St.put, List.getD_cons_zero, List.getD_cons_succ, List.set, true_and, and_true, Bool.and_true, Bool.true_and, ne_eq, not_false_eq_true, Int.reduceEq, hn, wq]
    refine loopK_turn (Turns.adopt (i := 6) 45 7 rfl) ?_
    refine loopK_ruleT tyOk (α := Nat) 4 [0, 2, 3, 4, 5, 6, 7, 8] (fun j => j ≤ n)
      (fun j => ⟨[.sl 1 (bav l), .any, .ptr 0 0, .ptr 1 0, i64 ((opsF l (q + 1) j).2 : Nat), i64 ((C : Int) - (i : Int)), .own 3 7 0 j, i64 n, i64 j, .any, .any, .any, .any, .any, .any, .any, .any, .any, .any, .any, .any, .any, .any, .any, .any, .any, .any, .any, .any, .any, .any, .any, .any, .any, .any, .any, .any, .any, .any, .any, .any, .any, .any, .any, .any, .any, .any, .any, .any, .any, .any, .any, .any, .any, .any, .any, .any, .any, .any, .any, .any, .any, .any, .any, .any, .any, .any, .any, .any, .any, .any, .any, .any, .any, .any, .any, .any, .any, .any, .any, .any, .any, .any, .any, .any, .any, .any, .any, .any, .any, .any, .any, .any, .any, .any, .any, .any, .any, .any, .any, .any, .any, .any, .any, .any, .any, .any, .any, .any, .any, .any, .any, .any, .any, .any, .any, .any, .any, .any, .any, .any, .any, .any, .any, .any, .any, .any, .any, .any, .any, .any, .any, .any, .any, .any, .any, .any, .any, .any, .any, .any, .any, .any, .any, .any, .any, .any, .any, .any, .any, .any, .any, .any, .any, .any, .any, .any, .any, .any, .any, .any, .any, .any, .any, .any, .any, .any, .any, .any, .any, .any, .any, .any, .any, .any, .any, .any, .any, .any, .any, .any, .any, .any], [.box [i64 0, i64 0, i64 0, i64 0, i64 0, u64 0, u64 0, .v (.slice none 0 0), .v (.slice none 0 0)],
        .box [i64 (1 + (rd l 0).tmod 8), i64 (1 + (rd l 1).tmod 8), i64 (1 + (rd l 2).tmod 16), i64 (1 + (rd l 3).tmod 8), i64 ((rd l 4).tmod 5), u64 (rd l 5), u64 (lng (rd l 6)), .own 2 1 0 i, .v (.slice none 0 0)],
        .row 41 1 (cs.map opav), .row 45 7 ((opsF l (q + 1) j).1.map Opn.av)]⟩)
      (fun j => n - j) 0 (Nat.zero_le _) (Nat.zero_le _) (Turns.of_eq rfl) ?_
    intro j hj
    try simp (maxSteps := 1000000) only [go_region, go_seq, go_cond, go_ops_nil, go_op, opK_none, contK_some, callOf, fstep, fpre, fstep0, fbinA, fbin, fbin0, St.ev, St.put, List.getD_cons_zero, List.getD_cons_succ, List.set, true_and, Bool.true_and]
    (first | refine guardV_split ?_ ?_ | refine condK_split ?_ ?_ | refine drawV_split ?_ ?_ | refine condY_split ?_ ?_ | refine guardY_split ?_ ?_) <;> intro h2 <;> try simp (maxSteps := 1000000) only [go_nil, go_skip, go_region, go_seq, go_block, go_blk, go_exit, exitK_code, exitK_blk, exitK_nil, go_ops_nil, go_op, opK_none, opK_some, contK_some, condK_t, condK_f, undef, callOf, callK_eq, callJ_nil, callD_fn, fstep, fpre, fstep0, fbinA, fbin, fbin0, fload, fcell, fstore, ffieldAddr, evParts, evOwners, fbuildSlice, felems, fappend, evs, T, TI.isAgg, TI.zeroOk, TI.zav, setParts, partsOk, St.ev, St.put, St.shutAll, St.shut, shutV, shutVs, AB.shut, St.rehome, killV, killVs, AB.kill, splice, AV.cells, AV.known, AV.flat, AV.owners, ownersAll, Value.cells, Value.oneCell', List.getD_cons_zero, List.getD_cons_succ, List.set, List.map_cons, List.map_nil, List.length_cons, List.length_nil, List.all_cons, List.all_nil, List.drop_succ_cons, List.drop_zero, List.take_succ_cons, List.take_zero, List.headD_cons, List.cons_append, List.nil_append, List.append_nil, List.getElem?_cons_zero, List.getElem?_cons_succ, List.replicate, List.getElem?_toArray, true_and, and_true, Bool.and_true, Bool.true_and, Bool.and_self, Bool.or_true, Bool.false_eq_true, ↓reduceIte, decide_true, reduceCtorEq, ne_eq, not_false_eq_true, Nat.reduceAdd, Nat.reduceMul, Nat.reduceLeDiff, Nat.reduceEqDiff, Nat.reduceLT, Nat.zero_le, Nat.le_refl, Nat.zero_add, loopT_exit]
    · have hlt2 : j < n := by have : (j : Int) < n := by simpa using h2
                              omega
      have ewj : IntKind.i64.wrap ((j : Int) + 1) = ((j + 1 : Nat) : Int) := wrap_nat (by omega) (by omega)
      have hol := opsF_len l (q + 1) j
      have hob := opsF_bd hb (q + 1) j
      have honx : opsF l (q + 1) (j + 1) = ((opsF l (q + 1) j).1 ++ [(opAt l (opsF l (q + 1) j).2).1], (opAt l (opsF l (q + 1) j).2).2) := rfl
      generalize opsF l (q + 1) j = ol at hol honx hob
      obtain ⟨os, p⟩ := ol
      simp only at hol honx hob
      have hol2 : (os.map Opn.av).length = j := by rw [List.length_map, hol]
      have v1 : IntKind.i64.wrap ((p : Int) + 1) = ((p + 1 : Nat) : Int) := wrap_nat (by omega) (by omega)
      have v2 : IntKind.i64.wrap ((p : Int) + 2) = ((p + 2 : Nat) : Int) := wrap_nat (by omega) (by omega)
      have v3 : IntKind.i64.wrap (((p + 2 : Nat) : Int) + 1) = ((p + 3 : Nat) : Int) := wrap_nat (by omega) (by omega)
      have v4 : IntKind.i64.wrap (((p + 2 : Nat) : Int) + 2) = ((p + 4 : Nat) : Int) := wrap_nat (by omega) (by omega)
      have v5 : IntKind.i64.wrap (((p + 2 : Nat) : Int) + 3) = ((p + 5 : Nat) : Int) := wrap_nat (by omega) (by omega)
      have v6 : IntKind.i64.wrap (((p + 2 : Nat) : Int) + 4) = ((p + 6 : Nat) : Int) := wrap_nat (by omega) (by omega)
      (refine callG_use (ref12_at l p hl' hb) rfl ?_; rintro _ rfl)
      try simp (maxSteps := 1000000) only [go_op, opK_none, opK_some, contK_some, callOf, callK_eq, callJ_nil, callD_fn, fstep, fpre, fstep0, fbinA, fbin, fbin0, evs, St.ev, St.put, AV.owners, ownersAll, List.getD_cons_zero, List.getD_cons_succ, List.set, List.append_nil, true_and, and_true, Bool.and_true, Bool.true_and, ne_eq, not_false_eq_true, Int.reduceEq, v1]
      (refine callG_use (ref12_at l (p + 1) hl' hb) rfl ?_; rintro _ rfl)
      try simp (maxSteps := 1000000) only [go_op, opK_some, callOf, callK_eq, callJ_nil, callD_fn, evs, St.ev, St.put, AV.owners, ownersAll, List.getD_cons_zero, List.getD_cons_succ, List.set, List.append_nil]
      (refine callG_use (ref12_User _ (rd_bd hb (p + 1)).1) rfl ?_; rintro _ rfl)
      try simp (maxSteps := 1000000) only [go_region, go_seq, go_cond, go_block, go_ops_nil, go_op, opK_none, contK_some, callOf, fstep, fpre, fstep0, fbinA, fbin, fbin0, fload, fcell, fstore, ffieldAddr, ffill, fieldPlaces, fieldsOk, fbuild, evParts, T, TI.isAgg, St.ev, St.put, splice, AV.cells, AV.known, AV.flat, Value.cells, Value.oneCell', List.getD_cons_zero, List.getD_cons_succ, List.set, List.map_cons, List.map_nil, List.length_cons, List.length_nil, List.all_cons, List.all_nil, List.drop_succ_cons, List.drop_zero, List.take_succ_cons, List.take_zero, List.headD_cons, List.cons_append, List.nil_append, List.append_nil, List.getElem?_cons_zero, List.getElem?_cons_succ, Option.isSome_some, List.getElem?_toArray, true_and, and_true, Bool.and_true, Bool.true_and, Bool.and_self, Bool.false_eq_true, ↓reduceIte, reduceCtorEq, ne_eq, not_false_eq_true, Nat.reduceAdd, Nat.reduceLeDiff, Nat.reduceLT, Nat.le_refl, Nat.add_zero, Nat.zero_add, v2]
      by_cases ek1 : (rd l p).tmod 11 = 1
      · have b1 : ((rd l p).tmod 11 == 1) = true := by simpa using ek1
        have eo : opAt l p = (⟨(rd l p).tmod 11, un (rd l (p + 1)), (rd l (p + 2)).tmod 4, (rd l (p + 3)).tmod 11, (rd l (p + 4)).tmod 10, lng (rd l (p + 5)), []⟩, p + 6) := by
          simp only [opAt]; rw [if_pos ek1]
        try simp (maxSteps := 1000000) only [go_region, go_seq, go_op, opK_none, opK_some, contK_some, condK_t, callOf, callK_eq, callJ_nil, callD_fn, fstep, fpre, fstep0, evs, St.ev, St.put, AV.owners, ownersAll, List.getD_cons_zero, List.getD_cons_succ, List.set, List.append_nil, true_and, Bool.true_and, b1]
        (refine callG_use (ref12_at l (p + 2) hl' hb) rfl ?_; rintro _ rfl)
        try simp (maxSteps := 1000000) only [go_op, opK_none, opK_some, contK_some, callOf, callK_eq, callJ_nil, callD_fn, fstep, fpre, fstep0, fbinA, fbin, fbin0, evs, St.ev, St.put, AV.owners, ownersAll, List.getD_cons_zero, List.getD_cons_succ, List.set, List.append_nil, true_and, and_true, Bool.and_true, Bool.true_and, ne_eq, not_false_eq_true, Int.reduceEq, v3]
        (refine callG_use (ref12_at l (p + 3) hl' hb) rfl ?_; rintro _ rfl)
        try simp (maxSteps := 1000000) only [go_op, opK_none, opK_some, contK_some, callOf, callK_eq, callJ_nil, callD_fn, fstep, fpre, fstep0, fbinA, fbin, fbin0, evs, St.ev, St.put, AV.owners, ownersAll, List.getD_cons_zero, List.getD_cons_succ, List.set, List.append_nil, true_and, and_true, Bool.and_true, Bool.true_and, ne_eq, not_false_eq_true, Int.reduceEq, v4]
        (refine callG_use (ref12_at l (p + 4) hl' hb) rfl ?_; rintro _ rfl)
        try simp (maxSteps := 1000000) only [go_op, opK_none, opK_some, contK_some, callOf, callK_eq, callJ_nil, callD_fn, fstep, fpre, fstep0, fbinA, fbin, fbin0, evs, St.ev, St.put, AV.owners, ownersAll, List.getD_cons_zero, List.getD_cons_succ, List.set, List.append_nil, true_and, and_true, Bool.and_true, Bool.true_and, ne_eq, not_false_eq_true, Int.reduceEq, v5]
        (refine callG_use (ref12_at l (p + 5) hl' hb) rfl ?_; rintro _ rfl)
        try simp (maxSteps := 1000000) only [go_op, opK_some, callOf, callK_eq, callJ_nil, callD_fn, evs, St.ev, St.put, AV.owners, ownersAll, List.getD_cons_zero, List.getD_cons_succ, List.set, List.append_nil]
        (refine callG_use (ref12_Long _ (rd_bd hb (p + 5))) rfl ?_; rintro _ rfl)
        try simp (maxSteps := 1000000) only [go_nil, go_region, go_blk, go_ops_nil, go_op, opK_none, contK_some, callOf, fstep, fpre, fstep0, fbinA, fbin, fbin0, fload, fcell, fstore, ffieldAddr, evParts, evOwners, fbuildSlice, felems, fappend, T, TI.isAgg, TI.zeroOk, TI.zav, setParts, partsOk, St.ev, St.put, St.shutAll, St.rehome, killV, killVs, AB.kill, splice, AV.cells, AV.known, AV.flat, AV.pure, pureAll, AV.owners, ownersAll, Value.cells, Value.oneCell', List.getD_cons_zero, List.getD_cons_succ, List.set, List.map_cons, List.map_nil, List.length_cons, List.length_nil, List.all_cons, List.all_nil, List.drop_succ_cons, List.drop_zero, List.take_succ_cons, List.take_zero, List.cons_append, List.nil_append, List.append_nil, List.getElem?_cons_zero, List.getElem?_cons_succ, List.replicate, List.getElem?_toArray, true_and, and_true, Bool.and_true, Bool.true_and, Bool.and_self, Bool.or_false, ↓reduceIte, decide_true, decide_false, reduceCtorEq, ne_eq, not_false_eq_true, Nat.reduceAdd, Nat.reduceMul, Nat.reduceLeDiff, Nat.reduceEqDiff, Nat.reduceLT, Nat.zero_le, Nat.le_refl, Nat.zero_add, v6]
        try simp (maxSteps := 1000000) only [true_and, Bool.true_and, hol2]
        refine ⟨⟨by simp only [maxLen]; omega, by omega⟩, ?_⟩
        try simp (maxSteps := 1000000) only [ewj]
        simp only [loopT_normal, St.trunc, St.keep, truncVs, truncV, AB.trunc, keepV, pureAll, AV.pure, Bool.and_self, List.drop_zero, List.drop_succ_cons, List.elem_cons, List.elem_nil, List.take_succ_cons, List.take_zero, List.map_cons, List.map_nil, List.getElem?_cons_zero, List.getElem?_cons_succ, List.length_cons, List.length_nil, Nat.reduceAdd, Nat.reduceBEq, Nat.reduceLeDiff, Nat.le_refl, Nat.zero_add, Bool.false_eq_true, ↓reduceIte]
        refine ⟨j + 1, hlt2, by omega, Turns.weak ?_ ?_⟩
        · rw [honx, eo]; exact weaks_refl _
        · rw [honx, eo, List.map_append]
          exact ⟨_, _, rfl, weakB_refl _, _, _, rfl, weakB_refl _, _, _, rfl, weakB_refl _, _, _, rfl, ⟨_, rfl, weaks_append (weaks_refl _) ⟨_, _, rfl, opav_weak _ _ _ _ _ _, rfl⟩⟩, rfl⟩
      · have b1 : ((rd l p).tmod 11 == 1) = false := by simpa using ek1
        by_cases ek2 : (rd l p).tmod 11 = 2
        · have b2 : ((rd l p).tmod 11 == 2) = true := by simpa using ek2
          have eo : opAt l p = (⟨(rd l p).tmod 11, un (rd l (p + 1)), (rd l (p + 2)).tmod 4, 0, 0, lng (rd l (p + 3)), []⟩, p + 4) := by
            simp only [opAt]; rw [if_neg ek1, if_pos ek2]
          try simp (maxSteps := 1000000) only [go_region, go_seq, go_cond, go_ops_nil, go_op, opK_none, opK_some, contK_some, condK_t, condK_f, callOf, callK_eq, callJ_nil, callD_fn, fstep, fpre, fstep0, fbinA, fbin, fbin0, evs, St.ev, St.put, AV.owners, ownersAll, List.getD_cons_zero, List.getD_cons_succ, List.set, List.append_nil, true_and, Bool.true_and, b1, b2]
          (refine callG_use (ref12_at l (p + 2) hl' hb) rfl ?_; rintro _ rfl)
          try simp (maxSteps := 1000000) only [go_op, opK_none, opK_some, contK_some, callOf, callK_eq, callJ_nil, callD_fn, fstep, fpre, fstep0, fbinA, fbin, fbin0, evs, St.ev, St.put, AV.owners, ownersAll, List.getD_cons_zero, List.getD_cons_succ, List.set, List.append_nil, true_and, and_true, Bool.and_true, Bool.true_and, ne_eq, not_false_eq_true, Int.reduceEq, v3]
          (refine callG_use (ref12_at l (p + 3) hl' hb) rfl ?_; rintro _ rfl)
          try simp (maxSteps := 1000000) only [go_op, opK_some, callOf, callK_eq, callJ_nil, callD_fn, evs, St.ev, St.put, AV.owners, ownersAll, List.getD_cons_zero, List.getD_cons_succ, List.set, List.append_nil]
          (refine callG_use (ref12_Long _ (rd_bd hb (p + 3))) rfl ?_; rintro _ rfl)
          try simp (maxSteps := 1000000) only [go_nil, go_region, go_blk, go_ops_nil, go_op, opK_none, contK_some, callOf, fstep, fpre, fstep0, fbinA, fbin, fbin0, fload, fcell, fstore, ffieldAddr, evParts, evOwners, fbuildSlice, felems, fappend, T, TI.isAgg, TI.zeroOk, TI.zav, setParts, partsOk, St.ev, St.put, St.shutAll, St.rehome, killV, killVs, AB.kill, splice, AV.cells, AV.known, AV.flat, AV.pure, pureAll, AV.owners, ownersAll, Value.cells, Value.oneCell', List.getD_cons_zero, List.getD_cons_succ, List.set, List.map_cons, List.map_nil, List.length_cons, List.length_nil, List.all_cons, List.all_nil, List.drop_succ_cons, List.drop_zero, List.take_succ_cons, List.take_zero, List.cons_append, List.nil_append, List.append_nil, List.getElem?_cons_zero, List.getElem?_cons_succ, List.replicate, List.getElem?_toArray, true_and, and_true, Bool.and_true, Bool.true_and, Bool.and_self, Bool.or_false, ↓reduceIte, decide_true, decide_false, reduceCtorEq, ne_eq, not_false_eq_true, Nat.reduceAdd, Nat.reduceMul, Nat.reduceLeDiff, Nat.reduceEqDiff, Nat.reduceLT, Nat.zero_le, Nat.le_refl, Nat.zero_add, v4]
          try simp (maxSteps := 1000000) only [true_and, Bool.true_and, hol2]
          refine ⟨⟨by simp only [maxLen]; omega, by omega⟩, ?_⟩
          try simp (maxSteps := 1000000) only [ewj]
          simp only [loopT_normal, St.trunc, St.keep, truncVs, truncV, AB.trunc, keepV, pureAll, AV.pure, Bool.and_self, List.drop_zero, List.drop_succ_cons, List.elem_cons, List.elem_nil, List.take_succ_cons, List.take_zero, List.map_cons, List.map_nil, List.getElem?_cons_zero, List.getElem?_cons_succ, List.length_cons, List.length_nil, Nat.reduceAdd, Nat.reduceBEq, Nat.reduceLeDiff, Nat.le_refl, Nat.zero_add, Bool.false_eq_true, ↓reduceIte]
          refine ⟨j + 1, hlt2, by omega, Turns.weak ?_ ?_⟩
          · rw [honx, eo]; exact weaks_refl _
          · rw [honx, eo, List.map_append]
            exact ⟨_, _, rfl, weakB_refl _, _, _, rfl, weakB_refl _, _, _, rfl, weakB_refl _, _, _, rfl, ⟨_, rfl, weaks_append (weaks_refl _) ⟨_, _, rfl, opav_weak _ _ _ _ _ _, rfl⟩⟩, rfl⟩
        · have b2 : ((rd l p).tmod 11 == 2) = false := by simpa using ek2
          by_cases ek3 : (rd l p).tmod 11 = 3
          · have b3 : ((rd l p).tmod 11 == 3) = true := by simpa using ek3
            have eo : opAt l p = (⟨(rd l p).tmod 11, un (rd l (p + 1)), (rd l (p + 2)).tmod 4, 0, 0, 0, []⟩, p + 3) := by
              simp only [opAt]; rw [if_neg ek1, if_neg ek2, if_pos ek3]
            try simp (maxSteps := 1000000) only [go_region, go_seq, go_cond, go_ops_nil, go_op, opK_none, opK_some, contK_some, condK_t, condK_f, callOf, callK_eq, callJ_nil, callD_fn, fstep, fpre, fstep0, fbinA, fbin, fbin0, evs, St.ev, St.put, AV.owners, ownersAll, List.getD_cons_zero, List.getD_cons_succ, List.set, List.append_nil, true_and, Bool.true_and, b1, b2, b3]
            (refine callG_use (ref12_at l (p + 2) hl' hb) rfl ?_; rintro _ rfl)
            try simp (maxSteps := 1000000) only [go_nil, go_region, go_blk, go_ops_nil, go_op, opK_none, contK_some, callOf, fstep, fpre, fstep0, fbinA, fbin, fbin0, fload, fcell, fstore, ffieldAddr, evParts, evOwners, fbuildSlice, felems, fappend, T, TI.isAgg, TI.zeroOk, TI.zav, setParts, partsOk, St.ev, St.put, St.shutAll, St.rehome, killV, killVs, AB.kill, splice, AV.cells, AV.known, AV.flat, AV.pure, pureAll, AV.owners, ownersAll, Value.cells, Value.oneCell', List.getD_cons_zero, List.getD_cons_succ, List.set, List.map_cons, List.map_nil, List.length_cons, List.length_nil, List.all_cons, List.all_nil, List.drop_succ_cons, List.drop_zero, List.take_succ_cons, List.take_zero, List.cons_append, List.nil_append, List.append_nil, List.getElem?_cons_zero, List.getElem?_cons_succ, List.replicate, List.getElem?_toArray, true_and, and_true, Bool.and_true, Bool.true_and, Bool.and_self, Bool.or_false, ↓reduceIte, decide_true, decide_false, reduceCtorEq, ne_eq, not_false_eq_true, Nat.reduceAdd, Nat.reduceMul, Nat.reduceLeDiff, Nat.reduceEqDiff, Nat.reduceLT, Nat.zero_le, Nat.le_refl, Nat.zero_add, Int.reduceEq, v3]
            try simp (maxSteps := 1000000) only [true_and, Bool.true_and, hol2]
            refine ⟨⟨by simp only [maxLen]; omega, by omega⟩, ?_⟩
            try simp (maxSteps := 1000000) only [ewj]
            simp only [loopT_normal, St.trunc, St.keep, truncVs, truncV, AB.trunc, keepV, pureAll, AV.pure, Bool.and_self, List.drop_zero, List.drop_succ_cons, List.elem_cons, List.elem_nil, List.take_succ_cons, List.take_zero, List.map_cons, List.map_nil, List.getElem?_cons_zero, List.getElem?_cons_succ, List.length_cons, List.length_nil, Nat.reduceAdd, Nat.reduceBEq, Nat.reduceLeDiff, Nat.le_refl, Nat.zero_add, Bool.false_eq_true, ↓reduceIte]
            refine ⟨j + 1, hlt2, by omega, Turns.weak ?_ ?_⟩
            · rw [honx, eo]; exact weaks_refl _
            · rw [honx, eo, List.map_append]
              exact ⟨_, _, rfl, weakB_refl _, _, _, rfl, weakB_refl _, _, _, rfl, weakB_refl _, _, _, rfl, ⟨_, rfl, weaks_append (weaks_refl _) ⟨_, _, rfl, opav_weak _ _ _ _ _ _, rfl⟩⟩, rfl⟩
          · have b3 : ((rd l p).tmod 11 == 3) = false := by simpa using ek3
            by_cases ek5 : (rd l p).tmod 11 = 5
            · have b5 : ((rd l p).tmod 11 == 5) = true := by simpa using ek5
              try simp (maxSteps := 1000000) only [go_region, go_seq, go_cond, go_ops_nil, go_op, opK_none, opK_some, contK_some, condK_t, condK_f, callOf, callK_eq, callJ_nil, callD_fn, fstep, fpre, fstep0, fbinA, fbin, fbin0, evs, St.ev, St.put, AV.owners, ownersAll, List.getD_cons_zero, List.getD_cons_succ, List.set, List.append_nil, true_and, Bool.true_and, b1, b2, b3, b5]
              (refine callG_use (ref12_at l (p + 2) hl' hb) rfl ?_; rintro _ rfl)
              obtain ⟨un', hun, hun10⟩ := rd_mod hb (p + 2) (m := 10) (by decide) (by decide)
              have eo : opAt l p = (⟨(rd l p).tmod 11, un (rd l (p + 1)), 0, 0, 0, 0, unsAt l (p + 3) un'⟩, p + 3 + un') := by
                simp only [opAt]; rw [if_neg ek1, if_neg ek2, if_neg ek3, if_pos ek5, hun, Int.toNat_natCast]
              try simp (maxSteps := 1000000) only [go_region, go_seq, go_block, go_loop, go_ops_nil, go_op, opK_none, contK_some, callOf, fstep, fpre, fstep0, fbinA, fbin, fbin0, St.ev, St.put, List.getD_cons_zero, List.getD_cons_succ, List.set, true_and, and_true, Bool.and_true, Bool.true_and, ne_eq, not_false_eq_true, Int.reduceEq, hun, v3]
              refine loopK_turn (Turns.adoptIn (b := 4) (c := 6) 9 1 rfl rfl) ?_
              refine loopK_rule tyOk (α := Nat) 6 [0, 2, 3, 4, 5, 6, 7, 8, 9, 10, 11] (fun u => u ≤ un')
                (fun u => ⟨[.sl 1 (bav l), .any, .ptr 0 0, .ptr 1 0, i64 ((p + 3 + u : Nat) : Int), i64 ((C : Int) - (i : Int)), .own 3 7 0 j, i64 n, i64 j, .ptr 4 0, i64 un', i64 u, .any, .any, .any, .any, .any, .any, .any, .any, .any, .any, .any, .any, .any, .any, .any, .any, .any, .any, .any, .any, .any, .any, .any, .any, .any, .any, .any, .any, .any, .any, .any, .any, .any, .any, .any, .any, .any, .any, .any, .any, .any, .any, .any, .any, .any, .any, .any, .any, .any, .any, .any, .any, .any, .any, .any, .any, .any, .any, .any, .any, .any, .any, .any, .any, .any, .any, .any, .any, .any, .any, .any, .any, .any, .any, .any, .any, .any, .any, .any, .any, .any, .any, .any, .any, .any, .any, .any, .any, .any, .any, .any, .any, .any, .any, .any, .any, .any, .any, .any, .any, .any, .any, .any, .any, .any, .any, .any, .any, .any, .any, .any, .any, .any, .any, .any, .any, .any, .any, .any, .any, .any, .any, .any, .any, .any, .any, .any, .any, .any, .any, .any, .any, .any, .any, .any, .any, .any, .any, .any, .any, .any, .any, .any, .any, .any, .any, .any, .any, .any, .any, .any, .any, .any, .any, .any, .any, .any, .any, .any, .any, .any, .any, .any, .any, .any, .any, .any, .any, .any, .any, .any], [.box [i64 0, i64 0, i64 0, i64 0, i64 0, u64 0, u64 0, .v (.slice none 0 0), .v (.slice none 0 0)],
                  .box [i64 (1 + (rd l 0).tmod 8), i64 (1 + (rd l 1).tmod 8), i64 (1 + (rd l 2).tmod 16), i64 (1 + (rd l 3).tmod 8), i64 ((rd l 4).tmod 5), u64 (rd l 5), u64 (lng (rd l 6)), .own 2 1 0 i, .v (.slice none 0 0)],
                  .row 41 1 (cs.map opav), .row 45 7 (os.map Opn.av), .box [i64 ((rd l p).tmod 11), str (un (rd l (p + 1))), i64 0, i64 0, i64 0, u64 0, .own 5 1 0 u], .row 9 1 ((unsAt l (p + 3) u).map str)]⟩)
                (fun u => un' - u) 0 (Nat.zero_le _) (Nat.zero_le _) rfl ?_
              intro u hu
              try simp (maxSteps := 1000000) only [go_region, go_seq, go_cond, go_ops_nil, go_op, opK_none, contK_some, callOf, fstep, fpre, fstep0, fbinA, fbin, fbin0, St.ev, St.put, List.getD_cons_zero, List.getD_cons_succ, List.set, true_and, Bool.true_and]
              (first | refine guardV_split ?_ ?_ | refine condK_split ?_ ?_ | refine drawV_split ?_ ?_ | refine condY_split ?_ ?_ | refine guardY_split ?_ ?_) <;> intro h3 <;> try simp (maxSteps := 1000000) only [go_nil, go_skip, go_region, go_seq, go_block, go_blk, go_exit, go_draws, exitK_code, exitK_blk, exitK_nil, go_ops_nil, go_op, opK_none, contK_some, condK_t, condK_f, callOf, fstep, fpre, fstep0, fbinA, fbin, fbin0, fload, fcell, evParts, evOwners, fbuildSlice, felems, fappend, T, TI.isAgg, TI.zeroOk, TI.zav, setParts, partsOk, St.ev, St.put, St.shutAll, St.shut, shutV, shutVs, AB.shut, St.rehome, killV, killVs, AB.kill, AV.cells, AV.known, AV.flat, AV.pure, pureAll, AV.owners, ownersAll, Value.oneCell', List.getD_cons_zero, List.getD_cons_succ, List.set, List.map_cons, List.map_nil, List.length_cons, List.length_nil, List.all_cons, List.all_nil, List.drop_zero, List.take_succ_cons, List.take_zero, List.cons_append, List.nil_append, List.append_nil, List.getElem?_cons_zero, List.getElem?_cons_succ, List.replicate, true_and, and_true, Bool.and_true, Bool.true_and, Bool.and_self, Bool.or_false, ↓reduceIte, decide_true, decide_false, reduceCtorEq, Nat.reduceAdd, Nat.reduceMul, Nat.reduceLeDiff, Nat.reduceEqDiff, Nat.reduceLT, Nat.zero_le, Nat.le_refl, Nat.zero_add, loopX_exit]
              · have hlt3 : u < un' := by have : (u : Int) < un' := by simpa using h3
                                          omega
                have ewu : IntKind.i64.wrap ((u : Int) + 1) = ((u + 1 : Nat) : Int) := wrap_nat (by omega) (by omega)
                have ewp : IntKind.i64.wrap (((p + 3 + u : Nat) : Int) + 1) = ((p + 3 + (u + 1) : Nat) : Int) := wrap_nat (by omega) (by omega)
                have hul : ((unsAt l (p + 3) u).map str).length = u := by simp [unsAt]
                refine draw_rule tyOk (by rfl) (by simp only [List.length_cons, List.length_nil, Nat.reduceAdd, Nat.zero_le]) (by kernel_rfl) rfl ?_
                try simp (maxSteps := 1000000) only [callOf, fstep0, newF, fload, fcell, ffieldAddr, evs, T, TI.isAgg, St.ev, St.put, List.getD_cons_zero, List.getD_cons_succ, List.set, List.length_cons, List.length_nil, List.drop_succ_cons, List.drop_zero, List.headD_cons, List.append_nil, List.getElem?_cons_zero, List.getElem?_cons_succ, List.replicate, List.getElem?_toArray, true_and, Bool.true_and, Bool.false_eq_true, ↓reduceIte, reduceCtorEq, ne_eq, not_false_eq_true, Nat.reduceAdd, Nat.reduceLT, Nat.add_zero, Nat.zero_add, newCount, drawR_op, drawP_none, drawP_some, drawQ_some, drawH_fn, dstep, isFree, St.app, bump, isNew]
                refine drawCall_use (ref12_at l (p + 3 + u) hl' hb) rfl ?_
                try simp (maxSteps := 1000000) only [callOf, newF, evs, St.ev, St.put, List.getD_cons_zero, List.getD_cons_succ, List.set, List.append_nil, Bool.false_eq_true, ↓reduceIte, Nat.reduceAdd, drawR_op, drawP_some, drawH_fn, bump, isNew]
                refine drawCall_use (ref12_User _ (rd_bd hb (p + 3 + u)).1) rfl ?_
                try simp (maxSteps := 1000000) only [go_nil, go_region, go_blk, go_ops_nil, go_op, opK_none, contK_some, undef, callOf, fstep, fpre, fstep0, fbinA, newF, fbin, fbin0, ffieldAddr, evParts, felems, T, TI.isAgg, TI.zeroOk, TI.zav, setParts, partsOk, St.ev, St.put, St.rehome, killV, killVs, AB.kill, splice, AV.cells, AV.known, AV.flat, AV.pure, Value.cells, Value.oneCell', List.getD_cons_zero, List.getD_cons_succ, List.set, List.map_cons, List.map_nil, List.length_cons, List.length_nil, List.all_cons, List.all_nil, List.drop_succ_cons, List.drop_zero, List.take_succ_cons, List.take_zero, List.headD_cons, List.cons_append, List.nil_append, List.append_nil, List.getElem?_cons_zero, List.getElem?_cons_succ, List.replicate, List.getElem?_toArray, true_and, and_true, Bool.and_true, Bool.true_and, Bool.and_self, Bool.or_true, Bool.false_eq_true, ↓reduceIte, decide_true, reduceCtorEq, ne_eq, not_false_eq_true, Nat.reduceAdd, Nat.reduceMul, Nat.reduceLeDiff, Nat.reduceEqDiff, Nat.reduceLT, Nat.zero_le, Nat.le_refl, Nat.zero_add, drawR_nil, drawR_op, drawP_none, drawQ_some, dstep, isFree, dstore, dappend, dbuildSlice, St.app, bump, isNew, hul]
                refine ⟨⟨by simp only [maxLen]; omega, by omega⟩, ?_⟩
                refine ⟨by kernel_rfl, ?_⟩
                try simp (maxSteps := 1000000) only [ewu, ewp]
                simp only [loopX_normal, St.trunc, St.keep, truncVs, truncV, AB.trunc, keepV, List.elem_cons, List.elem_nil, List.take_succ_cons, List.take_zero, List.map_cons, List.map_nil, Nat.reduceAdd, Nat.reduceBEq, Nat.reduceLeDiff, Nat.zero_add, Bool.false_eq_true, ↓reduceIte]
                exact ⟨u + 1, hlt3, by omega, by rw [unsAt_next, List.map_append]; rfl⟩
              · have hge : u = un' := by have : ¬ (u : Int) < un' := by simpa using h3
                                         omega
                subst hge
                have hul : ((unsAt l (p + 3) u).map str).length = u := by simp [unsAt]
                have hut : ((unsAt l (p + 3) u).map str).take u = (unsAt l (p + 3) u).map str := List.take_of_length_le (by rw [hul]; exact Nat.le_refl _)
                try simp (maxSteps := 1000000) only [killV, AV.pure, true_and, and_true, Bool.and_true, Bool.true_and, ↓reduceIte, Nat.le_refl, hul, hut, hol2]
                refine ⟨⟨by simp only [maxLen]; omega, by omega⟩, ?_⟩
                try simp (maxSteps := 1000000) only [ewj]
                simp only [loopT_normal, St.trunc, St.keep, truncVs, truncV, AB.trunc, keepV, pureAll, AV.pure, Bool.and_self, List.drop_zero, List.elem_cons, List.elem_nil, List.take_succ_cons, List.take_zero, List.map_cons, List.map_nil, List.getElem?_cons_zero, List.getElem?_cons_succ, List.length_cons, List.length_nil, Nat.reduceAdd, Nat.reduceBEq, Nat.reduceLeDiff, Nat.le_refl, Nat.zero_add, Bool.false_eq_true, ↓reduceIte]
                refine ⟨j + 1, hlt2, by omega, Turns.of_eq ?_⟩
                rw [honx, eo, List.map_append]
                rfl
            · have b5 : ((rd l p).tmod 11 == 5) = false := by simpa using ek5
              have eo : opAt l p = (⟨(rd l p).tmod 11, un (rd l (p + 1)), 0, 0, 0, 0, []⟩, p + 2) := by
                simp only [opAt]; rw [if_neg ek1, if_neg ek2, if_neg ek3, if_neg ek5]
              try simp (maxSteps := 1000000) only [go_nil, go_skip, go_region, go_seq, go_cond, go_blk, go_ops_nil, go_op, opK_none, contK_some, condK_f, callOf, fstep, fpre, fstep0, fbinA, fbin, fbin0, fload, fcell, evParts, evOwners, fbuildSlice, felems, fappend, T, TI.isAgg, TI.zeroOk, TI.zav, setParts, partsOk, St.ev, St.put, St.shutAll, St.rehome, killV, killVs, AB.kill, AV.cells, AV.known, AV.flat, AV.pure, pureAll, AV.owners, ownersAll, Value.oneCell', List.getD_cons_zero, List.getD_cons_succ, List.set, List.map_cons, List.map_nil, List.length_cons, List.length_nil, List.all_cons, List.all_nil, List.drop_zero, List.take_succ_cons, List.take_zero, List.cons_append, List.nil_append, List.append_nil, List.getElem?_cons_zero, List.getElem?_cons_succ, List.replicate, true_and, and_true, Bool.and_true, Bool.true_and, Bool.and_self, Bool.or_false, ↓reduceIte, decide_true, decide_false, reduceCtorEq, Nat.reduceAdd, Nat.reduceMul, Nat.reduceLeDiff, Nat.reduceEqDiff, Nat.reduceLT, Nat.zero_le, Nat.le_refl, Nat.zero_add, b1, b2, b3, b5]
              try simp (maxSteps := 1000000) only [true_and, Bool.true_and, hol2]
              refine ⟨⟨by simp only [maxLen]; omega, by omega⟩, ?_⟩
              try simp (maxSteps := 1000000) only [ewj]
              simp only [loopT_normal, St.trunc, St.keep, truncVs, truncV, AB.trunc, keepV, pureAll, AV.pure, Bool.and_self, List.drop_zero, List.elem_cons, List.elem_nil, List.take_succ_cons, List.take_zero, List.map_cons, List.map_nil, List.getElem?_cons_zero, List.getElem?_cons_succ, List.length_cons, List.length_nil, Nat.reduceAdd, Nat.reduceBEq, Nat.reduceLeDiff, Nat.le_refl, Nat.zero_add, Bool.false_eq_true, ↓reduceIte]
              refine ⟨j + 1, hlt2, by omega, Turns.weak ?_ ?_⟩
              · rw [honx, eo]; exact weaks_refl _
              · rw [honx, eo, List.map_append]
                exact ⟨_, _, rfl, weakB_refl _, _, _, rfl, weakB_refl _, _, _, rfl, weakB_refl _, _, _, rfl, ⟨_, rfl, weaks_append (weaks_refl _) ⟨_, _, rfl, opav_weak _ _ _ _ _ _, rfl⟩⟩, rfl⟩
    · have hge : j = n := by have : ¬ (j : Int) < n := by simpa using h2
                             omega
      subst hge
      have hol := opsF_len l (q + 1) j
      generalize opsF l (q + 1) j = ol at hol hnx
      obtain ⟨os, q2⟩ := ol
      simp only at hol hnx
      have hl1 : (os.map Opn.av).length = j := by rw [List.length_map, hol]
      have ht1 : (os.map Opn.av).take j = os.map Opn.av := List.take_of_length_le (by rw [hl1]; exact Nat.le_refl _)
      have hl2 : (cs.map opav).length = i := by rw [List.length_map, hcl]
      try simp (maxSteps := 1000000) only [killV, AV.flat, AV.pure, List.length_cons, List.length_nil, List.all_cons, List.all_nil, true_and, and_true, Bool.and_true, Bool.true_and, Bool.and_self, ↓reduceIte, Nat.le_refl, Nat.zero_add, hl1, ht1, hl2, ewi]
      refine ⟨⟨by simp only [maxLen]; omega, by omega⟩, ?_⟩
      simp only [loopX_normal, St.trunc, St.keep, truncVs, truncV, AB.trunc, keepV, List.drop_zero, List.elem_cons, List.elem_nil, List.take_succ_cons, List.take_zero, List.map_cons, List.map_nil, List.getElem?_cons_zero, List.getElem?_cons_succ, List.length_cons, List.length_nil, Nat.reduceAdd, Nat.reduceBEq, Nat.reduceLeDiff, Nat.le_refl, Nat.zero_add, Bool.false_eq_true, ↓reduceIte]
      exact ⟨i + 1, hlt, by omega, by rw [hnx, List.map_append]; rfl⟩
  · have hge : i = C := by have : ¬ (0 : Int) < (C : Int) - (i : Int) := by simpa using h
                           omega
    subst hge
    rw [hread] at hK
    have hcl := clientsF_len l 8 i
    have hqb := clientsF_bd hb 8 i
    generalize clientsF l 8 i = cl at hcl hK hqb
    obtain ⟨cs, q⟩ := cl
    simp only at hcl hK hqb
    refine loopK_turn (Turns.adoptIn (b := 1) (c := 8) 34 3 rfl rfl) ?_
    refine loopK_rule tyOk (α := Nat) 4 [0, 2, 3, 4] (fun k => k ≤ nPicks l q)
      (fun k => ⟨[.sl 1 (bav l), .any, .ptr 0 0, .ptr 1 0, i64 ((q + 2 * k : Nat) : Int), .any, .any, .any, .any, .any, .any, .any, .any, .any, .any, .any, .any, .any, .any, .any, .any, .any, .any, .any, .any, .any, .any, .any, .any, .any, .any, .any, .any, .any, .any, .any, .any, .any, .any, .any, .any, .any, .any, .any, .any, .any, .any, .any, .any, .any, .any, .any, .any, .any, .any, .any, .any, .any, .any, .any, .any, .any, .any, .any, .any, .any, .any, .any, .any, .any, .any, .any, .any, .any, .any, .any, .any, .any, .any, .any, .any, .any, .any, .any, .any, .any, .any, .any, .any, .any, .any, .any, .any, .any, .any, .any, .any, .any, .any, .any, .any, .any, .any, .any, .any, .any, .any, .any, .any, .any, .any, .any, .any, .any, .any, .any, .any, .any, .any, .any, .any, .any, .any, .any, .any, .any, .any, .any, .any, .any, .any, .any, .any, .any, .any, .any, .any, .any, .any, .any, .any, .any, .any, .any, .any, .any, .any, .any, .any, .any, .any, .any, .any, .any, .any, .any, .any, .any, .any, .any, .any, .any, .any, .any, .any, .any, .any, .any, .any, .any, .any, .any, .any, .any, .any, .any, .any, .any, .any, .any, .any, .any, .any], [.box [i64 0, i64 0, i64 0, i64 0, i64 0, u64 0, u64 0, .v (.slice none 0 0), .v (.slice none 0 0)],
        .box [i64 (1 + (rd l 0).tmod 8), i64 (1 + (rd l 1).tmod 8), i64 (1 + (rd l 2).tmod 16), i64 (1 + (rd l 3).tmod 8), i64 ((rd l 4).tmod 5), u64 (rd l 5), u64 (lng (rd l 6)), .own 2 1 0 i, .own 3 3 0 k],
        .row 41 1 (cs.map opav), .row 34 3 ((picksF l q k).map Pk.av)]⟩)
      (fun k => nPicks l q - k) 0 (Nat.zero_le _) (Nat.zero_le _) rfl ?_
    intro k hk
    try simp (maxSteps := 1000000) only [go_region, go_seq, go_op, go_guard, opK_none, contK_some, guardK_eq, callOf, fstep, fpre, fstep0, fbinA, fbin, fbin0, flen, T, St.ev, St.put, List.getD_cons_zero, List.getD_cons_succ, List.set, List.getElem?_cons_zero, List.getElem?_cons_succ, Option.bind_some, List.getElem?_toArray, true_and, Bool.true_and, bav_len]
    have hkn : k < nPicks l q ↔ (q + 2 * k < l.length ∧ k < 20000) := by rw [nPicks]; omega
    by_cases hkk : k < nPicks l q
    · obtain ⟨hq, hk2⟩ := hkn.1 hkk
      have a1 : decide (((q + 2 * k : Nat) : Int) < (l.length : Int)) = true := by simp; omega
      have a2 : decide ((k : Int) < 20000) = true := by simp; omega
      have ewp : IntKind.i64.wrap (((q + 2 * k : Nat) : Int) + 1) = ((q + 2 * k + 1 : Nat) : Int) := wrap_nat (by omega) (by omega)
      have ewp2 : IntKind.i64.wrap (((q + 2 * k : Nat) : Int) + 2) = ((q + 2 * (k + 1) : Nat) : Int) := wrap_nat (by omega) (by omega)
      have hpl : ((picksF l q k).map Pk.av).length = k := by simp [picksF]
      have hpn : picksF l q (k + 1) = picksF l q k ++ [pickOf (rd l (q + 2 * k)) (rd l (q + 2 * k + 1))] := by simp [picksF, List.range_succ]
      try simp (maxSteps := 1000000) only [go_skip, go_seq, go_cond, go_block, go_draws, go_ops_nil, go_op, go_guard, opK_none, contK_some, condK_t, guardK_eq, guardV_tt, callOf, fstep, fpre, fstep0, fbinA, fbin, fbin0, fload, fcell, ffieldAddr, flen, fpick, T, TI.isAgg, St.ev, St.put, List.getD_cons_zero, List.getD_cons_succ, List.set, List.length_cons, List.length_nil, List.drop_succ_cons, List.drop_zero, List.headD_cons, List.getElem?_cons_zero, List.getElem?_cons_succ, Option.bind_some, List.getElem?_toArray, true_and, Bool.true_and, Bool.false_eq_true, ↓reduceIte, reduceCtorEq, ne_eq, not_false_eq_true, Nat.reduceLT, Nat.zero_add, cond_true, a1, a2]
      refine draw_rule tyOk (by rfl) (by simp only [List.length_cons, List.length_nil, Nat.reduceAdd, Nat.zero_le]) (by kernel_rfl) rfl ?_
      try simp (maxSteps := 1000000) only [callOf, fstep0, newF, fload, fcell, ffieldAddr, evs, T, TI.isAgg, St.ev, St.put, List.getD_cons_zero, List.getD_cons_succ, List.set, List.length_cons, List.length_nil, List.drop_succ_cons, List.drop_zero, List.headD_cons, List.append_nil, List.getElem?_cons_zero, List.getElem?_cons_succ, List.replicate, List.getElem?_toArray, true_and, Bool.true_and, Bool.false_eq_true, ↓reduceIte, reduceCtorEq, ne_eq, not_false_eq_true, Nat.reduceAdd, Nat.reduceLT, Nat.add_zero, Nat.zero_add, newCount, drawR_op, drawP_none, drawP_some, drawQ_some, drawH_fn, dstep, isFree, St.app, bump, isNew]
      refine drawCall_use (ref12_at l (q + 2 * k) hl' hb) rfl ?_
      try simp (maxSteps := 1000000) only [callOf, fstep0, fbinA, newF, fbin, fbin0, evs, St.ev, St.put, List.getD_cons_zero, List.getD_cons_succ, List.set, List.append_nil, true_and, Bool.true_and, Bool.false_eq_true, ↓reduceIte, Nat.reduceAdd, drawR_op, drawP_none, drawP_some, drawQ_some, drawH_fn, dstep, isFree, St.app, bump, isNew, ewp]
      refine drawCall_use (ref12_at l (q + 2 * k + 1) hl' hb) rfl ?_
      try simp (maxSteps := 1000000) only [callOf, newF, evs, St.ev, St.put, List.getD_cons_zero, List.getD_cons_succ, List.set, List.append_nil, Bool.false_eq_true, ↓reduceIte, Nat.reduceAdd, drawR_op, drawP_some, drawH_fn, bump, isNew]
      refine drawCall_use (ref12_Pick _ _ (rd_bd hb (q + 2 * k)) (rd_bd hb (q + 2 * k + 1))) rfl ?_
      generalize pickOf (rd l (q + 2 * k)) (rd l (q + 2 * k + 1)) = pk at hpn
      try simp (maxSteps := 1000000) only [go_nil, go_region, go_blk, go_ops_nil, go_op, opK_none, contK_some, callOf, fstep, fpre, fstep0, fbinA, newF, fbin, fbin0, ffieldAddr, evParts, felems, T, TI.isAgg, TI.zeroOk, TI.zav, setParts, partsOk, St.ev, St.put, St.rehome, killV, killVs, AB.kill, splice, AV.cells, AV.known, AV.flat, AV.pure, pureAll, Value.oneCell', List.getD_cons_zero, List.getD_cons_succ, List.set, List.map_cons, List.map_nil, List.length_cons, List.length_nil, List.all_cons, List.all_nil, List.drop_succ_cons, List.drop_zero, List.take_succ_cons, List.take_zero, List.cons_append, List.nil_append, List.append_nil, List.getElem?_cons_zero, List.getElem?_cons_succ, List.replicate, List.getElem?_toArray, true_and, and_true, Bool.and_true, Bool.true_and, Bool.and_self, Bool.or_false, Bool.false_eq_true, ↓reduceIte, decide_true, decide_false, reduceCtorEq, ne_eq, not_false_eq_true, Nat.reduceAdd, Nat.reduceMul, Nat.reduceLeDiff, Nat.reduceEqDiff, Nat.reduceLT, Nat.zero_le, Nat.le_refl, Nat.zero_add, drawR_nil, drawR_op, drawP_none, drawQ_some, dstep, isFree, dstore, dappend, dbuildSlice, St.app, bump, isNew, Pk.av, hpl]
      refine ⟨⟨by simp only [maxLen]; omega, by omega⟩, ?_⟩
      refine ⟨by kernel_rfl, ?_⟩
      try simp (maxSteps := 1000000) only [ewp2]
      simp only [loopX_normal, St.trunc, St.keep, truncVs, truncV, AB.trunc, keepV, List.elem_cons, List.elem_nil, List.take_succ_cons, List.take_zero, List.map_cons, List.map_nil, Nat.reduceAdd, Nat.reduceBEq, Nat.reduceLeDiff, Nat.zero_add, Bool.false_eq_true, ↓reduceIte]
      exact ⟨k + 1, hkk, by omega, by rw [hpn, List.map_append]; rfl⟩
    · have hke : k = nPicks l q := by omega
      subst hke
      have hpl : ((picksF l q (nPicks l q)).map Pk.av).length = nPicks l q := by simp [picksF]
      have hcl2 : (cs.map opav).length = i := by rw [List.length_map, hcl]
      by_cases hq : q + 2 * nPicks l q < l.length
      · have hk2 : ¬ nPicks l q < 20000 := fun h => hkk (hkn.2 ⟨hq, h⟩)
        have a1 : decide (((q + 2 * nPicks l q : Nat) : Int) < (l.length : Int)) = true := by simp; omega
        have a2 : decide (((nPicks l q : Nat) : Int) < 20000) = false := by simp; omega
        try simp (maxSteps := 1000000) only [go_region, go_seq, go_cond, go_exit, go_ret, exitK_code, exitK_blk, exitK_nil, go_ops_nil, go_op, go_guard, opK_none, contK_some, condK_f, guardK_eq, guardV_tt, callOf, fstep, fpre, fstep0, fbinA, fbin, fbin0, fload, fcell, fstore, ffieldAddr, flen, fpick, T, TI.isAgg, St.ev, St.put, splice, AV.cells, AV.known, AV.flat, Value.oneCell', List.getD_cons_zero, List.getD_cons_succ, List.set, List.length_cons, List.length_nil, List.all_cons, List.all_nil, List.drop_succ_cons, List.drop_zero, List.take_succ_cons, List.take_zero, List.headD_cons, List.nil_append, List.append_nil, List.getElem?_cons_zero, List.getElem?_cons_succ, Option.bind_some, List.getElem?_toArray, true_and, and_true, Bool.and_true, Bool.true_and, Bool.and_self, Bool.false_eq_true, ↓reduceIte, reduceCtorEq, ne_eq, not_false_eq_true, Nat.reduceAdd, Nat.reduceLT, Nat.le_refl, Nat.zero_add, cond_true, loopX_exit, a1, a2]
        apply hK
        simp only [Tryd.results12, retK, ares, List.take_nil, Bool.and_true, Bool.true_and, AV.ofResults, St.trunc, truncVs, truncV, aload, acell, T, TI.isAgg, List.getD_cons_zero, List.getD_cons_succ, List.take_zero, List.take_succ_cons, List.drop_zero, List.map_nil, List.getElem?_cons_zero, List.getElem?_cons_succ, List.length_cons, List.length_nil, Nat.reduceAdd, Nat.reduceLeDiff, Nat.le_refl, true_and, and_true, ↓reduceIte, List.cons.injEq, exists_eq_left']
        rw [sl_full hpl, sl_full hcl2]
        rfl
      · have a1 : decide (((q + 2 * nPicks l q : Nat) : Int) < (l.length : Int)) = false := by simp; omega
        try simp (maxSteps := 1000000) only [go_region, go_seq, go_cond, go_exit, go_ret, exitK_code, exitK_blk, exitK_nil, go_ops_nil, go_op, go_guard, opK_none, contK_some, condK_f, guardK_eq, guardV_ft, undef, callOf, fstep, fpre, fstep0, fload, fcell, fstore, fpick, T, TI.isAgg, St.ev, St.put, splice, AV.cells, AV.known, AV.flat, Value.oneCell', List.getD_cons_zero, List.getD_cons_succ, List.set, List.length_cons, List.length_nil, List.all_cons, List.all_nil, List.drop_succ_cons, List.drop_zero, List.take_succ_cons, List.take_zero, List.nil_append, List.append_nil, List.getElem?_cons_zero, List.getElem?_cons_succ, Option.bind_some, List.getElem?_toArray, true_and, and_true, Bool.and_true, Bool.true_and, Bool.and_self, Bool.false_eq_true, ↓reduceIte, Nat.reduceAdd, Nat.le_refl, Nat.zero_add, loopX_exit, a1]
        apply hK
        simp only [Tryd.results12, retK, ares, List.take_nil, Bool.and_true, Bool.true_and, AV.ofResults, St.trunc, truncVs, truncV, aload, acell, T, TI.isAgg, List.getD_cons_zero, List.getD_cons_succ, List.take_zero, List.take_succ_cons, List.drop_zero, List.map_nil, List.getElem?_cons_zero, List.getElem?_cons_succ, List.length_cons, List.length_nil, Nat.reduceAdd, Nat.reduceLeDiff, Nat.le_refl, true_and, and_true, ↓reduceIte, List.cons.injEq, exists_eq_left']
        rw [sl_full hpl, sl_full hcl2]
        rfl
end Go.Proofs.YthlfbdkhcejlmaaDoor
