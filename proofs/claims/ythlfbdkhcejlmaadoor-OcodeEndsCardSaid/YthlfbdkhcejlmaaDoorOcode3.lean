/- Scripts, read out of bytes. -/
import Derived.Test.YthlfbdkhcejlmaaDoorOcode2
namespace Go.Proofs.YthlfbdkhcejlmaaDoor
open Go Go.Proofs.YthlfbdkhcejlmaaDoor.Sym
set_option maxRecDepth 100000
set_option linter.unusedSimpArgs false
set_option linter.unusedVariables false

/-- So many ops, from the byte q on, and where the next byte is. -/
def opsF (l : List Int) (q : Nat) : Nat → List Opn × Nat
  | 0 => ([], q)
  | i + 1 => ((opsF l q i).1 ++ [(opAt l (opsF l q i).2).1], (opAt l (opsF l q i).2).2)
def manyOps (l : List Int) (q : Nat) : Nat := ((rd l q).tmod 41).toNat
/-- So many clients. -/
def clientsF (l : List Int) (q : Nat) : Nat → List (List Opn) × Nat
  | 0 => ([], q)
  | i + 1 => ((clientsF l q i).1 ++ [(opsF l ((clientsF l q i).2 + 1) (manyOps l (clientsF l q i).2)).1], (opsF l ((clientsF l q i).2 + 1) (manyOps l (clientsF l q i).2)).2)
def picksF (l : List Int) (q n : Nat) : List Pk := (List.range n).map fun i => pickOf (rd l (q + 2 * i)) (rd l (q + 2 * i + 1))
structure Scr where
  stripes : Int
  sessions : Int
  queue : Int
  watches : Int
  retries : Int
  epochs : Int
  start : Int
  clients : List (List Opn)
  picks : List Pk
  deriving DecidableEq
def opav (o : List Opn) : AV := .sl 7 (o.map Opn.av)
def Scr.av (s : Scr) : AV := .agg [i64 s.stripes, i64 s.sessions, i64 s.queue, i64 s.watches, i64 s.retries, u64 s.epochs, u64 s.start, .sl 1 (s.clients.map opav), .sl 3 (s.picks.map Pk.av)]

theorem reader_op' (l : List Int) (q : Nat) (hl : l.length < 9223372036854775807) (hb : Bytes l) :
    ACall P 23 [rdr l q] [.ptr 0 0] (fun x m => x = (opAt l q).1.av ∧ m = [rdr l (opAt l q).2]) := by
  refine (reader_op l q hl hb).weaken ?_
  rintro x m ⟨hw, rfl⟩
  exact ⟨_, _, Turns.weak ⟨_, [], rfl, hw, rfl⟩ (weakM_refl _), rfl, rfl⟩

theorem rd_mod {l : List Int} (hb : Bytes l) (q : Nat) {m : Int} (h1 : 0 < m) (h2 : m < 1000) : ∃ n : Nat, (rd l q).tmod m = (n : Int) ∧ (n : Int) < m := by
  have := rem_wrap (rd_bd hb q).1 h1 h2
  exact ⟨((rd l q).tmod m).toNat, by omega, by omega⟩

/-- The script that bytes tell. -/
def nPicks (l : List Int) (q : Nat) : Nat := min 20000 ((l.length - q + 1) / 2)
def readF (l : List Int) : Scr :=
  let c := clientsF l 8 (1 + (rd l 7).tmod 8).toNat
  ⟨1 + (rd l 0).tmod 8, 1 + (rd l 1).tmod 8, 1 + (rd l 2).tmod 16, 1 + (rd l 3).tmod 8, 0 + (rd l 4).tmod 5, rd l 5, lng (rd l 6), c.1, picksF l c.2 (nPicks l c.2)⟩

theorem opsF_len (l : List Int) (q : Nat) : ∀ i, (opsF l q i).1.length = i
  | 0 => rfl
  | i + 1 => by rw [opsF, List.length_append, opsF_len l q i]; rfl
theorem clientsF_len (l : List Int) (q : Nat) : ∀ i, (clientsF l q i).1.length = i
  | 0 => rfl
  | i + 1 => by rw [clientsF, List.length_append, clientsF_len l q i]; rfl

theorem ocode_Read (l : List Int) (hl : l.length < 9223372036854775807) (hb : Bytes l) : PCall P 11 [.sl 1 (bav l)] (fun x => x = (readF l).av) := by
  refine pcall_go tyOk Tryd.func11 rfl rfl ?_
  intro K hK
  simp only [Tryd.ntmps11, List.length_cons, List.length_nil, Nat.reduceAdd, Nat.reduceSub, List.replicate, List.cons_append, List.nil_append]
  try simp (maxSteps := 1000000) only [go_region, go_seq, go_ops_nil, go_op, opK_none, opK_some, contK_some, callOf, callK_eq, callJ_nil, callD_fn, fstep, fpre, fstep0, ffill, fieldPlaces, fieldsOk, fbuild, evParts, evs, T, St.ev, St.put, splice, AV.cells, AV.known, AV.owners, ownersAll, List.getD_cons_zero, List.getD_cons_succ, List.set, List.map_cons, List.map_nil, List.length_cons, List.length_nil, List.drop_succ_cons, List.drop_zero, List.take_zero, List.cons_append, List.nil_append, List.append_nil, List.getElem?_cons_zero, Option.isSome_some, List.getElem?_toArray, true_and, and_true, Bool.and_true, Bool.true_and, Bool.and_self, Nat.reduceAdd, Nat.reduceLeDiff, Nat.zero_add]
  (refine callG_frame (reader_from l 0 hl hb 1 8 (by decide) (by decide)) [1] (by decide) rfl rfl rfl rfl ?_; rintro _ _ ⟨rfl, rfl⟩; refine ⟨rfl, ?_⟩)
  try simp (maxSteps := 1000000) only [go_op, opK_none, opK_some, contK_some, callOf, callK_eq, callJ_nil, callD_fn, fstep, fpre, fstep0, evs, St.ev, St.put, AV.owners, ownersAll, ren, renAll, AB.ren, renM, putL, List.getD_cons_zero, List.getD_cons_succ, List.set, List.append_nil, true_and, Bool.true_and, Nat.zero_add]
  (refine callG_frame (reader_from l 1 hl hb 1 8 (by decide) (by decide)) [1] (by decide) rfl rfl rfl rfl ?_; rintro _ _ ⟨rfl, rfl⟩; refine ⟨rfl, ?_⟩)
  try simp (maxSteps := 1000000) only [go_op, opK_none, opK_some, contK_some, callOf, callK_eq, callJ_nil, callD_fn, fstep, fpre, fstep0, evs, St.ev, St.put, AV.owners, ownersAll, ren, renAll, AB.ren, renM, putL, List.getD_cons_zero, List.getD_cons_succ, List.set, List.append_nil, true_and, Bool.true_and, Nat.reduceAdd]
  (refine callG_frame (reader_from l 2 hl hb 1 16 (by decide) (by decide)) [1] (by decide) rfl rfl rfl rfl ?_; rintro _ _ ⟨rfl, rfl⟩; refine ⟨rfl, ?_⟩)
  try simp (maxSteps := 1000000) only [go_op, opK_none, opK_some, contK_some, callOf, callK_eq, callJ_nil, callD_fn, fstep, fpre, fstep0, evs, St.ev, St.put, AV.owners, ownersAll, ren, renAll, AB.ren, renM, putL, List.getD_cons_zero, List.getD_cons_succ, List.set, List.append_nil, true_and, Bool.true_and, Nat.reduceAdd]
  (refine callG_frame (reader_from l 3 hl hb 1 8 (by decide) (by decide)) [1] (by decide) rfl rfl rfl rfl ?_; rintro _ _ ⟨rfl, rfl⟩; refine ⟨rfl, ?_⟩)
  try simp (maxSteps := 1000000) only [go_op, opK_none, opK_some, contK_some, callOf, callK_eq, callJ_nil, callD_fn, fstep, fpre, fstep0, evs, St.ev, St.put, AV.owners, ownersAll, ren, renAll, AB.ren, renM, putL, List.getD_cons_zero, List.getD_cons_succ, List.set, List.append_nil, true_and, Bool.true_and, Nat.reduceAdd]
  (refine callG_frame (reader_from l 4 hl hb 0 5 (by decide) (by decide)) [1] (by decide) rfl rfl rfl rfl ?_; rintro _ _ ⟨rfl, rfl⟩; refine ⟨rfl, ?_⟩)
  try simp (maxSteps := 1000000) only [go_op, opK_none, opK_some, contK_some, callOf, callK_eq, callJ_nil, callD_fn, fstep, fpre, fstep0, evs, St.ev, St.put, AV.owners, ownersAll, ren, renAll, AB.ren, renM, putL, List.getD_cons_zero, List.getD_cons_succ, List.set, List.append_nil, true_and, Bool.true_and, Nat.reduceAdd]
  (refine callG_frame (reader_next l 5 hl hb) [1] (by decide) rfl rfl rfl rfl ?_; rintro _ _ ⟨rfl, rfl⟩; refine ⟨rfl, ?_⟩)
  have e5 : IntKind.u64.wrap (rd l 5) = rd l 5 := by have := rd_bd hb 5; exact wrap_u64 this.1 (by omega)
  try simp (maxSteps := 1000000) only [go_region, go_seq, go_ops_nil, go_op, opK_none, opK_some, contK_some, callOf, callK_eq, callJ_nil, callD_fn, fstep, fpre, fstep0, fstore, ffill, fieldPlaces, fieldsOk, fbuild, evParts, fconvA, fconvert, evs, T, St.ev, St.put, splice, AV.cells, AV.known, AV.flat, AV.owners, ownersAll, Value.cells, Value.oneCell', ren, renAll, AB.ren, renM, putL, List.getD_cons_zero, List.getD_cons_succ, List.set, List.map_cons, List.map_nil, List.length_cons, List.length_nil, List.all_cons, List.all_nil, List.drop_succ_cons, List.drop_zero, List.take_succ_cons, List.take_zero, List.cons_append, List.nil_append, List.append_nil, List.getElem?_cons_zero, List.getElem?_cons_succ, Option.isSome_some, List.getElem?_toArray, true_and, and_true, Bool.and_true, Bool.true_and, Bool.and_self, Nat.reduceAdd, Nat.reduceLeDiff, Nat.le_refl, Nat.zero_add, e5]
  (refine callG_frame (reader_long l 6 hl hb) [1] (by decide) rfl rfl rfl rfl ?_; rintro _ _ ⟨rfl, rfl⟩; refine ⟨rfl, ?_⟩)
  try simp (maxSteps := 1000000) only [go_region, go_seq, go_ops_nil, go_op, opK_none, opK_some, contK_some, callOf, callK_eq, callJ_nil, callD_fn, fstep, fpre, fstep0, fstore, ffieldAddr, evs, T, St.ev, St.put, splice, AV.cells, AV.known, AV.flat, AV.owners, ownersAll, Value.cells, Value.oneCell', ren, renAll, AB.ren, renM, putL, List.getD_cons_zero, List.getD_cons_succ, List.set, List.map_cons, List.map_nil, List.length_cons, List.length_nil, List.all_cons, List.all_nil, List.drop_succ_cons, List.drop_zero, List.take_succ_cons, List.take_zero, List.cons_append, List.nil_append, List.append_nil, List.getElem?_cons_zero, List.getElem?_cons_succ, List.getElem?_toArray, true_and, and_true, Bool.and_true, Bool.true_and, Bool.and_self, reduceCtorEq, ne_eq, not_false_eq_true, Nat.reduceAdd, Nat.reduceLeDiff, Nat.add_zero, Nat.zero_add]
  (refine callG_frame (reader_from l 7 hl hb 1 8 (by decide) (by decide)) [1] (by decide) rfl rfl rfl rfl ?_; rintro _ _ ⟨rfl, rfl⟩; refine ⟨rfl, ?_⟩)
  try simp (maxSteps := 1000000) only [go_block, go_loop, go_ops_nil, go_op, opK_none, contK_some, callOf, fstep, fpre, fstep0, St.ev, St.put, ren, renAll, AB.ren, renM, putL, List.set, true_and, Bool.true_and, Nat.reduceAdd]
  obtain ⟨c, hc, hc8⟩ := rd_mod hb 7 (m := 8) (by decide) (by decide)
  obtain ⟨C, hC⟩ : ∃ C : Nat, 1 + (rd l 7).tmod 8 = (C : Int) := ⟨1 + c, by omega⟩
  have hC8 : C ≤ 8 := by omega
  rw [hC]
  refine loopK_turn (Turns.adoptIn (b := 2) (c := 7) 41 1 rfl rfl) ?_
  refine loopK_rule tyOk (α := Nat) 4 [0, 2, 3, 4, 29, 30] (fun i => i ≤ C)
    (fun i => ⟨[.sl 1 (bav l), .any, .ptr 0 0, .ptr 1 0, .ptr 2 0, .any, .any, .any, .any, .any, .any, .any, .any, .any, .any, .any, .any, .any, .any, .any, .any, .any, .any, .any, .any, .any, .any, .any, .any, i64 C, i64 i, .any, .any, .any, .any, .any, .any, .any, .any, .any, .any, .any, .any, .any, .any, .any, .any, .any, .any, .any, .any, .any, .any, .any, .any, .any, .any, .any, .any, .any, .any, .any, .any, .any, .any, .any, .any, .any, .any, .any, .any, .any, .any, .any, .any, .any], [.box [i64 0, i64 0, i64 0, i64 0, i64 0, u64 0, u64 0, .v (.slice none 0 0), .v (.slice none 0 0)], rdr l (clientsF l 8 i).2,
      .box [i64 (1 + (rd l 0).tmod 8), i64 (1 + (rd l 1).tmod 8), i64 (1 + (rd l 2).tmod 16), i64 (1 + (rd l 3).tmod 8), i64 (0 + (rd l 4).tmod 5), u64 (rd l 5), u64 (lng (rd l 6)), .own 3 1 0 i, .v (.slice none 0 0)],
      .row 41 1 ((clientsF l 8 i).1.map opav)]⟩)
    (fun i => C - i) 0 (Nat.zero_le _) (Nat.zero_le _) rfl ?_
  intro i hi
  try simp (maxSteps := 1000000) only [go_region, go_seq, go_cond, go_ops_nil, go_op, opK_none, contK_some, callOf, fstep, fpre, fstep0, fbinA, fbin, fbin0, St.ev, St.put, List.getD_cons_zero, List.getD_cons_succ, List.set, true_and, Bool.true_and]
  (first | refine guardV_split ?_ ?_ | refine condK_split ?_ ?_ | refine drawV_split ?_ ?_ | refine condY_split ?_ ?_ | refine guardY_split ?_ ?_) <;> intro h <;> try simp (maxSteps := 1000000) only [go_skip, go_region, go_seq, go_block, go_exit, go_loop, exitK_code, exitK_blk, exitK_nil, go_ops_nil, go_op, opK_none, opK_some, contK_some, condK_t, condK_f, callOf, callK_eq, callJ_nil, callD_fn, fstep, fpre, fstep0, evs, St.ev, St.put, AV.owners, ownersAll, List.getD_cons_zero, List.getD_cons_succ, List.set, List.append_nil, true_and, Bool.true_and, ↓reduceIte, loopX_exit]
  · have hlt : i < C := by have : (i : Int) < C := by simpa using h
                           omega
    have ewi : IntKind.i64.wrap ((i : Int) + 1) = ((i + 1 : Nat) : Int) := by rw [wrap_i64 (by omega) (by omega)]; rfl
    have hcl := clientsF_len l 8 i
    have hnx : clientsF l 8 (i + 1) = ((clientsF l 8 i).1 ++ [(opsF l ((clientsF l 8 i).2 + 1) (manyOps l (clientsF l 8 i).2)).1], (opsF l ((clientsF l 8 i).2 + 1) (manyOps l (clientsF l 8 i).2)).2) := rfl
    generalize clientsF l 8 i = cl at hcl hnx
    obtain ⟨cs, q⟩ := cl
    simp only at hcl hnx
    (refine callG_frame (reader_next l q hl hb) [1] (by decide) rfl rfl rfl rfl ?_; rintro _ _ ⟨rfl, rfl⟩; refine ⟨rfl, ?_⟩)
    obtain ⟨n, hn, hn41⟩ := rd_mod hb q (m := 41) (by decide) (by decide)
    have hmany : manyOps l q = n := by rw [manyOps, hn, Int.toNat_natCast]
    rw [hmany] at hnx
    try simp (maxSteps := 1000000) only [go_block, go_loop, go_ops_nil, go_op, opK_none, contK_some, callOf, fstep, fpre, fstep0, fbinA, fbin, fbin0, St.ev, St.put, ren, renAll, AB.ren, renM, putL, List.getD_cons_zero, List.getD_cons_succ, List.set, true_and, and_true, Bool.and_true, Bool.true_and, ne_eq, not_false_eq_true, Int.reduceEq, hn]
    refine loopK_turn (Turns.adopt (i := 5) 45 7 rfl) ?_
    refine loopK_rule tyOk (α := Nat) 5 [0, 2, 3, 4, 5, 29, 30, 34, 35] (fun j => j ≤ n)
      (fun j => ⟨[.sl 1 (bav l), .any, .ptr 0 0, .ptr 1 0, .ptr 2 0, .own 4 7 0 j, .any, .any, .any, .any, .any, .any, .any, .any, .any, .any, .any, .any, .any, .any, .any, .any, .any, .any, .any, .any, .any, .any, .any, i64 C, i64 i, .any, .any, .any, i64 n, i64 j, .any, .any, .any, .any, .any, .any, .any, .any, .any, .any, .any, .any, .any, .any, .any, .any, .any, .any, .any, .any, .any, .any, .any, .any, .any, .any, .any, .any, .any, .any, .any, .any, .any, .any, .any, .any, .any, .any, .any, .any], [.box [i64 0, i64 0, i64 0, i64 0, i64 0, u64 0, u64 0, .v (.slice none 0 0), .v (.slice none 0 0)], rdr l (opsF l (q + 1) j).2,
        .box [i64 (1 + (rd l 0).tmod 8), i64 (1 + (rd l 1).tmod 8), i64 (1 + (rd l 2).tmod 16), i64 (1 + (rd l 3).tmod 8), i64 (0 + (rd l 4).tmod 5), u64 (rd l 5), u64 (lng (rd l 6)), .own 3 1 0 i, .v (.slice none 0 0)],
        .row 41 1 (cs.map opav), .row 45 7 ((opsF l (q + 1) j).1.map Opn.av)]⟩)
      (fun j => n - j) 0 (Nat.zero_le _) (Nat.zero_le _) rfl ?_
    intro j hj
    try simp (maxSteps := 1000000) only [go_region, go_seq, go_cond, go_ops_nil, go_op, opK_none, contK_some, callOf, fstep, fpre, fstep0, fbinA, fbin, fbin0, St.ev, St.put, List.getD_cons_zero, List.getD_cons_succ, List.set, true_and, Bool.true_and]
    (first | refine guardV_split ?_ ?_ | refine condK_split ?_ ?_ | refine drawV_split ?_ ?_ | refine condY_split ?_ ?_ | refine guardY_split ?_ ?_) <;> intro h2 <;> try simp (maxSteps := 1000000) only [go_nil, go_skip, go_region, go_seq, go_block, go_blk, go_exit, exitK_code, exitK_blk, exitK_nil, go_ops_nil, go_op, opK_none, opK_some, contK_some, condK_t, condK_f, undef, callOf, callK_eq, callJ_nil, callD_fn, fstep, fpre, fstep0, fbinA, fbin, fbin0, fload, fcell, fstore, ffieldAddr, evParts, evOwners, fbuildSlice, felems, fappend, evs, T, TI.isAgg, TI.zeroOk, TI.zav, setParts, partsOk, St.ev, St.put, St.shutAll, St.shut, shutV, shutVs, AB.shut, St.rehome, killV, killVs, AB.kill, splice, AV.cells, AV.known, AV.flat, AV.owners, ownersAll, Value.cells, Value.oneCell', List.getD_cons_zero, List.getD_cons_succ, List.set, List.map_cons, List.map_nil, List.length_cons, List.length_nil, List.all_cons, List.all_nil, List.drop_succ_cons, List.drop_zero, List.take_succ_cons, List.take_zero, List.headD_cons, List.cons_append, List.nil_append, List.append_nil, List.getElem?_cons_zero, List.getElem?_cons_succ, List.replicate, List.getElem?_toArray, true_and, and_true, Bool.and_true, Bool.true_and, Bool.and_self, Bool.or_true, Bool.false_eq_true, ↓reduceIte, decide_true, reduceCtorEq, ne_eq, not_false_eq_true, Nat.reduceAdd, Nat.reduceMul, Nat.reduceLeDiff, Nat.reduceEqDiff, Nat.reduceLT, Nat.zero_le, Nat.le_refl, Nat.zero_add, loopX_exit]
    · have hlt2 : j < n := by have : (j : Int) < n := by simpa using h2
                              omega
      have ewj : IntKind.i64.wrap ((j : Int) + 1) = ((j + 1 : Nat) : Int) := by rw [wrap_i64 (by omega) (by omega)]; rfl
      have hol := opsF_len l (q + 1) j
      have honx : opsF l (q + 1) (j + 1) = ((opsF l (q + 1) j).1 ++ [(opAt l (opsF l (q + 1) j).2).1], (opAt l (opsF l (q + 1) j).2).2) := rfl
      generalize opsF l (q + 1) j = ol at hol honx
      obtain ⟨os, q2⟩ := ol
      simp only at hol honx
      (refine callG_frame (reader_op' l q2 hl hb) [1] (by decide) rfl rfl rfl rfl ?_; rintro _ _ ⟨rfl, rfl⟩; refine ⟨rfl, ?_⟩)
      have hol2 : (os.map Opn.av).length = j := by rw [List.length_map, hol]
      generalize (opAt l q2).2 = q3 at honx
      generalize (opAt l q2).1 = o at honx
      try simp (maxSteps := 1000000) only [go_nil, go_region, go_blk, go_ops_nil, go_op, opK_none, contK_some, callOf, fstep, fpre, fstep0, fbinA, fbin, fbin0, evParts, evOwners, fbuildSlice, felems, fappend, T, TI.isAgg, TI.zeroOk, TI.zav, setParts, partsOk, St.ev, St.put, St.shutAll, St.rehome, killV, killVs, AB.kill, AV.cells, AV.known, AV.flat, AV.pure, pureAll, AV.owners, ownersAll, Value.oneCell', ren, renAll, AB.ren, renM, putL, List.getD_cons_zero, List.getD_cons_succ, List.set, List.map_cons, List.map_nil, List.length_cons, List.length_nil, List.all_cons, List.all_nil, List.drop_zero, List.take_succ_cons, List.take_zero, List.cons_append, List.nil_append, List.append_nil, List.getElem?_cons_zero, List.getElem?_cons_succ, List.replicate, true_and, and_true, Bool.and_true, Bool.true_and, Bool.and_self, Bool.or_false, ↓reduceIte, decide_true, decide_false, reduceCtorEq, Nat.reduceAdd, Nat.reduceMul, Nat.reduceLeDiff, Nat.reduceEqDiff, Nat.reduceLT, Nat.zero_le, Nat.le_refl, Nat.zero_add, Opn.av, hol2, ewj]
      refine ⟨⟨by simp only [maxLen]; omega, by omega⟩, ?_⟩
      simp only [loopX_normal, St.trunc, St.keep, truncVs, truncV, AB.trunc, keepV, List.drop_zero, List.elem_cons, List.elem_nil, List.take_succ_cons, List.take_zero, List.map_cons, List.map_nil, List.getElem?_cons_zero, List.getElem?_cons_succ, List.length_cons, List.length_nil, Nat.reduceAdd, Nat.reduceBEq, Nat.reduceLeDiff, Nat.le_refl, Nat.zero_add, Bool.false_eq_true, ↓reduceIte]
      exact ⟨j + 1, hlt2, by omega, by rw [honx, List.map_append]; rfl⟩
    · have hge : j = n := by have : ¬ (j : Int) < n := by simpa using h2
                             omega
      subst hge
      have hol := opsF_len l (q + 1) j
      generalize opsF l (q + 1) j = ol at hol hnx
      obtain ⟨os, q2⟩ := ol
      simp only at hol hnx
      have hl1 : (os.map Opn.av).length = j := by rw [List.length_map, hol]
      have ht1 : (os.map Opn.av).take j = os.map Opn.av := List.take_of_length_le (by rw [hl1]; exact Nat.le_refl _)
      have hl2 : (cs.map opav).length = i := by rw [List.length_map, hcl]
      try simp (maxSteps := 1000000) only [killV, AV.flat, AV.pure, List.length_cons, List.length_nil, List.all_cons, List.all_nil, true_and, and_true, Bool.and_true, Bool.true_and, Bool.and_self, ↓reduceIte, Nat.le_refl, Nat.zero_add, hl1, ht1, hl2, ewi]
      refine ⟨⟨by simp only [maxLen]; omega, by omega⟩, ?_⟩
      simp only [loopX_normal, St.trunc, St.keep, truncVs, truncV, AB.trunc, keepV, List.drop_zero, List.elem_cons, List.elem_nil, List.take_succ_cons, List.take_zero, List.map_cons, List.map_nil, List.getElem?_cons_zero, List.getElem?_cons_succ, List.length_cons, List.length_nil, Nat.reduceAdd, Nat.reduceBEq, Nat.reduceLeDiff, Nat.le_refl, Nat.zero_add, Bool.false_eq_true, ↓reduceIte]
      exact ⟨i + 1, hlt, by omega, by rw [hnx, List.map_append]; rfl⟩
  · have hge : i = C := by have : ¬ (i : Int) < C := by simpa using h
                           omega
    subst hge
    have hcl := clientsF_len l 8 i
    have hread : readF l = ⟨1 + (rd l 0).tmod 8, 1 + (rd l 1).tmod 8, 1 + (rd l 2).tmod 16, 1 + (rd l 3).tmod 8, 0 + (rd l 4).tmod 5, rd l 5, lng (rd l 6), (clientsF l 8 i).1, picksF l (clientsF l 8 i).2 (nPicks l (clientsF l 8 i).2)⟩ := by
      rw [readF, hC, Int.toNat_natCast]
    rw [hread] at hK
    generalize clientsF l 8 i = cl at hcl hK
    obtain ⟨cs, q⟩ := cl
    simp only at hcl hK
    refine loopK_turn (Turns.adoptIn (b := 2) (c := 8) 34 3 rfl rfl) ?_
    refine loopK_rule tyOk (α := Nat) 5 [0, 2, 3, 4] (fun k => k ≤ nPicks l q)
      (fun k => ⟨[.sl 1 (bav l), .any, .ptr 0 0, .ptr 1 0, .ptr 2 0, .any, .any, .any, .any, .any, .any, .any, .any, .any, .any, .any, .any, .any, .any, .any, .any, .any, .any, .any, .any, .any, .any, .any, .any, .any, .any, .any, .any, .any, .any, .any, .any, .any, .any, .any, .any, .any, .any, .any, .any, .any, .any, .any, .any, .any, .any, .any, .any, .any, .any, .any, .any, .any, .any, .any, .any, .any, .any, .any, .any, .any, .any, .any, .any, .any, .any, .any, .any, .any, .any, .any], [.box [i64 0, i64 0, i64 0, i64 0, i64 0, u64 0, u64 0, .v (.slice none 0 0), .v (.slice none 0 0)], rdr l (q + 2 * k),
        .box [i64 (1 + (rd l 0).tmod 8), i64 (1 + (rd l 1).tmod 8), i64 (1 + (rd l 2).tmod 16), i64 (1 + (rd l 3).tmod 8), i64 (0 + (rd l 4).tmod 5), u64 (rd l 5), u64 (lng (rd l 6)), .own 3 1 0 i, .own 4 3 0 k],
        .row 41 1 (cs.map opav), .row 34 3 ((picksF l q k).map Pk.av)]⟩)
      (fun k => nPicks l q - k) 0 (Nat.zero_le _) (Nat.zero_le _) rfl ?_
    intro k hk
    try simp (maxSteps := 1000000) only [go_region, go_seq, go_op, go_guard, opK_none, contK_some, guardK_eq, callOf, fstep, fpre, fstep0, fbinA, fbin, fbin0, fload, fcell, ffieldAddr, flen, T, TI.isAgg, St.ev, St.put, List.getD_cons_zero, List.getD_cons_succ, List.set, List.length_cons, List.length_nil, List.drop_succ_cons, List.drop_zero, List.headD_cons, List.getElem?_cons_zero, List.getElem?_cons_succ, Option.bind_some, List.getElem?_toArray, true_and, Bool.true_and, Bool.false_eq_true, ↓reduceIte, reduceCtorEq, ne_eq, not_false_eq_true, Nat.reduceLT, Nat.zero_add, bav_len]
    have hkn : k < nPicks l q ↔ (q + 2 * k < l.length ∧ k < 20000) := by rw [nPicks]; omega
    by_cases hkk : k < nPicks l q
    · obtain ⟨hq, hk2⟩ := hkn.1 hkk
      have a1 : decide (((min (q + 2 * k) l.length : Nat) : Int) < (l.length : Int)) = true := by simp; omega
      have a2 : decide ((k : Int) < 20000) = true := by simp; omega
      have hr1 := rd_bd hb (q + 2 * k)
      have hr2 := rd_bd hb (q + 2 * k + 1)
      have ew1 : IntKind.u8.wrap (rd l (q + 2 * k)) = rd l (q + 2 * k) := wrap_u8 hr1.1 hr1.2
      have ew2 : IntKind.u8.wrap (rd l (q + 2 * k + 1)) = rd l (q + 2 * k + 1) := wrap_u8 hr2.1 hr2.2
      have hpl : ((picksF l q k).map Pk.av).length = k := by simp [picksF]
      have hpn : picksF l q (k + 1) = picksF l q k ++ [pickOf (rd l (q + 2 * k)) (rd l (q + 2 * k + 1))] := by simp [picksF, List.range_succ]
      try simp (maxSteps := 1000000) only [go_skip, go_cond, go_block, go_draws, go_ops_nil, go_op, go_guard, opK_none, contK_some, condK_t, guardK_eq, guardV_tt, callOf, fstep, fpre, fstep0, fbinA, fbin, fbin0, fload, fcell, ffieldAddr, flen, fpick, T, TI.isAgg, St.ev, St.put, List.getD_cons_zero, List.getD_cons_succ, List.set, List.length_cons, List.length_nil, List.drop_succ_cons, List.drop_zero, List.headD_cons, List.getElem?_cons_zero, List.getElem?_cons_succ, Option.bind_some, List.getElem?_toArray, true_and, Bool.true_and, Bool.false_eq_true, ↓reduceIte, reduceCtorEq, ne_eq, not_false_eq_true, Nat.reduceLT, Nat.zero_add, cond_true, a1, a2]
      refine draw_rule tyOk (by rfl) (by simp only [List.length_cons, List.length_nil, Nat.reduceAdd, Nat.zero_le]) (by kernel_rfl) rfl ?_
      try simp (maxSteps := 1000000) only [callOf, fstep0, newF, fload, fcell, ffieldAddr, evs, T, TI.isAgg, St.ev, St.put, List.getD_cons_zero, List.getD_cons_succ, List.set, List.length_cons, List.length_nil, List.drop_succ_cons, List.drop_zero, List.headD_cons, List.append_nil, List.getElem?_cons_zero, List.getElem?_cons_succ, List.replicate, List.getElem?_toArray, true_and, Bool.true_and, Bool.false_eq_true, ↓reduceIte, reduceCtorEq, ne_eq, not_false_eq_true, Nat.reduceAdd, Nat.reduceLT, Nat.add_zero, Nat.zero_add, newCount, drawR_op, drawP_none, drawP_some, drawQ_some, drawH_fn, dstep, isFree, St.app, bump, isNew]
      refine drawCall_on (reader_next l (q + 2 * k) hl hb) 1 rfl rfl rfl rfl rfl ?_
      try simp (maxSteps := 1000000) only [callOf, fstep0, newF, fconvA, fconvert, evs, T, St.ev, St.put, ren, renAll, AB.ren, List.getD_cons_zero, List.getD_cons_succ, List.set, List.append_nil, true_and, Bool.true_and, Bool.false_eq_true, ↓reduceIte, Nat.reduceAdd, drawR_op, drawP_none, drawP_some, drawQ_some, drawH_fn, dstep, isFree, St.app, bump, isNew, ew1]
      refine drawCall_on (reader_next l (q + 2 * k + 1) hl hb) 1 rfl rfl rfl rfl rfl ?_
      try simp (maxSteps := 1000000) only [callOf, newF, fconvA, fconvert, evs, T, St.ev, St.put, ren, renAll, AB.ren, List.getD_cons_zero, List.getD_cons_succ, List.set, List.append_nil, true_and, Bool.true_and, Bool.false_eq_true, ↓reduceIte, Nat.reduceAdd, drawR_op, drawP_none, drawP_some, drawQ_some, drawH_fn, dstep, isFree, St.app, bump, isNew, ew2]
      refine drawCall_use (ocode_Pick _ _ hr1 hr2) rfl ?_
      generalize pickOf (rd l (q + 2 * k)) (rd l (q + 2 * k + 1)) = pk at hpn
      try simp (maxSteps := 1000000) only [go_nil, go_blk, callOf, fstep0, newF, ffieldAddr, evParts, felems, T, TI.isAgg, TI.zeroOk, TI.zav, setParts, partsOk, St.ev, St.put, St.rehome, killV, killVs, AB.kill, splice, AV.cells, AV.known, AV.flat, AV.pure, pureAll, Value.oneCell', List.getD_cons_zero, List.getD_cons_succ, List.set, List.map_cons, List.map_nil, List.length_cons, List.length_nil, List.all_cons, List.all_nil, List.drop_succ_cons, List.drop_zero, List.take_succ_cons, List.take_zero, List.cons_append, List.nil_append, List.append_nil, List.getElem?_cons_zero, List.getElem?_cons_succ, List.replicate, List.getElem?_toArray, true_and, and_true, Bool.and_true, Bool.true_and, Bool.and_self, Bool.or_false, Bool.false_eq_true, ↓reduceIte, decide_true, decide_false, reduceCtorEq, ne_eq, not_false_eq_true, Nat.reduceAdd, Nat.reduceMul, Nat.reduceLeDiff, Nat.reduceEqDiff, Nat.reduceLT, Nat.zero_le, Nat.le_refl, Nat.zero_add, drawR_nil, drawR_op, drawP_none, drawQ_some, dstep, isFree, dstore, dappend, dbuildSlice, St.app, bump, isNew, Pk.av, hpl]
      refine ⟨⟨by simp only [maxLen]; omega, by omega⟩, ?_⟩
      refine ⟨by kernel_rfl, ?_⟩
      skip
      simp only [loopX_normal, St.trunc, St.keep, truncVs, truncV, AB.trunc, keepV, List.elem_cons, List.elem_nil, List.take_succ_cons, List.take_zero, List.map_cons, List.map_nil, Nat.reduceAdd, Nat.reduceBEq, Nat.reduceLeDiff, Nat.zero_add, Bool.false_eq_true, ↓reduceIte]
      exact ⟨k + 1, hkk, by omega, by rw [hpn, List.map_append, show q + 2 * (k + 1) = q + 2 * k + 1 + 1 by omega]; rfl⟩
    · have hke : k = nPicks l q := by omega
      subst hke
      have hpl : ((picksF l q (nPicks l q)).map Pk.av).length = nPicks l q := by simp [picksF]
      have hcl2 : (cs.map opav).length = i := by rw [List.length_map, hcl]
      by_cases hq : q + 2 * nPicks l q < l.length
      · have hk2 : ¬ nPicks l q < 20000 := fun h => hkk (hkn.2 ⟨hq, h⟩)
        have a1 : decide (((min (q + 2 * nPicks l q) l.length : Nat) : Int) < (l.length : Int)) = true := by simp; omega
        have a2 : decide (((nPicks l q : Nat) : Int) < 20000) = false := by simp; omega
        try simp (maxSteps := 1000000) only [go_region, go_seq, go_cond, go_exit, go_ret, exitK_code, exitK_blk, exitK_nil, go_ops_nil, go_op, go_guard, opK_none, contK_some, condK_f, guardK_eq, guardV_tt, callOf, fstep, fpre, fstep0, fbinA, fbin, fbin0, fload, fcell, fstore, ffieldAddr, flen, fpick, T, TI.isAgg, St.ev, St.put, splice, AV.cells, AV.known, AV.flat, Value.oneCell', List.getD_cons_zero, List.getD_cons_succ, List.set, List.length_cons, List.length_nil, List.all_cons, List.all_nil, List.drop_succ_cons, List.drop_zero, List.take_succ_cons, List.take_zero, List.headD_cons, List.nil_append, List.append_nil, List.getElem?_cons_zero, List.getElem?_cons_succ, Option.bind_some, List.getElem?_toArray, true_and, and_true, Bool.and_true, Bool.true_and, Bool.and_self, Bool.false_eq_true, ↓reduceIte, reduceCtorEq, ne_eq, not_false_eq_true, Nat.reduceAdd, Nat.reduceLT, Nat.le_refl, Nat.zero_add, cond_true, loopX_exit, a1, a2]
        apply hK
        simp only [Tryd.results11, retK, ares, List.take_nil, Bool.and_true, Bool.true_and, AV.ofResults, St.trunc, truncVs, truncV, aload, acell, T, TI.isAgg, List.getD_cons_zero, List.getD_cons_succ, List.take_zero, List.take_succ_cons, List.drop_zero, List.map_nil, List.getElem?_cons_zero, List.getElem?_cons_succ, List.length_cons, List.length_nil, Nat.reduceAdd, Nat.reduceLeDiff, Nat.le_refl, true_and, and_true, ↓reduceIte, List.cons.injEq, exists_eq_left']
        rw [sl_full hpl, sl_full hcl2]
        rfl
      · have a1 : decide (((min (q + 2 * nPicks l q) l.length : Nat) : Int) < (l.length : Int)) = false := by simp; omega
        try simp (maxSteps := 1000000) only [go_region, go_seq, go_cond, go_exit, go_ret, exitK_code, exitK_blk, exitK_nil, go_ops_nil, go_op, go_guard, opK_none, contK_some, condK_f, guardK_eq, guardV_ft, undef, callOf, fstep, fpre, fstep0, fload, fcell, fstore, fpick, T, TI.isAgg, St.ev, St.put, splice, AV.cells, AV.known, AV.flat, Value.oneCell', List.getD_cons_zero, List.getD_cons_succ, List.set, List.length_cons, List.length_nil, List.all_cons, List.all_nil, List.drop_succ_cons, List.drop_zero, List.take_succ_cons, List.take_zero, List.nil_append, List.append_nil, List.getElem?_cons_zero, List.getElem?_cons_succ, Option.bind_some, List.getElem?_toArray, true_and, and_true, Bool.and_true, Bool.true_and, Bool.and_self, Bool.false_eq_true, ↓reduceIte, Nat.reduceAdd, Nat.le_refl, Nat.zero_add, loopX_exit, a1]
        apply hK
        simp only [Tryd.results11, retK, ares, List.take_nil, Bool.and_true, Bool.true_and, AV.ofResults, St.trunc, truncVs, truncV, aload, acell, T, TI.isAgg, List.getD_cons_zero, List.getD_cons_succ, List.take_zero, List.take_succ_cons, List.drop_zero, List.map_nil, List.getElem?_cons_zero, List.getElem?_cons_succ, List.length_cons, List.length_nil, Nat.reduceAdd, Nat.reduceLeDiff, Nat.le_refl, true_and, and_true, ↓reduceIte, List.cons.injEq, exists_eq_left']
        rw [sl_full hpl, sl_full hcl2]
        rfl
end Go.Proofs.YthlfbdkhcejlmaaDoor
