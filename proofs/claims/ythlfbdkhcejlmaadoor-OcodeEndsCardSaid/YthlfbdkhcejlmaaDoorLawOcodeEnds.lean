/- OcodeEnds: the law by its contract. -/
import Derived.Test.YthlfbdkhcejlmaaDoorLawOcode
namespace Go.Proofs.YthlfbdkhcejlmaaDoor
open Go Go.Proofs.YthlfbdkhcejlmaaDoor.Sym
set_option maxRecDepth 100000
set_option linter.unusedSimpArgs false
set_option linter.unusedVariables false

theorem rd_ends (l : List Int) (n : Nat) : rd (l ++ List.replicate n 0) = rd l := by
  funext q
  rw [rd, rd, List.getD_eq_getElem?_getD, List.getD_eq_getElem?_getD]
  by_cases h : q < l.length
  · rw [List.getElem?_append_left h]
  · rw [List.getElem?_append_right (by omega), List.getElem?_eq_none (l := l) (by omega), List.getElem?_replicate]
    split <;> rfl
section
variable {l m : List Int} (h : rd m = rd l)
include h
theorem opAt_same (q : Nat) : opAt m q = opAt l q := by
  simp only [opAt, unsAt, h]
theorem opsF_same (q : Nat) : ∀ i, opsF m q i = opsF l q i
  | 0 => rfl
  | i + 1 => by rw [opsF, opsF, opsF_same q i, opAt_same h]
theorem clientsF_same (q : Nat) : ∀ i, clientsF m q i = clientsF l q i
  | 0 => rfl
  | i + 1 => by
    have e : ∀ q, manyOps m q = manyOps l q := fun q => by rw [manyOps, manyOps, h]
    rw [clientsF, clientsF, clientsF_same q i, e, opsF_same h]
theorem readF_same : readF m = { readF l with picks := (readF m).picks } := by
  simp only [readF, h, clientsF_same h]
end
theorem picks_more (l : List Int) (n : Nat) : (readF l).picks.length ≤ (readF (l ++ List.replicate n 0)).picks.length := by
  have h := rd_ends l n
  simp only [readF, picksF, List.length_map, List.length_range, h, clientsF_same h, nPicks, List.length_append, List.length_replicate]
  omega
theorem nil_picks (x : Scr) : weak (.agg [i64 x.stripes, i64 x.sessions, i64 x.queue, i64 x.watches, i64 x.retries, u64 x.epochs, u64 x.start, .sl 1 (x.clients.map opav), .v (.slice none 0 0)]) (Scr.mk x.stripes x.sessions x.queue x.watches x.retries x.epochs x.start x.clients []).av :=
  .inr ⟨_, rfl, _, _, rfl, weak_refl _, _, _, rfl, weak_refl _, _, _, rfl, weak_refl _, _, _, rfl, weak_refl _, _, _, rfl, weak_refl _, _, _, rfl, weak_refl _, _, _, rfl, weak_refl _, _, _, rfl, weak_refl _, _, _, rfl, weak_nil 3, rfl⟩
theorem bytes_ends {l : List Int} (h : Bytes l) (n : Nat) : Bytes (l ++ List.replicate n 0) := by
  intro m hm
  rcases List.mem_append.1 hm with hm | hm
  · exact h m hm
  · obtain rfl := (List.mem_replicate.1 hm).2; omega
theorem bav_ends (l : List Int) (n : Nat) : bav l ++ List.replicate n (u8 0) = bav (l ++ List.replicate n 0) := by
  simp [bav]

def shapesOcodeEnds : List (Bool × List Lf) := [(false, [.sl 1 false [.int .u8]]), (false, [.int .u8])]
theorem shapesOcodeEnds_ok : argShapes T 6 [22, 5] = some shapesOcodeEnds := by kernel_rfl

theorem law_ends (l : List Int) (n : Int) (hl : l.length ≤ maxLen) (hb : Bytes l) (hn : 0 ≤ n ∧ n ≤ 255) :
    PCall P 4 [.sl 1 (bav l), u8 n] (fun x => x = .v (.bool true)) := by
  refine pcall_go tyOk Tryd.func4 rfl rfl ?_
  intro K hK
  simp only [Tryd.ntmps4, List.length_cons, List.length_nil, Nat.reduceAdd, Nat.reduceSub, List.replicate, List.cons_append, List.nil_append]
  try simp (maxSteps := 1000000) only [go_region, go_seq, go_ops_nil, go_op, opK_none, opK_some, contK_some, callOf, callK_eq, callJ_nil, callD_fn, fstep, fpre, fstep0, evs, St.ev, St.put, ownersAll, List.set, List.append_nil, true_and, Bool.true_and]
  (refine callG_use law12_awake rfl ?_; rintro _ rfl)
  try simp (maxSteps := 1000000) only [go_cond, go_ops_nil, go_op, go_guard, opK_none, contK_some, guardK_eq, guardV_ff, callOf, fstep, fpre, fstep0, fbinA, fbin, fbin0, funary, flen, fpick, T, St.ev, St.put, List.getD_cons_zero, List.getD_cons_succ, List.set, List.getElem?_cons_zero, List.getElem?_cons_succ, Option.bind_some, List.getElem?_toArray, true_and, Bool.true_and, Bool.not_true, cond_false, bav_len]
  (first | refine guardV_split ?_ ?_ | refine condK_split ?_ ?_ | refine drawV_split ?_ ?_ | refine condY_split ?_ ?_ | refine guardY_split ?_ ?_) <;> intro h0
  · try simp (maxSteps := 1000000) only [go_region, go_seq, go_op, opK_some, condK_t, callOf, callK_eq, callJ_nil, callD_fn, evs, St.ev, ownersAll, List.append_nil]
    (refine callG_use law12_awake rfl ?_; rintro _ rfl)
    try simp (maxSteps := 1000000) only [go_ret, go_ops_nil, go_op, opK_none, contK_some, callOf, fstep, fpre, fstep0, St.ev, St.put, List.getD_cons_zero, List.getD_cons_succ, List.set, true_and, Bool.true_and]
    apply hK
    simp only [Tryd.results4, retK, ares, List.take_nil, Bool.and_true, Bool.true_and, AV.ofResults, St.trunc, truncVs, truncV, List.getD_cons_zero, List.getD_cons_succ, List.map_nil, true_and, and_true, List.cons.injEq, exists_eq_left']
  · have hlen : l.length ≤ 50000 := by have : ¬ ((50000 : Int) < l.length) := by simpa using h0
                                       omega
    obtain ⟨⟨f1, f2⟩, f3, f4⟩ := readF_fine hb
    have hb2 := bytes_ends hb n.toNat
    have ewn : IntKind.i64.wrap n = n := wrap_i64 hn.1 (by omega)
    have hlm : (l ++ List.replicate n.toNat 0).length ≤ 50255 := by simp; omega
    have hsame := readF_same (rd_ends l n.toNat)
    have hmore := picks_more l n.toNat
    have hbe := bav_ends l n.toNat
    have hr2 := ocode_Read (l ++ List.replicate n.toNat 0) (by omega) hb2
    generalize hM : l ++ List.replicate n.toNat 0 = M at *
    try simp (maxSteps := 1000000) only [go_skip, go_region, go_seq, go_op, opK_none, opK_some, contK_some, condK_f, callOf, callK_eq, callJ_nil, callD_fn, fstep, fpre, fstep0, evs, St.ev, St.put, AV.owners, ownersAll, List.getD_cons_zero, List.getD_cons_succ, List.set, List.append_nil, true_and, Bool.true_and]
    (refine callG_use (ocode_Read l (by omega) hb) rfl ?_; rintro _ rfl)
    have hpm := (readF_fine hb2).2.2
    generalize readF l = x at *
    have hS0 := ref12_Same (Scr.mk x.stripes x.sessions x.queue x.watches x.retries x.epochs x.start x.clients []) (by simp only; omega) (fun c hc => ⟨by have := (f3 c hc).1; omega, fun o ho => by have := ((f3 c hc).2 o ho).users; omega⟩) (by simp)
    have hS := PCall.weakArgs hS0 (args := [_, _]) ⟨_, _, rfl, nil_picks x, _, _, rfl, nil_picks x, rfl⟩
    rw [hsame] at hr2
    generalize (readF M).picks = pk at *
    have d1 : decide ((pk.length : Int) < (x.picks.length : Int)) = false := by simp; omega
    try simp (maxSteps := 1000000) only [go_region, go_seq, go_ops_nil, go_op, opK_none, opK_some, contK_some, undef, callOf, callK_eq, callJ_cons, fstep, fpre, fpost, fstep0, gappend, gapp, fstore, evParts, evOwners, fbuildSlice, fconvA, fconvert, felems, fappend, evs, T, TI.isAgg, TI.zeroOk, TI.zav, setParts, partsOk, St.ev, St.put, St.shutAll, St.rehome, killV, killVs, AB.kill, splice, AV.cells, AV.known, AV.flat, AV.owners, ownersAll, Value.oneCell', List.getD_cons_zero, List.getD_cons_succ, List.set, List.map_cons, List.map_nil, List.length_cons, List.length_nil, List.all_cons, List.all_nil, List.drop_succ_cons, List.drop_zero, List.take_zero, List.headD_cons, List.cons_append, List.nil_append, List.append_nil, List.getElem?_cons_zero, List.getElem?_cons_succ, List.replicate, true_and, and_true, Bool.and_true, Bool.true_and, Bool.and_self, Bool.or_true, Bool.false_eq_true, ↓reduceIte, decide_true, reduceCtorEq, Nat.reduceAdd, Nat.reduceMul, Nat.reduceLT, Nat.zero_le, Nat.le_refl, Nat.zero_add, List.length_replicate, Scr.av, bav_len, ewn]
    refine ⟨⟨by simp only [maxLen]; omega, by omega⟩, ⟨by omega, by omega, by omega, by simp only [maxLen]; omega, by omega⟩, ?_⟩
    have hMl : M.length = l.length + n.toNat := by rw [← hM]; simp
    refine callO_shut ?_
    try simp (maxSteps := 1000000) only [callH_fn, evs, St.ev, St.shutAll, St.shut, shutV, shutVs, AB.shut, List.getD_cons_zero, List.getD_cons_succ, List.set, List.map_cons, List.map_nil, List.all_cons, List.all_nil, List.drop_zero, List.append_nil, List.getElem?_cons_zero, List.getElem?_cons_succ, true_and, Bool.true_and, Bool.and_self, ↓reduceIte, decide_true, reduceCtorEq, Nat.zero_le, Nat.zero_add, List.length_append, List.length_replicate]
    rw [if_pos (by rw [bav_len]; exact Nat.le_refl _), List.take_of_length_le (by simp [bav_len]), hbe]
    (refine callG_use hr2 rfl ?_; rintro _ rfl)
    try simp (maxSteps := 1000000) only [go_skip, go_region, go_seq, go_cond, go_ops_nil, go_op, opK_none, opK_some, contK_some, condK_f, callOf, callK_eq, callJ_nil, callD_fn, fstep, fpre, fstep0, fbinA, fbin, fbin0, fload, fcell, fstore, ffieldAddr, flen, evs, T, TI.isAgg, St.ev, St.put, splice, AV.cells, AV.known, AV.flat, AV.owners, ownersAll, Value.cells, Value.oneCell', List.getD_cons_zero, List.getD_cons_succ, List.set, List.map_cons, List.map_nil, List.length_cons, List.length_nil, List.all_cons, List.all_nil, List.drop_succ_cons, List.drop_zero, List.take_succ_cons, List.take_zero, List.headD_cons, List.cons_append, List.nil_append, List.append_nil, List.getElem?_cons_zero, List.getElem?_cons_succ, List.getElem?_toArray, true_and, and_true, Bool.and_true, Bool.true_and, Bool.and_self, Bool.false_eq_true, ↓reduceIte, reduceCtorEq, ne_eq, not_false_eq_true, Nat.reduceAdd, Nat.reduceLT, Nat.le_refl, Nat.zero_add, Scr.av, List.length_map, d1]
    (refine callG_use hS rfl ?_; rintro _ rfl)
    try simp (maxSteps := 1000000) only [go_ret, go_ops_nil, go_op, opK_none, contK_some, callOf, fstep, fpre, fstep0, St.ev, St.put, List.getD_cons_zero, List.getD_cons_succ, List.set, true_and, Bool.true_and]
    apply hK
    simp only [Tryd.results4, retK, ares, Bool.and_true, Bool.true_and, AV.ofResults, St.trunc, truncVs, truncV, List.getD_cons_zero, List.getD_cons_succ, List.take_zero, List.map_nil, true_and, and_true, List.cons.injEq, exists_eq_left']

theorem law_OcodeEnds (xs : List AV) (h : argsFit shapesOcodeEnds xs) : PCall P 4 xs (fun x => x = .v (.bool true)) := by
  obtain ⟨_, _, rfl, ⟨_, _, rfl, ⟨ys, rfl, hlen, hys⟩, rfl⟩, _, _, rfl, ⟨_, _, rfl, ⟨x, rfl, hx⟩, rfl⟩, rfl⟩ := h
  obtain ⟨l, rfl, hb⟩ := fits_bytes hys
  rw [bav_len] at hlen
  exact law_ends l x hlen hb (lit_u8 hx)
end Go.Proofs.YthlfbdkhcejlmaaDoor
