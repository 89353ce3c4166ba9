/- The row of OpLost, out of its contract. Printed by row.py, a program of this session. -/
import Derived.Test.YtinkcffklomneaaDoorMd
import Derived.Test.YtinkcffklomneaaDoorSymU
import Derived.Test.YtinkcffklomneaaDoorSymZc
import Derived.Test.YtinkcffklomneaaDoorMa
import Derived.PinnedBridge
import Derived.Test.YtinkcffklomneaaDoorRows
import Derived.LaidMore
import Derived.Lib.LaidTab
import Derived.MakeChecks
import Derived.OpenShut
import Derived.ChangeArms
import Derived.FnData
import Derived.Lay
import Derived.LaidOnce
import Derived.Test.YtinkcffklomneaaDoorTie
import Derived.Test.YtinkcffklomneaaDoorCards
import Derived.SevenTiedAt
namespace Go.Proofs.YtinkcffklomneaaDoor
open Go Go.Proofs.YtinkcffklomneaaDoor.Sym
set_option maxRecDepth 100000
set_option linter.unusedSimpArgs false
set_option linter.unusedVariables false
abbrev annS : ByteArray := ⟨#[97, 110, 110]⟩
theorem quo_ann : quo annS = ⟨#[34, 97, 110, 110, 34]⟩ := by decide +kernel
theorem ann_line : (⟨1, annS, 1, 2, 0, 5, []⟩ : Opv).line = ⟨#[115, 101, 116, 32, 34, 97, 110, 110, 34, 32, 49, 32, 50, 32, 48, 32, 53]⟩ := by
  have d0 : dgt 0 = ⟨#[48]⟩ := by rw [dgt, Lib.decDigits_one (by omega)]; rfl
  have d1 : dgt 1 = ⟨#[49]⟩ := by rw [dgt, Lib.decDigits_one (by omega)]; rfl
  have d2 : dgt 2 = ⟨#[50]⟩ := by rw [dgt, Lib.decDigits_one (by omega)]; rfl
  have d5 : dgt 5 = ⟨#[53]⟩ := by rw [dgt, Lib.decDigits_one (by omega)]; rfl
  have i0 : itB 0 = ⟨#[48]⟩ := by rw [itB, if_neg (by omega)]; exact d0
  have i1 : itB 1 = ⟨#[49]⟩ := by rw [itB, if_neg (by omega)]; exact d1
  have i2 : itB 2 = ⟨#[50]⟩ := by rw [itB, if_neg (by omega)]; exact d2
  rw [Opv.line, if_neg (by simp), Opv.words, if_pos rfl]
  simp only [quo_ann, i0, i1, i2, d5]
  decide +kernel
theorem ann_ok : (⟨1, annS, 1, 2, 0, 5, []⟩ : Opv).ok := ⟨⟨by decide, by decide⟩, ⟨by decide, by decide⟩, ⟨by decide, by decide⟩, by decide, by decide, by decide, fun y hy => by cases hy⟩
theorem law11_awake : PCall P 8 [] (fun x => x = bool true) := by
  refine pcall_go tyOk Tryd.func8 rfl rfl ?_
  intro K hK
  simp only [Tryd.ntmps8, List.length_nil, Nat.reduceSub, List.replicate, List.nil_append]
  have w : PCall P 11 [.agg [i64 1, str annS, i64 1, i64 2, i64 0, u64 5, .v (.slice none 0 0)]] (fun y => y = str (⟨1, annS, 1, 2, 0, 5, []⟩ : Opv).line) :=
    PCall.weakArgs (op_Line ⟨1, annS, 1, 2, 0, 5, []⟩ ann_ok) ⟨_, _, rfl, .inr ⟨_, rfl, _, _, rfl, weak_refl _, _, _, rfl, weak_refl _, _, _, rfl, weak_refl _, _, _, rfl, weak_refl _, _, _, rfl, weak_refl _, _, _, rfl, weak_refl _, _, _, rfl, weak_nil 1, rfl⟩, rfl⟩
  rw [ann_line] at w
  try simp (maxSteps := 1000000) only [go_region, go_seq, go_ops_nil, go_op, opK_none, opK_some, contK_some, callOf, callK_eq, callJ_nil, callD_fn, fstep, fpre, fstep0, ffill, fieldPlaces, fieldsOk, fbuild, evParts, evs, T, St.ev, St.put, splice, AV.cells, AV.known, AV.owners, ownersAll, Value.cells, List.getD_cons_zero, List.getD_cons_succ, List.set, List.map_cons, List.map_nil, List.length_cons, List.length_nil, List.drop_succ_cons, List.drop_zero, List.take_succ_cons, List.take_zero, List.cons_append, List.nil_append, List.append_nil, List.getElem?_cons_zero, List.getElem?_cons_succ, Option.isSome_some, List.getElem?_toArray, true_and, and_true, Bool.and_true, Bool.true_and, Bool.and_self, Nat.reduceAdd, Nat.reduceLeDiff, Nat.zero_add]
  (refine callG_use w rfl ?_; rintro _ rfl)
  try simp (maxSteps := 1000000) only [go_ret, go_ops_nil, go_op, opK_none, contK_some, callOf, fstep, fpre, fstep0, fbinA, fbin, fbin0, St.ev, St.put, List.getD_cons_zero, List.getD_cons_succ, List.set, true_and, Bool.true_and, beq_self_eq_true]
  apply hK
  simp only [Tryd.results8, retK, ares, List.take_nil, Bool.and_true, Bool.true_and, AV.ofResults, St.trunc, truncVs, truncV, List.getD_cons_zero, List.map_nil, true_and, and_true, List.cons.injEq, exists_eq_left']

/-- Has an op few and short names? -/
def Opv.short (x : Opv) : Bool := decide (x.user.size ≤ 40 ∧ x.users.length ≤ 20 ∧ ∀ y ∈ x.users, y.size ≤ 40)
theorem ref_Short (x : Opv) (hl : x.users.length ≤ 9223372036854775807) : PCall P 9 [x.av] (fun y => y = bool x.short) := by
  refine pcall_go tyOk Tryd.func9 rfl rfl ?_
  intro K hK
  simp only [Tryd.ntmps9, List.length_cons, List.length_nil, Nat.reduceAdd, Nat.reduceSub, List.replicate, List.cons_append, List.nil_append]
  by_cases h1 : x.user.size ≤ 40
  · have c1 : decide ((40 : Int) < (x.user.size : Int)) = false := decide_eq_false (by omega)
    have c1' : decide ((x.user.size : Int) > (40 : Int)) = false := decide_eq_false (by omega)
    by_cases h2 : x.users.length ≤ 20
    · have c2 : decide ((20 : Int) < (x.users.length : Int)) = false := decide_eq_false (by omega)
      have c2' : decide ((x.users.length : Int) > (20 : Int)) = false := decide_eq_false (by omega)
      try simp (maxSteps := 1000000) only [go_skip, go_region, go_seq, go_cond, go_block, go_loop, go_ops_nil, go_op, go_guard, opK_none, contK_some, condK_f, guardK_eq, guardV_ff, callOf, fstep, fpre, fstep0, fbinA, fbin, fbin0, fload, fcell, ffieldAddr, flen, fpick, T, TI.isAgg, St.ev, St.put, AV.cells, AV.known, List.getD_cons_zero, List.getD_cons_succ, List.set, List.length_cons, List.length_nil, List.drop_succ_cons, List.drop_zero, List.headD_cons, List.nil_append, List.getElem?_cons_zero, List.getElem?_cons_succ, Option.bind_some, List.getElem?_toArray, true_and, Bool.true_and, Bool.false_eq_true, ↓reduceIte, reduceCtorEq, ne_eq, not_false_eq_true, Nat.reduceAdd, Nat.reduceLT, Nat.zero_add, cond_false, c1, c2, strs_len]
      refine loopK_rule tyOk (α := Nat) 1 [1, 3] (fun i => i ≤ x.users.length ∧ ∀ y ∈ x.users.take i, y.size ≤ 40)
        (fun i => ⟨[.any, .ptr 0 0, .any, i64 i, .any, .any, .any, .any, .any, .any, .any, .any, .any, .any, .any, .any, .any, .any, .any, .any, .any, .any, .any, .any, .any, .any, .any, .any], [.box x.cells]⟩)
        (fun i => x.users.length - i) 0 (by simp) ⟨Nat.zero_le _, fun y hy => by simp at hy⟩ rfl ?_
      rintro i ⟨hi, hall⟩
      try simp (maxSteps := 1000000) only [go_region, go_seq, go_cond, go_ops_nil, go_op, opK_none, contK_some, callOf, fstep, fpre, fstep0, fbinA, fbin, fbin0, fload, fcell, ffieldAddr, flen, T, TI.isAgg, St.ev, St.put, List.getD_cons_zero, List.getD_cons_succ, List.set, List.length_cons, List.length_nil, List.drop_succ_cons, List.drop_zero, List.headD_cons, List.getElem?_cons_zero, List.getElem?_cons_succ, List.getElem?_toArray, true_and, Bool.true_and, Bool.false_eq_true, ↓reduceIte, reduceCtorEq, ne_eq, not_false_eq_true, Nat.reduceLT, Nat.zero_add, strs_len]
      (first | refine guardV_split ?_ ?_ | refine condK_split ?_ ?_ | refine drawV_split ?_ ?_ | refine condY_split ?_ ?_ | refine guardY_split ?_ ?_) <;> intro hf <;> try simp (maxSteps := 1000000) only [go_skip, go_region, go_seq, go_block, go_exit, go_ret, exitK_code, exitK_blk, exitK_nil, go_ops_nil, go_op, opK_none, contK_some, condK_t, condK_f, callOf, fstep, fpre, fpost, fstep0, fload, fcell, ffieldAddr, findexAddr, flen, T, TI.isAgg, St.ev, St.put, AV.cells, AV.known, Value.cells, List.getD_cons_zero, List.getD_cons_succ, List.set, List.length_cons, List.length_nil, List.drop_succ_cons, List.drop_zero, List.headD_cons, List.getElem?_cons_zero, List.getElem?_cons_succ, List.getElem?_toArray, true_and, Bool.true_and, Bool.false_eq_true, ↓reduceIte, reduceCtorEq, ne_eq, not_false_eq_true, Nat.reduceLT, Nat.zero_add, loopX_exit]
      · have hlt : i < x.users.length := by simpa using hf
        have eg := strs_get hlt
        have ew : IntKind.i64.wrap ((i : Int) + 1) = ((i + 1 : Nat) : Int) := by rw [wrap_i64 (by omega) (by omega)]; rfl
        have b1 : (0 : Int) ≤ (i : Int) ∧ Int.toNat (i : Int) < x.users.length := by omega
        try simp (maxSteps := 1000000) only [go_cond, go_ops_nil, go_op, opK_none, contK_some, callOf, fstep, fpre, fstep0, fbinA, fbin, fbin0, St.ev, St.put, List.getD_cons_zero, List.getD_cons_succ, List.set, List.map_cons, List.map_nil, List.length_cons, List.length_nil, List.headD_cons, true_and, and_true, Bool.and_true, Bool.true_and, Nat.reduceLT, Nat.zero_add, eg, b1, strs_len]
        by_cases h3 : (x.users[i]).size ≤ 40
        · have c3 : decide ((40 : Int) < ((x.users[i]).size : Int)) = false := decide_eq_false (by omega)
          have c3' : decide (((x.users[i]).size : Int) > (40 : Int)) = false := decide_eq_false (by omega)
          try simp (maxSteps := 1000000) only [go_nil, go_skip, go_region, go_blk, go_ops_nil, go_op, opK_none, contK_some, condK_f, callOf, fstep, fpre, fstep0, fbinA, fbin, fbin0, St.ev, St.put, List.getD_cons_zero, List.getD_cons_succ, List.set, true_and, Bool.true_and, c3, ew]
          simp only [loopX_normal, St.trunc, St.keep, truncVs, truncV, AB.trunc, keepV, List.elem_cons, List.elem_nil, List.take_succ_cons, List.take_zero, List.map_cons, List.map_nil, Nat.reduceAdd, Nat.reduceBEq, Nat.reduceLeDiff, Nat.zero_add, Bool.false_eq_true, ↓reduceIte]
          refine ⟨i + 1, ⟨hlt, fun y hy => ?_⟩, by omega, rfl⟩
          rw [List.take_succ_eq_append_getElem hlt] at hy
          rcases List.mem_append.1 hy with hy | hy
          · exact hall y hy
          · simp at hy; subst hy; exact h3
        · have c3 : decide ((40 : Int) < ((x.users[i]).size : Int)) = true := decide_eq_true (by omega)
          have c3' : decide (((x.users[i]).size : Int) > (40 : Int)) = true := decide_eq_true (by omega)
          have he : x.short = false := by
            unfold Opv.short
            exact decide_eq_false (fun h => h3 (h.2.2 _ (List.getElem_mem hlt)))
          rw [he] at hK
          try simp (maxSteps := 1000000) only [go_region, go_seq, go_ret, go_ops_nil, go_op, opK_none, contK_some, condK_t, callOf, fstep, fpre, fstep0, St.ev, St.put, List.set, true_and, Bool.true_and, loopX_ret, c3]
          apply hK
          simp only [Tryd.results9, retK, ares, Bool.and_true, Bool.true_and, AV.ofResults, St.trunc, truncVs, truncV, List.getD_cons_zero, List.getD_cons_succ, List.take_zero, List.map_nil, true_and, and_true, List.cons.injEq, exists_eq_left']
      · obtain rfl : i = x.users.length := by have := of_decide_eq_false hf; omega
        rw [List.take_length] at hall
        have he : x.short = true := decide_eq_true ⟨h1, h2, hall⟩
        rw [he] at hK
        apply hK
        simp only [Tryd.results9, retK, ares, Bool.and_true, Bool.true_and, AV.ofResults, St.trunc, truncVs, truncV, List.getD_cons_zero, List.getD_cons_succ, List.take_zero, List.map_nil, true_and, and_true, List.cons.injEq, exists_eq_left']
    · have c2 : decide ((20 : Int) < (x.users.length : Int)) = true := decide_eq_true (by omega)
      have c2' : decide ((x.users.length : Int) > (20 : Int)) = true := decide_eq_true (by omega)
      have he : x.short = false := decide_eq_false (fun h => h2 h.2.1)
      rw [he] at hK
      try simp (maxSteps := 1000000) only [go_region, go_seq, go_cond, go_ret, go_ops_nil, go_op, go_guard, opK_none, contK_some, condK_t, guardK_eq, guardV_ff, callOf, fstep, fpre, fstep0, fbinA, fbin, fbin0, fload, fcell, ffieldAddr, flen, fpick, T, TI.isAgg, St.ev, St.put, AV.cells, AV.known, List.getD_cons_zero, List.getD_cons_succ, List.set, List.length_cons, List.length_nil, List.drop_succ_cons, List.drop_zero, List.headD_cons, List.nil_append, List.getElem?_cons_zero, List.getElem?_cons_succ, Option.bind_some, List.getElem?_toArray, true_and, Bool.true_and, Bool.false_eq_true, ↓reduceIte, reduceCtorEq, ne_eq, not_false_eq_true, Nat.reduceAdd, Nat.reduceLT, Nat.zero_add, cond_false, c1, c2, strs_len]
      apply hK
      simp only [Tryd.results9, retK, ares, Bool.and_true, Bool.true_and, AV.ofResults, St.trunc, truncVs, truncV, List.getD_cons_zero, List.getD_cons_succ, List.take_zero, List.map_nil, true_and, and_true, List.cons.injEq, exists_eq_left']
  · have c1 : decide ((40 : Int) < (x.user.size : Int)) = true := decide_eq_true (by omega)
    have c1' : decide ((x.user.size : Int) > (40 : Int)) = true := decide_eq_true (by omega)
    have he : x.short = false := decide_eq_false (fun h => h1 h.1)
    rw [he] at hK
    try simp (maxSteps := 1000000) only [go_region, go_seq, go_cond, go_ret, go_ops_nil, go_op, go_guard, opK_none, contK_some, condK_t, guardK_eq, guardV_tf, undef, callOf, fstep, fpre, fstep0, fbinA, fbin, fbin0, fload, fcell, ffieldAddr, flen, fpick, T, TI.isAgg, St.ev, St.put, AV.cells, AV.known, List.getD_cons_zero, List.getD_cons_succ, List.set, List.length_cons, List.length_nil, List.drop_succ_cons, List.drop_zero, List.headD_cons, List.nil_append, List.getElem?_cons_zero, List.getElem?_cons_succ, Option.bind_some, List.getElem?_toArray, true_and, Bool.true_and, Bool.false_eq_true, ↓reduceIte, reduceCtorEq, ne_eq, not_false_eq_true, Nat.reduceAdd, Nat.reduceLT, Nat.zero_add, c1]
    apply hK
    simp only [Tryd.results9, retK, ares, Bool.and_true, Bool.true_and, AV.ofResults, St.trunc, truncVs, truncV, List.getD_cons_zero, List.getD_cons_succ, List.take_zero, List.map_nil, true_and, and_true, List.cons.injEq, exists_eq_left']

/-- What is known of any op. -/
structure Opv.fit (x : Opv) : Prop where
  kind : In64 x.kind
  id : In64 x.id
  st : In64 x.st
  pr : In64 x.pr
  ttl : x.ttl < 18446744073709551616
  len : x.users.length ≤ 9223372036854775807
theorem Opv.fit.ok {x : Opv} (h : x.fit) (hs : x.short = true) : x.ok := by
  obtain ⟨h1, h2, h3⟩ := of_decide_eq_true hs
  exact ⟨h.id, h.st, h.pr, h.ttl, h1, h2, h3⟩
theorem lit_i64 {n : Int} (h : (Lit.int .i64 n).wf = true) : In64 n := by
  simpa [Lit.wf, IntKind.min, IntKind.max, IntKind.signed, IntKind.bits, In64] using h
theorem lit_u64 {n : Int} (h : (Lit.int .u64 n).wf = true) : 0 ≤ n ∧ n ≤ 18446744073709551615 := by
  simpa [Lit.wf, IntKind.min, IntKind.max, IntKind.signed, IntKind.bits] using h
theorem fits_strs {ys : List AV} (h : ∀ y ∈ ys, ∃ zs, fitsAll [.str] zs ∧ y = pack false zs) : ∃ l : List ByteArray, ys = strs l := by
  induction ys with
  | nil => exact ⟨[], rfl⟩
  | cons y ys ih =>
    obtain ⟨l, rfl⟩ := ih (fun z hz => h z (by simp [hz]))
    obtain ⟨zs, ⟨_, _, rfl, ⟨s, rfl, _⟩, rfl⟩, rfl⟩ := h y (by simp)
    exact ⟨s :: l, rfl⟩
theorem fits_op {zs : List AV} (h : fitsAll [.int .i64, .str, .int .i64, .int .i64, .int .i64, .int .u64, .sl 1 false [.str]] zs) : ∃ o : Opv, AV.agg zs = o.av ∧ o.fit := by
  obtain ⟨_, _, rfl, ⟨a, rfl, ha⟩, _, _, rfl, ⟨u, rfl, _⟩, _, _, rfl, ⟨b, rfl, hb⟩, _, _, rfl, ⟨c, rfl, hc⟩, _, _, rfl, ⟨d, rfl, hd⟩, _, _, rfl, ⟨t, rfl, ht⟩, _, _, rfl, ⟨ys, rfl, hlen, hys⟩, rfl⟩ := h
  obtain ⟨us, rfl⟩ := fits_strs hys
  have ht := lit_u64 ht
  obtain ⟨t, rfl⟩ : ∃ n : Nat, t = n := ⟨t.toNat, by omega⟩
  exact ⟨⟨a, u, b, c, d, t, us⟩, rfl, lit_i64 ha, lit_i64 hb, lit_i64 hc, lit_i64 hd, by simp only; omega, by simpa [maxLen] using hlen⟩
theorem fits_pr {zs : List AV} (h : fitsAll [.int .i64, .int .i64, .int .i64] zs) : ∃ p : Pr, AV.agg zs = p.av ∧ p.ok := by
  obtain ⟨_, _, rfl, ⟨a, rfl, ha⟩, _, _, rfl, ⟨b, rfl, hb⟩, _, _, rfl, ⟨c, rfl, hc⟩, rfl⟩ := h
  exact ⟨⟨a, b, c⟩, rfl, lit_i64 ha, lit_i64 hb, lit_i64 hc⟩
theorem fits_prs {ys : List AV} (h : ∀ y ∈ ys, ∃ zs, fitsAll [.int .i64, .int .i64, .int .i64] zs ∧ y = pack true zs) : ∃ l : List Pr, ys = prL l ∧ ∀ p ∈ l, p.ok := by
  induction ys with
  | nil => exact ⟨[], rfl, fun p hp => by cases hp⟩
  | cons y ys ih =>
    obtain ⟨l, rfl, hl⟩ := ih (fun z hz => h z (by simp [hz]))
    obtain ⟨zs, hz, rfl⟩ := h y (by simp)
    obtain ⟨p, e, hp⟩ := fits_pr hz
    exact ⟨p :: l, by rw [show pack true zs = AV.agg zs from rfl, e]; rfl, fun q hq => by
      rcases List.mem_cons.1 hq with rfl | hq
      · exact hp
      · exact hl q hq⟩
/-- Of an event all but how long its name is. -/
structure Ev.fit (e : Ev) : Prop where
  old : e.old.ok
  new : e.new.ok
  seq : e.seq < 18446744073709551616
theorem fits_evs {ys : List AV} (h : ∀ y ∈ ys, ∃ zs, fitsAll [.str, .int .i64, .int .i64, .int .i64, .int .i64, .int .i64, .int .i64, .int .u64] zs ∧ y = pack true zs) : ∃ l : List Ev, ys = evL l ∧ ∀ e ∈ l, e.fit := by
  induction ys with
  | nil => exact ⟨[], rfl, fun p hp => by cases hp⟩
  | cons y ys ih =>
    obtain ⟨l, rfl, hl⟩ := ih (fun z hz => h z (by simp [hz]))
    obtain ⟨zs, ⟨_, _, rfl, ⟨u, rfl, _⟩, _, _, rfl, ⟨a, rfl, ha⟩, _, _, rfl, ⟨b, rfl, hb⟩, _, _, rfl, ⟨c, rfl, hc⟩, _, _, rfl, ⟨d, rfl, hd⟩, _, _, rfl, ⟨e, rfl, he⟩, _, _, rfl, ⟨f, rfl, hf⟩, _, _, rfl, ⟨t, rfl, ht⟩, rfl⟩, rfl⟩ := h y (by simp)
    have ht := lit_u64 ht
    obtain ⟨t, rfl⟩ : ∃ n : Nat, t = n := ⟨t.toNat, by omega⟩
    exact ⟨⟨u, ⟨a, b, c⟩, ⟨d, e, f⟩, t⟩ :: l, rfl, fun q hq => by
      rcases List.mem_cons.1 hq with rfl | hq
      · exact ⟨⟨lit_i64 ha, lit_i64 hb, lit_i64 hc⟩, ⟨lit_i64 hd, lit_i64 he, lit_i64 hf⟩, by simp only; omega⟩
      · exact hl q hq⟩
structure Rep.fit (r : Rep) : Prop where
  err : In64 r.err
  nv : r.vals.length ≤ 9223372036854775807
  ne : r.evts.length ≤ 9223372036854775807
  vals : ∀ p ∈ r.vals, p.ok
  evts : ∀ e ∈ r.evts, e.fit
theorem fits_rep {zs : List AV} (h : fitsAll [.int .i64, .sl 3 true [.int .i64, .int .i64, .int .i64], .sl 8 true [.str, .int .i64, .int .i64, .int .i64, .int .i64, .int .i64, .int .i64, .int .u64], .bool] zs) : ∃ r : Rep, AV.agg zs = r.av ∧ r.fit := by
  obtain ⟨_, _, rfl, ⟨a, rfl, ha⟩, _, _, rfl, ⟨ys, rfl, hy, hys⟩, _, _, rfl, ⟨es, rfl, he, hes⟩, _, _, rfl, ⟨b, rfl⟩, rfl⟩ := h
  obtain ⟨ps, rfl, hp⟩ := fits_prs hys
  obtain ⟨el, rfl, hel⟩ := fits_evs hes
  exact ⟨⟨a, ps, el, b⟩, rfl, lit_i64 ha, by simpa [maxLen] using hy, by simpa [maxLen] using he, hp, hel⟩
theorem Rep.fit.ok {r : Rep} (h : r.fit) (h1 : r.vals.length ≤ 60) (h2 : r.evts.length ≤ 60) (h3 : ∀ e ∈ r.evts, e.user.size ≤ 100) : r.ok :=
  ⟨h.err, h1, h2, h.vals, fun e he => ⟨h3 e he, (h.evts e he).old, (h.evts e he).new, (h.evts e he).seq⟩⟩
end Go.Proofs.YtinkcffklomneaaDoor
namespace Go.Proofs.YtinkcffklomneaaDoor
open Go Go.Proofs.YtinkcffklomneaaDoor.Sym
set_option maxRecDepth 100000
set_option linter.unusedSimpArgs false
set_option linter.unusedVariables false
def shapesOpLost : List (Bool × List Lf) := [(true, [.int .i64, .sl 3 true [.int .i64, .int .i64, .int .i64], .sl 8 true [.str, .int .i64, .int .i64, .int .i64, .int .i64, .int .i64, .int .i64, .int .u64], .bool]), (false, [.int .u8])]
theorem shapesOpLost_ok : argShapes T 6 [36, 5] = some shapesOpLost := by kernel_rfl
theorem strOf_dgt8 (n : Nat) (h : n < 10) : strOf [u8 (IntKind.u8.wrap (48 + (n : Int)))] = dgt n := by
  rw [dgt, Lib.decDigits_one h]
  rcases (by omega : n = 0 ∨ n = 1 ∨ n = 2 ∨ n = 3 ∨ n = 4 ∨ n = 5 ∨ n = 6 ∨ n = 7 ∨ n = 8 ∨ n = 9) with rfl | rfl | rfl | rfl | rfl | rfl | rfl | rfl | rfl | rfl <;> rfl

theorem law_lost (r : Rep) (hr : r.fit) (e : Nat) (he : e ≤ 255) : PCall P 7 [r.av, u8 e] (fun y => y = .v (.bool true)) := by
  have hnv := hr.nv
  have hne := hr.ne
  refine pcall_go tyOk Tryd.func7 rfl rfl ?_
  intro K hK
  simp only [Tryd.ntmps7, List.length_cons, List.length_nil, Nat.reduceAdd, Nat.reduceSub, List.replicate, List.cons_append, List.nil_append]
  try simp (maxSteps := 1000000) only [go_region, go_seq, go_ops_nil, go_op, opK_none, opK_some, contK_some, callOf, callK_eq, callJ_nil, callD_fn, fstep, fpre, fstep0, evs, St.ev, St.put, AV.cells, AV.known, ownersAll, List.getD_cons_zero, List.set, List.length_nil, List.nil_append, List.append_nil, true_and, Bool.true_and]
  (refine callG_use law11_awake rfl ?_; rintro _ rfl)
  by_cases h1 : r.vals.length ≤ 60
  · have c1 : decide ((60 : Int) < (r.vals.length : Int)) = false := decide_eq_false (by omega)
    have c1' : decide ((r.vals.length : Int) > (60 : Int)) = false := decide_eq_false (by omega)
    by_cases h2 : r.evts.length ≤ 60
    · have c2 : decide ((60 : Int) < (r.evts.length : Int)) = false := decide_eq_false (by omega)
      have c2' : decide ((r.evts.length : Int) > (60 : Int)) = false := decide_eq_false (by omega)
      try simp (maxSteps := 1000000) only [go_skip, go_seq, go_cond, go_draws, go_ops_nil, go_op, go_guard, opK_none, contK_some, condK_f, guardK_eq, guardV_ff, callOf, fstep, fpre, fstep0, fbinA, fbin, fbin0, fload, fcell, ffieldAddr, funary, flen, fpick, T, TI.isAgg, St.ev, St.put, List.getD_cons_zero, List.getD_cons_succ, List.set, List.length_cons, List.length_nil, List.drop_succ_cons, List.drop_zero, List.headD_cons, List.getElem?_cons_zero, List.getElem?_cons_succ, Option.bind_some, List.getElem?_toArray, true_and, Bool.true_and, Bool.not_true, Bool.false_eq_true, ↓reduceIte, reduceCtorEq, ne_eq, not_false_eq_true, Nat.reduceAdd, Nat.reduceLT, Nat.zero_add, cond_false, prL_len, evL_len, c1, c2]
      refine draw_rule tyOk (by rfl) (by simp only [List.length_cons, List.length_nil, Nat.reduceAdd, Nat.zero_le]) (by kernel_rfl) rfl ?_
      try simp (maxSteps := 1000000) only [go_region, go_seq, go_block, go_loop, go_ops_nil, go_op, opK_none, contK_some, callOf, fstep, fpre, fstep0, fload, fcell, fstore, ffieldAddr, T, TI.isAgg, St.ev, St.put, St.rehome, killV, killVs, AB.kill, splice, AV.cells, AV.known, AV.flat, Value.cells, Value.oneCell', List.getD_cons_zero, List.getD_cons_succ, List.set, List.map_cons, List.map_nil, List.length_cons, List.length_nil, List.all_cons, List.all_nil, List.drop_succ_cons, List.drop_zero, List.take_succ_cons, List.take_zero, List.cons_append, List.nil_append, List.append_nil, List.getElem?_cons_zero, List.getElem?_cons_succ, List.replicate, List.getElem?_toArray, true_and, and_true, Bool.and_true, Bool.true_and, Bool.and_self, Bool.false_eq_true, ↓reduceIte, reduceCtorEq, ne_eq, not_false_eq_true, Nat.reduceAdd, Nat.reduceEqDiff, Nat.le_refl, Nat.add_zero, Nat.zero_add, newCount, drawR_nil, drawR_op, drawP_none, drawQ_some, dstep, isFree, dstore, St.app, bump, isNew]
      refine ⟨by kernel_rfl, ?_⟩
      skip
      refine loopK_rule tyOk (α := Nat) 3 [1, 2, 5, 6, 7] (fun i => i ≤ r.evts.length ∧ ∀ e ∈ r.evts.take i, e.user.size ≤ 100)
        (fun i => ⟨[.any, u8 e, .ptr 0 0, .any, .any, .ptr 1 0, .ptr 2 0, i64 i, .any, .any, .any, .any, .any, .any, .any, .any, .any, .any, .any, .any, .any, .any, .any, .any, .any, .any, .any, .any, .any, .any, .any, .any, .any, .any, .any, .any, .any, .any, .any, .any, .any, .any, .any, .any, .any, .any, .any, .any, .any, .any, .any, .any, .any, .any, .any, .any, .any, .any, .any, .any, .any], [.box r.cells, .box [i64 r.err, .sl 3 (prL r.vals), .sl 8 (evL r.evts), bool false], .box [i64 r.err, .sl 3 (prL r.vals), .sl 8 (evL r.evts), bool true]]⟩)
        (fun i => r.evts.length - i) 0 (by simp) ⟨Nat.zero_le _, fun y hy => by simp at hy⟩ rfl ?_
      rintro i ⟨hi, hall⟩
      try simp (maxSteps := 1000000) only [go_region, go_seq, go_cond, go_ops_nil, go_op, opK_none, contK_some, callOf, fstep, fpre, fstep0, fbinA, fbin, fbin0, fload, fcell, ffieldAddr, flen, T, TI.isAgg, St.ev, St.put, List.getD_cons_zero, List.getD_cons_succ, List.set, List.length_cons, List.length_nil, List.drop_succ_cons, List.drop_zero, List.headD_cons, List.getElem?_cons_zero, List.getElem?_cons_succ, List.getElem?_toArray, true_and, Bool.true_and, Bool.false_eq_true, ↓reduceIte, reduceCtorEq, ne_eq, not_false_eq_true, Nat.reduceAdd, Nat.reduceLT, Nat.zero_add, evL_len]
      (first | refine guardV_split ?_ ?_ | refine condK_split ?_ ?_ | refine drawV_split ?_ ?_ | refine condY_split ?_ ?_ | refine guardY_split ?_ ?_) <;> intro hf <;> try simp (maxSteps := 1000000) only [go_skip, go_region, go_seq, go_block, go_exit, go_draws, exitK_code, exitK_blk, exitK_nil, go_op, opK_none, contK_some, condK_t, condK_f, callOf, fstep, fpre, fpost, fstep0, fload, fcell, ffieldAddr, findexAddr, flen, T, TI.isAgg, St.ev, St.put, AV.cells, AV.known, Value.cells, List.getD_cons_zero, List.getD_cons_succ, List.set, List.length_cons, List.length_nil, List.drop_succ_cons, List.drop_zero, List.headD_cons, List.getElem?_cons_zero, List.getElem?_cons_succ, List.getElem?_toArray, true_and, Bool.true_and, Bool.false_eq_true, ↓reduceIte, reduceCtorEq, ne_eq, not_false_eq_true, Nat.reduceAdd, Nat.reduceLT, Nat.zero_add, loopX_exit]
      · have hlt : i < r.evts.length := by simpa using hf
        have eg : (evL r.evts).getD (Int.toNat (i : Int)) .any = (r.evts[i]).av := get_map hlt
        have ew : IntKind.i64.wrap ((i : Int) + 1) = ((i + 1 : Nat) : Int) := by rw [wrap_i64 (by omega) (by omega)]; rfl
        have b1 : (0 : Int) ≤ (i : Int) ∧ Int.toNat (i : Int) < r.evts.length := by omega
        by_cases h3 : (r.evts[i]).user.size ≤ 100
        · have c3 : decide ((100 : Int) < ((r.evts[i]).user.size : Int)) = false := decide_eq_false (by omega)
          have c3' : decide (((r.evts[i]).user.size : Int) > (100 : Int)) = false := decide_eq_false (by omega)
          try simp (maxSteps := 1000000) only [go_nil, go_skip, go_region, go_cond, go_blk, go_ops_nil, go_op, opK_none, contK_some, condK_f, callOf, fstep, fpre, fstep0, fbinA, fbin, fbin0, St.ev, St.put, List.getD_cons_zero, List.getD_cons_succ, List.set, List.length_cons, List.length_nil, List.headD_cons, true_and, and_true, Bool.and_true, Bool.true_and, Nat.reduceAdd, Nat.reduceLT, Nat.zero_add, eg, b1, evL_len, c3, ew]
          simp only [loopX_normal, St.trunc, St.keep, truncVs, truncV, AB.trunc, keepV, List.elem_cons, List.elem_nil, List.take_succ_cons, List.take_zero, List.map_cons, List.map_nil, Nat.reduceAdd, Nat.reduceBEq, Nat.reduceLeDiff, Nat.zero_add, Bool.false_eq_true, ↓reduceIte]
          refine ⟨i + 1, ⟨hlt, fun e he => ?_⟩, by omega, rfl⟩
          rw [List.take_succ_eq_append_getElem hlt] at he
          rcases List.mem_append.1 he with he | he
          · exact hall e he
          · simp at he; subst he; exact h3
        · have c3 : decide ((100 : Int) < ((r.evts[i]).user.size : Int)) = true := decide_eq_true (by omega)
          have c3' : decide (((r.evts[i]).user.size : Int) > (100 : Int)) = true := decide_eq_true (by omega)
          try simp (maxSteps := 1000000) only [go_region, go_seq, go_cond, go_ret, go_ops_nil, go_op, opK_none, contK_some, condK_t, callOf, fstep, fpre, fstep0, fbinA, fbin, fbin0, St.ev, St.put, List.getD_cons_zero, List.getD_cons_succ, List.set, List.length_cons, List.length_nil, List.headD_cons, true_and, and_true, Bool.and_true, Bool.true_and, Nat.reduceAdd, Nat.reduceLT, Nat.zero_add, loopX_ret, eg, b1, evL_len, c3]
          apply hK
          simp only [Tryd.results7, retK, ares, Bool.and_true, Bool.true_and, AV.ofResults, St.trunc, truncVs, truncV, List.getD_cons_zero, List.getD_cons_succ, List.take_zero, List.map_nil, true_and, and_true, List.cons.injEq, exists_eq_left']
      · obtain rfl : i = r.evts.length := by have := of_decide_eq_false hf; omega
        rw [List.take_length] at hall
        have ho := hr.ok h1 h2 hall
        have hF : Rep.ok ⟨r.err, r.vals, r.evts, false⟩ := ⟨ho.err, ho.nv, ho.ne, ho.vals, ho.evts⟩
        have hT : Rep.ok ⟨r.err, r.vals, r.evts, true⟩ := ⟨ho.err, ho.nv, ho.ne, ho.vals, ho.evts⟩
        have et : (⟨r.err, r.vals, r.evts, true⟩ : Rep).txt = (⟨r.err, r.vals, r.evts, false⟩ : Rep).txt ++ ⟨#[32, 108, 111, 115, 116]⟩ := by
          have e1 : (⟨r.err, r.vals, r.evts, true⟩ : Rep).words = (⟨r.err, r.vals, r.evts, false⟩ : Rep).words ++ [lostB] := by simp [Rep.words]
          rw [Rep.txt, e1, joinB_snoc, ByteArray.append_assoc]; rfl
        have hzt : (⟨r.err, r.vals, r.evts, false⟩ : Rep).txt.size ≤ 160000 := by
          have hw2 := vtxt_le hF
          have hw3 := etxt_le hF
          have hi0 := itB_size _ ho.err
          refine words_size (n := 0) _ _ (by simp only; omega) (fun y hy => ?_) ?_
          · simp only [Rep.words, Bool.false_eq_true, if_false, List.append_nil] at hy
            rcases List.mem_append.1 hy with hy | hy
            · exact hw2 y hy
            · exact hw3 y hy
          · simp [Rep.words]; omega
        have hs5 : ByteArray.size ⟨#[32, 108, 111, 115, 116]⟩ = 5 := rfl
        have z1 : (((⟨r.err, r.vals, r.evts, false⟩ : Rep).txt.size + ByteArray.size ⟨#[32, 108, 111, 115, 116]⟩ : Nat) : Int) ≤ 9223372036854775807 := by omega
        have cT := op_Reply ⟨r.err, r.vals, r.evts, true⟩ hT
        rw [et] at cT
        have hE : Rep.ok ⟨((e % 10 : Nat) : Int), [], [], false⟩ := ⟨⟨by simp only; omega, by simp only; omega⟩, Nat.zero_le _, Nat.zero_le _, fun p hp => (by cases hp), fun p hp => (by cases hp)⟩
        have eE : (⟨((e % 10 : Nat) : Int), [], [], false⟩ : Rep).txt = dgt (e % 10) := by
          have : itB ((e % 10 : Nat) : Int) = dgt (e % 10) := by rw [itB, if_neg (by omega), Int.toNat_natCast]
          rw [← this]; rfl
        have cE : PCall P 14 [.agg [i64 ((e % 10 : Nat) : Int), .v (.slice none 0 0), .v (.slice none 0 0), bool false]] (fun y => y = str (dgt (e % 10))) := by
          have := op_Reply ⟨((e % 10 : Nat) : Int), [], [], false⟩ hE
          rw [eE] at this
          exact PCall.weakArgs this ⟨_, _, rfl, .inr ⟨_, rfl, _, _, rfl, weak_refl _, _, _, rfl, weak_nil 3, _, _, rfl, weak_nil 8, weaks_refl _⟩, rfl⟩
        have em : Int.tmod (e : Int) 10 = ((e % 10 : Nat) : Int) := rfl
        have ew8 : IntKind.u8.wrap ((e % 10 : Nat) : Int) = ((e % 10 : Nat) : Int) := by rw [IntKind.wrap_u8]; omega
        have ew64 : IntKind.i64.wrap ((e % 10 : Nat) : Int) = ((e % 10 : Nat) : Int) := wrap_i64 (by omega) (by omega)
        have es := strOf_dgt8 (e % 10) (Nat.mod_lt _ (by omega))
        refine draw_rule tyOk (by rfl) (by simp only [List.length_cons, List.length_nil, Nat.reduceAdd, Nat.zero_le]) (by kernel_rfl) rfl ?_
        try simp (maxSteps := 1000000) only [callOf, newF, fload, fcell, evs, T, TI.isAgg, St.ev, St.put, List.getD_cons_zero, List.getD_cons_succ, List.set, List.length_cons, List.length_nil, List.drop_zero, List.take_succ_cons, List.take_zero, List.append_nil, List.getElem?_cons_zero, List.getElem?_cons_succ, List.replicate, true_and, Bool.true_and, Bool.false_eq_true, ↓reduceIte, Nat.reduceAdd, Nat.le_refl, Nat.add_zero, Nat.zero_add, newCount, drawR_op, drawP_none, drawP_some, drawQ_some, drawH_fn, dstep, isFree, St.app, bump, isNew]
        refine drawCall_use cT rfl ?_
        try simp (maxSteps := 1000000) only [callOf, newF, fload, fcell, evs, T, TI.isAgg, St.ev, St.put, List.getD_cons_zero, List.getD_cons_succ, List.set, List.length_cons, List.length_nil, List.drop_zero, List.take_succ_cons, List.take_zero, List.append_nil, List.getElem?_cons_zero, List.getElem?_cons_succ, true_and, Bool.true_and, Bool.false_eq_true, ↓reduceIte, Nat.reduceAdd, Nat.le_refl, Nat.zero_add, drawR_op, drawP_none, drawP_some, drawQ_some, drawH_fn, dstep, isFree, St.app, bump, isNew]
        refine drawCall_use (op_Reply ⟨r.err, r.vals, r.evts, false⟩ hF) rfl ?_
        try simp (maxSteps := 1000000) only [callOf, fstep0, fbinA, newF, fbin, fbin0, ffill, fieldPlaces, fieldsOk, fbuild, evParts, fconvA, fconvert, evs, T, St.ev, St.put, splice, AV.cells, AV.known, Value.cells, List.getD_cons_zero, List.getD_cons_succ, List.set, List.map_cons, List.map_nil, List.length_cons, List.length_nil, List.drop_succ_cons, List.drop_zero, List.take_zero, List.cons_append, List.nil_append, List.append_nil, List.getElem?_cons_zero, List.getElem?_cons_succ, Option.bind_some, Option.isSome_some, List.getElem?_toArray, true_and, and_true, Bool.and_true, Bool.true_and, Bool.and_self, Bool.false_eq_true, ↓reduceIte, ne_eq, not_false_eq_true, Nat.reduceAdd, Nat.reduceLeDiff, Nat.zero_add, Int.reduceEq, beq_self_eq_true, drawR_op, drawR_guard, drawW_some, drawV_tt, drawP_none, drawP_some, drawQ_some, drawH_fn, dstep, isFree, St.app, bump, isNew, z1, em, ew64]
        refine drawCall_use cE rfl ?_
        try simp (maxSteps := 1000000) only [go_ret, undef, callOf, fstep0, fbinA, newF, fbin, fbin0, evParts, fconvA, fconvS, fconvert, felems, fpick, T, TI.isAgg, TI.zeroOk, TI.zav, setParts, partsOk, St.ev, St.put, AV.cells, AV.known, AV.flat, AV.pure, Value.cells, Value.oneCell', List.getD_cons_zero, List.getD_cons_succ, List.set, List.map_cons, List.map_nil, List.length_cons, List.length_nil, List.all_cons, List.all_nil, List.headD_cons, List.getElem?_cons_zero, List.getElem?_cons_succ, List.replicate, Option.bind_some, List.getElem?_toArray, true_and, and_true, Bool.and_true, Bool.true_and, Bool.and_self, Bool.or_true, Bool.false_eq_true, ↓reduceIte, decide_true, ne_eq, not_false_eq_true, Nat.reduceAdd, Nat.reduceMul, Nat.reduceLeDiff, Nat.reduceLT, Nat.zero_add, cond_true, Int.reduceEq, beq_self_eq_true, drawR_nil, drawR_op, drawR_guard, drawW_some, drawV_tt, drawP_none, drawQ_some, dstep, isFree, isU8, dbuildSlice, St.app, bump, isNew, em, es]
        refine ⟨by kernel_rfl, ?_⟩
        skip
        apply hK
        simp only [Tryd.results7, retK, ares, Bool.and_true, Bool.true_and, AV.ofResults, St.trunc, truncVs, truncV, List.getD_cons_zero, List.getD_cons_succ, List.take_zero, List.map_nil, true_and, and_true, List.cons.injEq, exists_eq_left']
    · have c2 : decide ((60 : Int) < (r.evts.length : Int)) = true := decide_eq_true (by omega)
      have c2' : decide ((r.evts.length : Int) > (60 : Int)) = true := decide_eq_true (by omega)
      try simp (maxSteps := 1000000) only [go_region, go_seq, go_cond, go_ops_nil, go_op, go_guard, opK_none, opK_some, contK_some, condK_t, guardK_eq, guardV_ff, callOf, callK_eq, callJ_nil, callD_fn, fstep, fpre, fstep0, fbinA, fbin, fbin0, fload, fcell, ffieldAddr, funary, flen, evs, fpick, T, TI.isAgg, St.ev, St.put, ownersAll, List.getD_cons_zero, List.getD_cons_succ, List.set, List.length_cons, List.length_nil, List.drop_succ_cons, List.drop_zero, List.headD_cons, List.append_nil, List.getElem?_cons_zero, List.getElem?_cons_succ, Option.bind_some, List.getElem?_toArray, true_and, Bool.true_and, Bool.not_true, Bool.false_eq_true, ↓reduceIte, reduceCtorEq, ne_eq, not_false_eq_true, Nat.reduceAdd, Nat.reduceLT, Nat.zero_add, cond_false, prL_len, evL_len, c1, c2]
      (refine callG_use law11_awake rfl ?_; rintro _ rfl)
      try simp (maxSteps := 1000000) only [go_ret, go_ops_nil, go_op, opK_none, contK_some, callOf, fstep, fpre, fstep0, St.ev, St.put, List.getD_cons_zero, List.getD_cons_succ, List.set, true_and, Bool.true_and]
      apply hK
      simp only [Tryd.results7, retK, ares, Bool.and_true, Bool.true_and, AV.ofResults, St.trunc, truncVs, truncV, List.getD_cons_zero, List.getD_cons_succ, List.take_zero, List.map_nil, true_and, and_true, List.cons.injEq, exists_eq_left']
  · have c1 : decide ((60 : Int) < (r.vals.length : Int)) = true := decide_eq_true (by omega)
    have c1' : decide ((r.vals.length : Int) > (60 : Int)) = true := decide_eq_true (by omega)
    try simp (maxSteps := 1000000) only [go_region, go_seq, go_cond, go_ops_nil, go_op, go_guard, opK_none, opK_some, contK_some, condK_t, guardK_eq, guardV_tf, guardV_ff, undef, callOf, callK_eq, callJ_nil, callD_fn, fstep, fpre, fstep0, fbinA, fbin, fbin0, fload, fcell, ffieldAddr, funary, flen, evs, fpick, T, TI.isAgg, St.ev, St.put, ownersAll, List.getD_cons_zero, List.getD_cons_succ, List.set, List.length_cons, List.length_nil, List.drop_succ_cons, List.drop_zero, List.headD_cons, List.append_nil, List.getElem?_cons_zero, List.getElem?_cons_succ, Option.bind_some, List.getElem?_toArray, true_and, Bool.true_and, Bool.not_true, Bool.false_eq_true, ↓reduceIte, reduceCtorEq, ne_eq, not_false_eq_true, Nat.reduceAdd, Nat.reduceLT, Nat.zero_add, cond_false, prL_len, c1]
    (refine callG_use law11_awake rfl ?_; rintro _ rfl)
    try simp (maxSteps := 1000000) only [go_ret, go_ops_nil, go_op, opK_none, contK_some, callOf, fstep, fpre, fstep0, St.ev, St.put, List.getD_cons_zero, List.getD_cons_succ, List.set, true_and, Bool.true_and]
    apply hK
    simp only [Tryd.results7, retK, ares, Bool.and_true, Bool.true_and, AV.ofResults, St.trunc, truncVs, truncV, List.getD_cons_zero, List.getD_cons_succ, List.take_zero, List.map_nil, true_and, and_true, List.cons.injEq, exists_eq_left']
theorem law_OpLost (xs : List AV) (h : argsFit shapesOpLost xs) : PCall P 7 xs (fun x => x = .v (.bool true)) := by
  obtain ⟨zs, _, rfl, hz, _, _, rfl, ⟨_, _, rfl, ⟨n, rfl, hn⟩, rfl⟩, rfl⟩ := h
  obtain ⟨r, e, hr⟩ := fits_rep hz
  have hn' : 0 ≤ n ∧ n ≤ 255 := by simpa [Lit.wf, IntKind.min, IntKind.max, IntKind.signed, IntKind.bits] using hn
  obtain ⟨n, rfl⟩ : ∃ m : Nat, n = m := ⟨n.toNat, by omega⟩
  rw [show pack true zs = AV.agg zs from rfl, e]
  exact law_lost r hr n (by omega)
end Go.Proofs.YtinkcffklomneaaDoor
namespace Go.Proofs.YtinkcffklomneaaDoor
open Go Go.Proofs.YtinkcffklomneaaDoor.Sym
set_option maxRecDepth 100000
set_option linter.unusedSimpArgs false
set_option linter.unusedVariables false

def litV : Lit → Value
  | .int k n => .int k n
  | .bool b => .bool b
  | .string s => .string ⟨s.toArray⟩
  | _ => .nilIface

/-- An array of texts that reads as listed holds them, cell for cell. -/
theorem cells_of_texts {H : Type} {enc : TypeId × Value → H} {Q : Program} {w : World} {base : Nat} {sp : Nat → Bool} {held : Bool} {fuel : Nat} {t e : TypeId} {n : Nat} {cs : List Value} {zs : List (List UInt8)} {p : List MemPlace}
    (ht : Q.underlying t = some (.array n e)) (he : Q.underlying e = some .string) (hce : Q.cellsOf e = 1) (hct : Q.cellsOf t = n)
    (h : DataW.trod enc Q w base sp held fuel t cs = some (.agg (zs.map fun z => .lit (.string z)), p)) : cs = zs.map fun z => Value.string ⟨z.toArray⟩ := by
  obtain ⟨xs, m, rfl, hx, hl, hn, hel⟩ := DataW.trod_array ht h
  simp only [Prod.mk.injEq, DataW.agg.injEq] at hx
  have hzl : zs.length = n := by have := congrArg List.length hx.1; simp at this; omega
  rw [hce] at hel
  apply List.ext_getElem?
  intro i
  by_cases hi : i < n
  · have hf := hel i hi
    obtain ⟨b, hb⟩ : ∃ b, xs[i]? = some b := ⟨xs[i]'(by omega), List.getElem?_eq_getElem _⟩
    rw [hb] at hf
    obtain ⟨s, hc, rfl, _⟩ := DataW.trod_string he hf
    have h1 : cs[i]? = some (.string s) := by
      have := congrArg (·[0]?) hc
      simpa [List.getElem?_take, List.getElem?_drop] using this
    have h2 : (xs.map (·.1))[i]? = some (DataW.lit (.string s.data.toList) : DataW H) := by simp [hb]
    rw [← hx.1] at h2
    simp only [List.getElem?_map, Option.map_eq_some_iff, DataW.lit.injEq, Lit.string.injEq] at h2
    obtain ⟨z', hz', rfl⟩ := h2
    rw [h1]
    simp [hz']
  · rw [List.getElem?_eq_none (by omega), List.getElem?_eq_none (by simp; omega)]

theorem gNames : Tryd.prog.globalNamed "doorman/op.names" = some 0 := by kernel_rfl
theorem tNames : (Tryd.prog.globals[0]?).map (·.type) = some 52 := by kernel_rfl
theorem tPow : (Tryd.prog.globals[1]?).map (·.type) = some 83 := by kernel_rfl
def namesZ : List (List UInt8) := [[], [115, 101, 116], [98, 101, 97, 116], [99, 108, 101, 97, 114], [113, 117, 101, 114, 121], [98, 97, 116, 99, 104], [119, 97, 116, 99, 104], [117, 110, 119, 97, 116, 99, 104], [112, 111, 108, 108], [99, 108, 111, 115, 101]]
def laidL : List (String × DataW Unit) := [("math/bits.deBruijn32tab", Rows.laid_math_bits_deBruijn32tab), ("math/bits.deBruijn64tab", Rows.laid_math_bits_deBruijn64tab), ("internal/strconv.uint64pow10", Rows.laid_internal_strconv_uint64pow10), ("unicode/utf8.acceptRanges", Rows.laid_unicode_utf8_acceptRanges), ("doorman/op.names", Rows.laid_doorman_op_names), ("strconv.isGraphic", Rows.laid_strconv_isGraphic), ("strconv.isNotPrint16", Rows.laid_strconv_isNotPrint16), ("strconv.isNotPrint32", Rows.laid_strconv_isNotPrint32), ("strconv.isPrint16", Rows.laid_strconv_isPrint16), ("strconv.isPrint32", Rows.laid_strconv_isPrint32), ("unicode/utf8.first", Rows.laid_unicode_utf8_first)]
theorem c52 : Tryd.prog.cellsOf 52 = 10 := by kernel_rfl
theorem c9 : Tryd.prog.cellsOf 9 = 1 := by kernel_rfl
theorem c83 : Tryd.prog.cellsOf 83 = 20 := by kernel_rfl
theorem c22 : Tryd.prog.cellsOf 22 = 1 := by kernel_rfl
theorem cell_lt {w : World} {r o : Nat} {v : Value} (h : w.cell? ⟨r, o, none⟩ = some v) : r < w.heap.size := by
  rw [World.cell?] at h
  by_cases hs : r < w.heap.size
  · exact hs
  · rw [Array.getElem?_eq_none (by show w.heap.size ≤ r; omega)] at h
    cases h
theorem accL (i : Nat) (hi : i < 32) : ([Value.int .u8 128, Value.int .u8 191, Value.int .u8 160, Value.int .u8 191, Value.int .u8 128, Value.int .u8 159, Value.int .u8 144, Value.int .u8 191, Value.int .u8 128, Value.int .u8 143, Value.int .u8 0, Value.int .u8 0, Value.int .u8 0, Value.int .u8 0, Value.int .u8 0, Value.int .u8 0, Value.int .u8 0, Value.int .u8 0, Value.int .u8 0, Value.int .u8 0, Value.int .u8 0, Value.int .u8 0, Value.int .u8 0, Value.int .u8 0, Value.int .u8 0, Value.int .u8 0, Value.int .u8 0, Value.int .u8 0, Value.int .u8 0, Value.int .u8 0, Value.int .u8 0, Value.int .u8 0] : List Value)[i]? = some (.int .u8 (if i % 2 = 0 then (Lib.accLo (i / 2) : Int) else (Lib.accHi (i / 2) : Int))) := by
  rcases (by omega : i = 0 ∨ i = 1 ∨ i = 2 ∨ i = 3 ∨ i = 4 ∨ i = 5 ∨ i = 6 ∨ i = 7 ∨ i = 8 ∨ i = 9 ∨ i = 10 ∨ i = 11 ∨ i = 12 ∨ i = 13 ∨ i = 14 ∨ i = 15 ∨ i = 16 ∨ i = 17 ∨ i = 18 ∨ i = 19 ∨ i = 20 ∨ i = 21 ∨ i = 22 ∨ i = 23 ∨ i = 24 ∨ i = 25 ∨ i = 26 ∨ i = 27 ∨ i = 28 ∨ i = 29 ∨ i = 30 ∨ i = 31) with rfl | rfl | rfl | rfl | rfl | rfl | rfl | rfl | rfl | rfl | rfl | rfl | rfl | rfl | rfl | rfl | rfl | rfl | rfl | rfl | rfl | rfl | rfl | rfl | rfl | rfl | rfl | rfl | rfl | rfl | rfl | rfl <;> rfl
theorem tab_of {Hd : Nat → Prop} {w : World} {g : Nat} {k : IntKind} {t : List Nat} (hH : ∀ r, ¬ Hd r) (h : Lib.TabSlice g k t w) (h0 : 0 < t.length) {vs : List Value} (hv : some (t.map fun (n : Nat) => Value.int k (n : Int)) = some vs) :
    Imm Hd [] w g ∧ ∃ R o c, w.cell? ⟨g, 0, none⟩ = some (.slice (some ⟨R, o, none⟩) vs.length c) ∧ Imm Hd [] w R ∧ CellsAt w R o vs := by
  obtain rfl := Option.some.inj hv
  obtain ⟨R, o, c, h1, h2⟩ := h
  refine ⟨⟨cell_lt h1, by simp, hH _⟩, R, o, c, by simpa using h1, ⟨cell_lt (h2 0 h0), by simp, hH _⟩, fun j hj => ?_⟩
  have hj' : j < t.length := by simpa using hj
  rw [h2 j hj']
  simp [List.getD, List.getElem?_eq_getElem hj']

/-- What the row's condition gives the walk. -/
theorem glob_of_laid {W : World} (h : laidMetH Tryd.prog laidL W) : GlobOk (fun _ => False) [] W := by
  rw [MakeChecks.laidMetH_plain _ _ _ (by kernel_rfl)] at h
  have r : ∀ {n : String} {d : DataW Unit}, (n, d) ∈ laidL → Lib.VarReads Tryd.prog W n d := fun hm => Lib.laidMet.reads h hm
  have hU : Lib.Utf8Tabs (lays177_ren.g 3) (lays177_ren.g 4) W :=
    utf8Tabs_of_reads (ρ := lays177_ren) { lays177 with } ⟨by kernel_rfl, by kernel_rfl, by kernel_rfl, by kernel_rfl, by kernel_rfl, by kernel_rfl, by kernel_rfl⟩ (Pinned.utf8First_eq ▸ r (.tail _ (.tail _ (.tail _ (.tail _ (.tail _ (.tail _ (.tail _ (.tail _ (.tail _ (.tail _ (.head _)))))))))))) (show Lib.VarReads Tryd.prog W _ Lib.acceptData from (show Rows.laid_unicode_utf8_acceptRanges = Lib.acceptData by kernel_rfl) ▸ r (.tail _ (.tail _ (.tail _ (.head _)))))
  have hT : Lib.PrintTabsAt (lays177_ren.g 20) (lays177_ren.g 21) (lays177_ren.g 22) (lays177_ren.g 23) Lib.goPrintTabs W :=
    printTabs_of_reads (ρ := lays177_ren) { lays177 with } ⟨by kernel_rfl, by kernel_rfl, by kernel_rfl, by kernel_rfl, by kernel_rfl, by kernel_rfl, by kernel_rfl, by kernel_rfl, by kernel_rfl, by kernel_rfl⟩
      (Pinned.isPrint16_eq ▸ r (.tail _ (.tail _ (.tail _ (.tail _ (.tail _ (.tail _ (.tail _ (.tail _ (.head _)))))))))) (Pinned.isNotPrint16_eq ▸ r (.tail _ (.tail _ (.tail _ (.tail _ (.tail _ (.tail _ (.head _)))))))) (Pinned.isPrint32_eq ▸ r (.tail _ (.tail _ (.tail _ (.tail _ (.tail _ (.tail _ (.tail _ (.tail _ (.tail _ (.head _))))))))))) (Pinned.isNotPrint32_eq ▸ r (.tail _ (.tail _ (.tail _ (.tail _ (.tail _ (.tail _ (.tail _ (.head _)))))))))
  have hN := r (.tail _ (.tail _ (.tail _ (.tail _ (.head _)))))
  have hP := r (.tail _ (.tail _ (.head _)))
  refine ⟨fun g vs hg => ?_, fun g vs hg => ?_, fun g vs hg => ?_⟩
  · match g with
    | 0 =>
      cases hg
      obtain ⟨g0, t0, cs0, f0, p0, hg0, ht0, hv0, hd0⟩ := hN
      obtain rfl := Option.some.inj (gNames.symm.trans hg0)
      obtain rfl := Option.some.inj (tNames.symm.trans ht0)
      have hc : cs0.toList = namesZ.map fun z => Value.string ⟨z.toArray⟩ := cells_of_texts Tryd.underlying52 Tryd.underlying9 c9 c52 hd0
      have hcell := World.var?_cell hg0 hv0
      have h00 : W.cell? ⟨0, 0, none⟩ = some (.string ⟨#[]⟩) := by rw [hcell 0, ← Array.getElem?_toList, hc]; rfl
      refine ⟨⟨cell_lt h00, by simp, id⟩, fun i hi => ?_⟩
      rw [Nat.zero_add, hcell i, ← Array.getElem?_toList, hc]
      have hi' : i < 10 := hi
      rcases (by omega : i = 0 ∨ i = 1 ∨ i = 2 ∨ i = 3 ∨ i = 4 ∨ i = 5 ∨ i = 6 ∨ i = 7 ∨ i = 8 ∨ i = 9) with rfl | rfl | rfl | rfl | rfl | rfl | rfl | rfl | rfl | rfl <;> rfl
    | 3 =>
      obtain rfl := Option.some.inj hg
      refine ⟨⟨cell_lt (hU.1 0 (by omega)), by simp, id⟩, fun i hi => ?_⟩
      have hi' : i < 256 := by simpa using hi
      rw [Nat.zero_add]
      refine (hU.1 i hi').trans ?_
      simp
    | 4 =>
      obtain rfl := Option.some.inj hg
      refine ⟨⟨cell_lt (hU.2 0 (by omega)).1, by simp, id⟩, fun i hi => ?_⟩
      have hi' : i < 32 := hi
      have hl := accL i hi'
      rw [List.getElem?_eq_getElem hi'] at hl
      rw [Nat.zero_add]
      refine Eq.trans ?_ hl.symm
      by_cases h2 : i % 2 = 0
      · rw [if_pos h2]
        have := (hU.2 (i / 2) (by omega)).1
        rw [show 2 * (i / 2) = i by omega] at this
        exact this
      · rw [if_neg h2]
        have := (hU.2 (i / 2) (by omega)).2
        rw [show 2 * (i / 2) + 1 = i by omega] at this
        exact this
    | 1 | 2 | (n + 5) => cases hg
  · match g with
    | 5 => exact tab_of (fun _ => id) hT.1 (by decide) hg
    | 6 => exact tab_of (fun _ => id) hT.2.1 (by decide) hg
    | 7 => exact tab_of (fun _ => id) hT.2.2.1 (by decide) hg
    | 8 => exact tab_of (fun _ => id) hT.2.2.2.1 (by decide) hg
    | 0 | 1 | 2 | 3 | 4 | (n + 9) => cases hg
  · match g with
    | 1 =>
      obtain rfl := Option.some.inj hg
      obtain ⟨g0, t0, cs0, f0, p0, hg0, ht0, hv0, hd0⟩ := hP
      obtain rfl := Option.some.inj (gPow.symm.trans hg0)
      obtain rfl := Option.some.inj (tPow.symm.trans ht0)
      rw [show Rows.laid_internal_strconv_uint64pow10 = (Lib.tabData .u64 Lib.pow10Tab : DataW Unit) by kernel_rfl] at hd0
      have hc := Lib.cells_of_tab Tryd.underlying83 Tryd.underlying22 c22 c83 hd0
      unfold World.var? at hv0
      rw [gPow, Option.bind_some] at hv0
      split at hv0
      · rename_i cs t f hh
        obtain rfl := Option.some.inj hv0
        have hlt : 1 < W.heap.size := by
          by_cases hs : 1 < W.heap.size
          · exact hs
          · rw [Array.getElem?_eq_none (by omega)] at hh
            cases hh
        exact ⟨⟨hlt, by simp, id⟩, t, f, by rw [hh, ← hc]⟩
      · cases hv0
    | 0 | (n + 2) => cases hg

/-- A world in which all that is listed is laid meets the condition. -/
theorem laid_met (os : Os) (args : Array Value) : laidMetH Tryd.prog laidL ((World.laidAll Tryd.prog os laidL).forCall (fun _ _ => 0) ⟨#[], args, []⟩).memory := by
  rw [MakeChecks.laidMetH_plain _ _ _ (by kernel_rfl)]
  exact laidMet_laidAll _ (by kernel_rfl) (by kernel_rfl)
#print axioms laid_met
end Go.Proofs.YtinkcffklomneaaDoor
namespace Go.Proofs.YtinkcffklomneaaDoor.opLost
open Go.ChangeShapes Go.WideShapes Go.ChangeAt Go.RowKit Go.Proofs.YtinkcffklomneaaDoor.Sym
open Go.ChangeMaps (open_string shut_string)
set_option linter.unusedVariables false
theorem own : ownKnob Tryd.prog.godebug = none := by kernel_rfl
theorem laidOut : laidOutB Tryd.prog = true := by kernel_rfl
set_option maxRecDepth 100000 in
theorem lifted (os : Os) (started : os.Started) (H : Type) (enc : TypeId × Value → H) :
    ReturnsInHanded {} Tryd.checked os 7 .any (fun w args => (Rows.opLostSpec.pre enc Tryd.prog Tryd.f7 [] false w args ∧ laidMetH Tryd.prog laidL w) ∧ sizedMet enc Tryd.prog Tryd.f7 (OpenSpec.ofChange Rows.opLostSpec) false w args)
      (Rows.opLostSpec.post enc Tryd.prog Tryd.f7 false true false false) := by
  refine returnsInHanded_of_change_and (C := Tryd.checked) (X := fun w _ => laidMetH Tryd.prog laidL w) (fun _ _ _ hh h => h.of_heap hh) own started (by kernel_rfl) Tryd.func7
    (ChangeSpec.witness_shaped (enc := enc) (C := Tryd.checked) (os := os) (X := fun w _ => laidMetH Tryd.prog laidL w) false (World.laidAll Tryd.prog os laidL) #[.agg #[.int .i64 0, .slice none 0 0, .slice none 0 0, .bool false], .int .u8 0] 8 (World.laidAll_os _ _ _) (World.shaped_of_ZipB (by kernel_rfl) (by kernel_rfl)) (by kernel_rfl) (by kernel_rfl) (by kernel_rfl) (laid_met os _)) ?_
  intro W base args ds gs before hval0 hW hcnd hsz0 hL _
  have hval : ∀ (j : Nat) t v, Tryd.f7.params[j]? = some t → args[j]? = some v → Value.okWide Tryd.prog W .any base t v := hval0
  have hW' := hW
  obtain ⟨p, q, hA0, hV, rfl, hfz, hnd⟩ := hW
  have hA : DataW.TrodAll enc Tryd.prog W 0 (fun _ => true) true Tryd.f7.params.toList args.toList ds p := hA0
  have hval2 : ∀ (j : Nat) t v, Tryd.f7.params.toList[j]? = some t → args.toList[j]? = some v → Value.okWide Tryd.prog W .any base t v := fun j t v h1 h2 => hval j t v (by simpa using h1) (by simpa using h2)
  rw [Tryd.params7] at hA hval2
  obtain ⟨xs, hfit, hrel⟩ := open_args tyOk _ _ _ _ _ shapesOpLost_ok hval2 hA
  obtain ⟨v0, vs0, d0, ds0, p0, q0, hargs, rfl, rfl, h0, r0⟩ := trodAll_cons hA
  obtain ⟨v1, vs1, d1, ds1, p1, q1, rfl, rfl, rfl, h1, r1⟩ := trodAll_cons r0
  obtain ⟨rfl, rfl, rfl⟩ := trodAll_nil r1
  obtain rfl : args = #[v0, v1] := by cases args; simp_all
  obtain ⟨rfl, rfl⟩ := trodVars_none hV
  have k0 := h0
  have lt0 : ∀ x ∈ p0, x.block < W.heap.size := by obtain ⟨m, hm⟩ := k0; exact DataW.trod_lt m _ _ _ hm
  have k1 := h1
  have lt1 : ∀ x ∈ p1, x.block < W.heap.size := by obtain ⟨m, hm⟩ := k1; exact DataW.trod_lt m _ _ _ hm
  clear hA0 hval0 hsz0 hval hval2
  refine (PCall.calls (law_OpLost xs hfit) hrel (glob_of_laid hL)).mono ?_
  rintro e W' ⟨y, x, rfl, rfl, hy, bel⟩
  obtain rfl := hy _ rfl
  exact ⟨_, rfl, _, _, _, [], _, [], hW', trodAll_mk1 (shut_bool Tryd.underlying4 _), (trodAll_cons_mk (Below.trod laidOut (by kernel_rfl) (of_decide_eq_true (by kernel_rfl)) k0 bel lt0) (trodAll_cons_mk (Below.trod laidOut (by kernel_rfl) (of_decide_eq_true (by kernel_rfl)) k1 bel lt1) trodAll_mk0)), rfl, bel.frame _, fun h => by cases h⟩
theorem over : Rows.opLostRow.holds Tryd.pinned (OpenSpec.ofChange Rows.opLostSpec) :=
  OpenClaim.holds_of_wide 7 Tryd.f7 rfl rfl rfl rfl rfl rfl rfl ⟨rfl, rfl, rfl, rfl, rfl⟩ rfl rfl rfl rfl rfl (by kernel_rfl) Tryd.func7 (by kernel_rfl)
    (of_decide_eq_true (by kernel_rfl)) (by unfold Func.isWrapper; first | (rw [if_pos (by decide +kernel)]; kernel_rfl) | (rw [if_neg (by decide +kernel)]; exact ⟨rfl, rfl⟩))
    (fun os started H enc _ => lifted os started H enc)
theorem card : Rows.OpLostCardSaid :=
  Claim7.holds_tied_plain_at .later [] [.data, .data, .data, .data, .data, .pinned, .pinned, .pinned, .pinned, .pinned, .pinned] true (true, "12f2c9f372caeb371b9f8a985f0b8b519893e217908945a358e8c08d97a402e3") false
    over (fun _ h => by cases h) (by kernel_rfl) (fun _ h => by cases h) opLost_row_tie rfl ⟨rfl, rfl⟩ (by kernel_rfl) rfl
    (fun f fn hf hfn => by
      obtain rfl : f = 7 := Option.some.inj ((show Tryd.prog.funcNamed "doorman/doormanlaw11.OpLost" = some 7 by kernel_rfl).symm.trans hf) |>.symm
      obtain rfl : fn = Tryd.f7 := (Option.some.inj (Tryd.func7.symm.trans hfn)).symm
      exact ⟨by kernel_rfl, fun j t ht => by
        rw [Tryd.params7] at ht
        have hm : t ∈ [36, 5] := by simpa using Array.mem_of_getElem? ht
        have hall : ([36, 5].all fun u => !Tryd.prog.wantsStandIn u) = true := by kernel_rfl
        exact (show Tryd.prog.wantsStandIn t = false by simpa using List.all_eq_true.1 hall t hm)⟩)
    (by kernel_rfl)
theorem proved : Rows.OpLostCardSaid := card
#print axioms proved
end Go.Proofs.YtinkcffklomneaaDoor.opLost
namespace Go.Proofs.YtinkcffklomneaaDoor
/-- The card, under a short name, for the claim. -/
theorem opLost_holds : Rows.OpLostCardSaid := opLost.proved
end Go.Proofs.YtinkcffklomneaaDoor
