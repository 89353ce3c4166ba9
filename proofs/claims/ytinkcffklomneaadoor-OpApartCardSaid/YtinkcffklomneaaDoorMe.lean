/- What the laws of op share: the example, short ops, arguments opened. -/
import Derived.Test.YtinkcffklomneaaDoorMd
import Derived.Test.YtinkcffklomneaaDoorSymU
import Derived.Test.YtinkcffklomneaaDoorSymZc
import Derived.Test.YtinkcffklomneaaDoorMa
import Derived.Lib.MapLaws
namespace Go.Proofs.YtinkcffklomneaaDoor
open Go Go.Proofs.YtinkcffklomneaaDoor.Sym
set_option maxRecDepth 100000
set_option linter.unusedSimpArgs false
set_option linter.unusedVariables false
abbrev annS : ByteArray := ⟨#[97, 110, 110]⟩
theorem quo_ann : quo annS = ⟨#[34, 97, 110, 110, 34]⟩ := by decide +kernel
theorem ann_line : (⟨1, annS, 1, 2, 0, 5, []⟩ : Opv).line = ⟨#[115, 101, 116, 32, 34, 97, 110, 110, 34, 32, 49, 32, 50, 32, 48, 32, 53]⟩ := by
  have d0 : dgt 0 = ⟨#[48]⟩ := by rw [dgt, Lib.decDigits_one (by omega)]; rfl
  have d1 : dgt 1 = ⟨#[49]⟩ := by rw [dgt, Lib.decDigits_one (by omega)]; rfl
  have d2 : dgt 2 = ⟨#[50]⟩ := by rw [dgt, Lib.decDigits_one (by omega)]; rfl
  have d5 : dgt 5 = ⟨#[53]⟩ := by rw [dgt, Lib.decDigits_one (by omega)]; rfl
  have i0 : itB 0 = ⟨#[48]⟩ := by rw [itB, if_neg (by omega)]; exact d0
  have i1 : itB 1 = ⟨#[49]⟩ := by rw [itB, if_neg (by omega)]; exact d1
  have i2 : itB 2 = ⟨#[50]⟩ := by rw [itB, if_neg (by omega)]; exact d2
  rw [Opv.line, if_neg (by simp), Opv.words, if_pos rfl]
  simp only [quo_ann, i0, i1, i2, d5]
  decide +kernel
theorem ann_ok : (⟨1, annS, 1, 2, 0, 5, []⟩ : Opv).ok := ⟨⟨by decide, by decide⟩, ⟨by decide, by decide⟩, ⟨by decide, by decide⟩, by decide, by decide, by decide, fun y hy => by cases hy⟩
theorem law11_awake : PCall P 8 [] (fun x => x = bool true) := by
  refine pcall_go tyOk Tryd.func8 rfl rfl ?_
  intro K hK
  simp only [Tryd.ntmps8, List.length_nil, Nat.reduceSub, List.replicate, List.nil_append]
  have w : PCall P 11 [.agg [i64 1, str annS, i64 1, i64 2, i64 0, u64 5, .v (.slice none 0 0)]] (fun y => y = str (⟨1, annS, 1, 2, 0, 5, []⟩ : Opv).line) :=
    PCall.weakArgs (op_Line ⟨1, annS, 1, 2, 0, 5, []⟩ ann_ok) ⟨_, _, rfl, .inr ⟨_, rfl, _, _, rfl, weak_refl _, _, _, rfl, weak_refl _, _, _, rfl, weak_refl _, _, _, rfl, weak_refl _, _, _, rfl, weak_refl _, _, _, rfl, weak_refl _, _, _, rfl, weak_nil 1, rfl⟩, rfl⟩
  rw [ann_line] at w
  try simp (maxSteps := 1000000) only [go_region, go_seq, go_ops_nil, go_op, opK_none, opK_some, contK_some, callOf, callK_eq, callJ_nil, callD_fn, fstep, fpre, fstep0, ffill, fieldPlaces, fieldsOk, fbuild, evParts, evs, T, St.ev, St.put, splice, AV.cells, AV.known, AV.owners, ownersAll, Value.cells, List.getD_cons_zero, List.getD_cons_succ, List.set, List.map_cons, List.map_nil, List.length_cons, List.length_nil, List.drop_succ_cons, List.drop_zero, List.take_succ_cons, List.take_zero, List.cons_append, List.nil_append, List.append_nil, List.getElem?_cons_zero, List.getElem?_cons_succ, Option.isSome_some, List.getElem?_toArray, true_and, and_true, Bool.and_true, Bool.true_and, Bool.and_self, Nat.reduceAdd, Nat.reduceLeDiff, Nat.zero_add]
  (refine callG_use w rfl ?_; rintro _ rfl)
  try simp (maxSteps := 1000000) only [go_ret, go_ops_nil, go_op, opK_none, contK_some, callOf, fstep, fpre, fstep0, fbinA, fbin, fbin0, St.ev, St.put, List.getD_cons_zero, List.getD_cons_succ, List.set, true_and, Bool.true_and, beq_self_eq_true]
  apply hK
  simp only [Tryd.results8, retK, ares, List.take_nil, Bool.and_true, Bool.true_and, AV.ofResults, St.trunc, truncVs, truncV, List.getD_cons_zero, List.map_nil, true_and, and_true, List.cons.injEq, exists_eq_left']

/-- Has an op few and short names? -/
def Opv.short (x : Opv) : Bool := decide (x.user.size ≤ 40 ∧ x.users.length ≤ 20 ∧ ∀ y ∈ x.users, y.size ≤ 40)
theorem ref_Short (x : Opv) (hl : x.users.length ≤ 9223372036854775807) : PCall P 9 [x.av] (fun y => y = bool x.short) := by
  refine pcall_go tyOk Tryd.func9 rfl rfl ?_
  intro K hK
  simp only [Tryd.ntmps9, List.length_cons, List.length_nil, Nat.reduceAdd, Nat.reduceSub, List.replicate, List.cons_append, List.nil_append]
  by_cases h1 : x.user.size ≤ 40
  · have c1 : decide ((40 : Int) < (x.user.size : Int)) = false := decide_eq_false (by omega)
    have c1' : decide ((x.user.size : Int) > (40 : Int)) = false := decide_eq_false (by omega)
    by_cases h2 : x.users.length ≤ 20
    · have c2 : decide ((20 : Int) < (x.users.length : Int)) = false := decide_eq_false (by omega)
      have c2' : decide ((x.users.length : Int) > (20 : Int)) = false := decide_eq_false (by omega)
      try simp (maxSteps := 1000000) only [go_skip, go_region, go_seq, go_cond, go_block, go_loop, go_ops_nil, go_op, go_guard, opK_none, contK_some, condK_f, guardK_eq, guardV_ff, callOf, fstep, fpre, fstep0, fbinA, fbin, fbin0, fload, fcell, ffieldAddr, flen, fpick, T, TI.isAgg, St.ev, St.put, AV.cells, AV.known, List.getD_cons_zero, List.getD_cons_succ, List.set, List.length_cons, List.length_nil, List.drop_succ_cons, List.drop_zero, List.headD_cons, List.nil_append, List.getElem?_cons_zero, List.getElem?_cons_succ, Option.bind_some, List.getElem?_toArray, true_and, Bool.true_and, Bool.false_eq_true, ↓reduceIte, reduceCtorEq, ne_eq, not_false_eq_true, Nat.reduceAdd, Nat.reduceLT, Nat.zero_add, cond_false, c1, c2, strs_len]
      refine loopK_rule tyOk (α := Nat) 1 [1, 3] (fun i => i ≤ x.users.length ∧ ∀ y ∈ x.users.take i, y.size ≤ 40)
        (fun i => ⟨[.any, .ptr 0 0, .any, i64 i, .any, .any, .any, .any, .any, .any, .any, .any, .any, .any, .any, .any, .any, .any, .any, .any, .any, .any, .any, .any, .any, .any, .any, .any], [.box x.cells]⟩)
        (fun i => x.users.length - i) 0 (by simp) ⟨Nat.zero_le _, fun y hy => by simp at hy⟩ rfl ?_
      rintro i ⟨hi, hall⟩
      try simp (maxSteps := 1000000) only [go_region, go_seq, go_cond, go_ops_nil, go_op, opK_none, contK_some, callOf, fstep, fpre, fstep0, fbinA, fbin, fbin0, fload, fcell, ffieldAddr, flen, T, TI.isAgg, St.ev, St.put, List.getD_cons_zero, List.getD_cons_succ, List.set, List.length_cons, List.length_nil, List.drop_succ_cons, List.drop_zero, List.headD_cons, List.getElem?_cons_zero, List.getElem?_cons_succ, List.getElem?_toArray, true_and, Bool.true_and, Bool.false_eq_true, ↓reduceIte, reduceCtorEq, ne_eq, not_false_eq_true, Nat.reduceLT, Nat.zero_add, strs_len]
      (first | refine guardV_split ?_ ?_ | refine condK_split ?_ ?_ | refine drawV_split ?_ ?_ | refine condY_split ?_ ?_ | refine guardY_split ?_ ?_) <;> intro hf <;> try simp (maxSteps := 1000000) only [go_skip, go_region, go_seq, go_block, go_exit, go_ret, exitK_code, exitK_blk, exitK_nil, go_ops_nil, go_op, opK_none, contK_some, condK_t, condK_f, callOf, fstep, fpre, fpost, fstep0, fload, fcell, ffieldAddr, findexAddr, flen, T, TI.isAgg, St.ev, St.put, AV.cells, AV.known, Value.cells, List.getD_cons_zero, List.getD_cons_succ, List.set, List.length_cons, List.length_nil, List.drop_succ_cons, List.drop_zero, List.headD_cons, List.getElem?_cons_zero, List.getElem?_cons_succ, List.getElem?_toArray, true_and, Bool.true_and, Bool.false_eq_true, ↓reduceIte, reduceCtorEq, ne_eq, not_false_eq_true, Nat.reduceLT, Nat.zero_add, loopX_exit]
      · have hlt : i < x.users.length := by simpa using hf
        have eg := strs_get hlt
        have ew : IntKind.i64.wrap ((i : Int) + 1) = ((i + 1 : Nat) : Int) := by rw [wrap_i64 (by omega) (by omega)]; rfl
        have b1 : (0 : Int) ≤ (i : Int) ∧ Int.toNat (i : Int) < x.users.length := by omega
        try simp (maxSteps := 1000000) only [go_cond, go_ops_nil, go_op, opK_none, contK_some, callOf, fstep, fpre, fstep0, fbinA, fbin, fbin0, St.ev, St.put, List.getD_cons_zero, List.getD_cons_succ, List.set, List.map_cons, List.map_nil, List.length_cons, List.length_nil, List.headD_cons, true_and, and_true, Bool.and_true, Bool.true_and, Nat.reduceLT, Nat.zero_add, eg, b1, strs_len]
        by_cases h3 : (x.users[i]).size ≤ 40
        · have c3 : decide ((40 : Int) < ((x.users[i]).size : Int)) = false := decide_eq_false (by omega)
          have c3' : decide (((x.users[i]).size : Int) > (40 : Int)) = false := decide_eq_false (by omega)
          try simp (maxSteps := 1000000) only [go_nil, go_skip, go_region, go_blk, go_ops_nil, go_op, opK_none, contK_some, condK_f, callOf, fstep, fpre, fstep0, fbinA, fbin, fbin0, St.ev, St.put, List.getD_cons_zero, List.getD_cons_succ, List.set, true_and, Bool.true_and, c3, ew]
          simp only [loopX_normal, St.trunc, St.keep, truncVs, truncV, AB.trunc, keepV, List.elem_cons, List.elem_nil, List.take_succ_cons, List.take_zero, List.map_cons, List.map_nil, Nat.reduceAdd, Nat.reduceBEq, Nat.reduceLeDiff, Nat.zero_add, Bool.false_eq_true, ↓reduceIte]
          refine ⟨i + 1, ⟨hlt, fun y hy => ?_⟩, by omega, rfl⟩
          rw [List.take_succ_eq_append_getElem hlt] at hy
          rcases List.mem_append.1 hy with hy | hy
          · exact hall y hy
          · simp at hy; subst hy; exact h3
        · have c3 : decide ((40 : Int) < ((x.users[i]).size : Int)) = true := decide_eq_true (by omega)
          have c3' : decide (((x.users[i]).size : Int) > (40 : Int)) = true := decide_eq_true (by omega)
          have he : x.short = false := by
            unfold Opv.short
            exact decide_eq_false (fun h => h3 (h.2.2 _ (List.getElem_mem hlt)))
          rw [he] at hK
          try simp (maxSteps := 1000000) only [go_region, go_seq, go_ret, go_ops_nil, go_op, opK_none, contK_some, condK_t, callOf, fstep, fpre, fstep0, St.ev, St.put, List.set, true_and, Bool.true_and, loopX_ret, c3]
          apply hK
          simp only [Tryd.results9, retK, ares, Bool.and_true, Bool.true_and, AV.ofResults, St.trunc, truncVs, truncV, List.getD_cons_zero, List.getD_cons_succ, List.take_zero, List.map_nil, true_and, and_true, List.cons.injEq, exists_eq_left']
      · obtain rfl : i = x.users.length := by have := of_decide_eq_false hf; omega
        rw [List.take_length] at hall
        have he : x.short = true := decide_eq_true ⟨h1, h2, hall⟩
        rw [he] at hK
        apply hK
        simp only [Tryd.results9, retK, ares, Bool.and_true, Bool.true_and, AV.ofResults, St.trunc, truncVs, truncV, List.getD_cons_zero, List.getD_cons_succ, List.take_zero, List.map_nil, true_and, and_true, List.cons.injEq, exists_eq_left']
    · have c2 : decide ((20 : Int) < (x.users.length : Int)) = true := decide_eq_true (by omega)
      have c2' : decide ((x.users.length : Int) > (20 : Int)) = true := decide_eq_true (by omega)
      have he : x.short = false := decide_eq_false (fun h => h2 h.2.1)
      rw [he] at hK
      try simp (maxSteps := 1000000) only [go_region, go_seq, go_cond, go_ret, go_ops_nil, go_op, go_guard, opK_none, contK_some, condK_t, guardK_eq, guardV_ff, callOf, fstep, fpre, fstep0, fbinA, fbin, fbin0, fload, fcell, ffieldAddr, flen, fpick, T, TI.isAgg, St.ev, St.put, AV.cells, AV.known, List.getD_cons_zero, List.getD_cons_succ, List.set, List.length_cons, List.length_nil, List.drop_succ_cons, List.drop_zero, List.headD_cons, List.nil_append, List.getElem?_cons_zero, List.getElem?_cons_succ, Option.bind_some, List.getElem?_toArray, true_and, Bool.true_and, Bool.false_eq_true, ↓reduceIte, reduceCtorEq, ne_eq, not_false_eq_true, Nat.reduceAdd, Nat.reduceLT, Nat.zero_add, cond_false, c1, c2, strs_len]
      apply hK
      simp only [Tryd.results9, retK, ares, Bool.and_true, Bool.true_and, AV.ofResults, St.trunc, truncVs, truncV, List.getD_cons_zero, List.getD_cons_succ, List.take_zero, List.map_nil, true_and, and_true, List.cons.injEq, exists_eq_left']
  · have c1 : decide ((40 : Int) < (x.user.size : Int)) = true := decide_eq_true (by omega)
    have c1' : decide ((x.user.size : Int) > (40 : Int)) = true := decide_eq_true (by omega)
    have he : x.short = false := decide_eq_false (fun h => h1 h.1)
    rw [he] at hK
    try simp (maxSteps := 1000000) only [go_region, go_seq, go_cond, go_ret, go_ops_nil, go_op, go_guard, opK_none, contK_some, condK_t, guardK_eq, guardV_tf, undef, callOf, fstep, fpre, fstep0, fbinA, fbin, fbin0, fload, fcell, ffieldAddr, flen, fpick, T, TI.isAgg, St.ev, St.put, AV.cells, AV.known, List.getD_cons_zero, List.getD_cons_succ, List.set, List.length_cons, List.length_nil, List.drop_succ_cons, List.drop_zero, List.headD_cons, List.nil_append, List.getElem?_cons_zero, List.getElem?_cons_succ, Option.bind_some, List.getElem?_toArray, true_and, Bool.true_and, Bool.false_eq_true, ↓reduceIte, reduceCtorEq, ne_eq, not_false_eq_true, Nat.reduceAdd, Nat.reduceLT, Nat.zero_add, c1]
    apply hK
    simp only [Tryd.results9, retK, ares, Bool.and_true, Bool.true_and, AV.ofResults, St.trunc, truncVs, truncV, List.getD_cons_zero, List.getD_cons_succ, List.take_zero, List.map_nil, true_and, and_true, List.cons.injEq, exists_eq_left']

/-- What is known of any op. -/
structure Opv.fit (x : Opv) : Prop where
  kind : In64 x.kind
  id : In64 x.id
  st : In64 x.st
  pr : In64 x.pr
  ttl : x.ttl < 18446744073709551616
  len : x.users.length ≤ 9223372036854775807
theorem Opv.fit.ok {x : Opv} (h : x.fit) (hs : x.short = true) : x.ok := by
  obtain ⟨h1, h2, h3⟩ := of_decide_eq_true hs
  exact ⟨h.id, h.st, h.pr, h.ttl, h1, h2, h3⟩
theorem lit_i64 {n : Int} (h : (Lit.int .i64 n).wf = true) : In64 n := by
  simpa [Lit.wf, IntKind.min, IntKind.max, IntKind.signed, IntKind.bits, In64] using h
theorem lit_u64 {n : Int} (h : (Lit.int .u64 n).wf = true) : 0 ≤ n ∧ n ≤ 18446744073709551615 := by
  simpa [Lit.wf, IntKind.min, IntKind.max, IntKind.signed, IntKind.bits] using h
theorem fits_strs {ys : List AV} (h : ∀ y ∈ ys, ∃ zs, fitsAll [.str] zs ∧ y = pack false zs) : ∃ l : List ByteArray, ys = strs l := by
  induction ys with
  | nil => exact ⟨[], rfl⟩
  | cons y ys ih =>
    obtain ⟨l, rfl⟩ := ih (fun z hz => h z (by simp [hz]))
    obtain ⟨zs, ⟨_, _, rfl, ⟨s, rfl, _⟩, rfl⟩, rfl⟩ := h y (by simp)
    exact ⟨s :: l, rfl⟩
theorem fits_op {zs : List AV} (h : fitsAll [.int .i64, .str, .int .i64, .int .i64, .int .i64, .int .u64, .sl 1 false [.str]] zs) : ∃ o : Opv, AV.agg zs = o.av ∧ o.fit := by
  obtain ⟨_, _, rfl, ⟨a, rfl, ha⟩, _, _, rfl, ⟨u, rfl, _⟩, _, _, rfl, ⟨b, rfl, hb⟩, _, _, rfl, ⟨c, rfl, hc⟩, _, _, rfl, ⟨d, rfl, hd⟩, _, _, rfl, ⟨t, rfl, ht⟩, _, _, rfl, ⟨ys, rfl, hlen, hys⟩, rfl⟩ := h
  obtain ⟨us, rfl⟩ := fits_strs hys
  have ht := lit_u64 ht
  obtain ⟨t, rfl⟩ : ∃ n : Nat, t = n := ⟨t.toNat, by omega⟩
  exact ⟨⟨a, u, b, c, d, t, us⟩, rfl, lit_i64 ha, lit_i64 hb, lit_i64 hc, lit_i64 hd, by simp only; omega, by simpa [maxLen] using hlen⟩
theorem fits_pr {zs : List AV} (h : fitsAll [.int .i64, .int .i64, .int .i64] zs) : ∃ p : Pr, AV.agg zs = p.av ∧ p.ok := by
  obtain ⟨_, _, rfl, ⟨a, rfl, ha⟩, _, _, rfl, ⟨b, rfl, hb⟩, _, _, rfl, ⟨c, rfl, hc⟩, rfl⟩ := h
  exact ⟨⟨a, b, c⟩, rfl, lit_i64 ha, lit_i64 hb, lit_i64 hc⟩
theorem fits_prs {ys : List AV} (h : ∀ y ∈ ys, ∃ zs, fitsAll [.int .i64, .int .i64, .int .i64] zs ∧ y = pack true zs) : ∃ l : List Pr, ys = prL l ∧ ∀ p ∈ l, p.ok := by
  induction ys with
  | nil => exact ⟨[], rfl, fun p hp => by cases hp⟩
  | cons y ys ih =>
    obtain ⟨l, rfl, hl⟩ := ih (fun z hz => h z (by simp [hz]))
    obtain ⟨zs, hz, rfl⟩ := h y (by simp)
    obtain ⟨p, e, hp⟩ := fits_pr hz
    exact ⟨p :: l, by rw [show pack true zs = AV.agg zs from rfl, e]; rfl, fun q hq => by
      rcases List.mem_cons.1 hq with rfl | hq
      · exact hp
      · exact hl q hq⟩
/-- Of an event all but how long its name is. -/
structure Ev.fit (e : Ev) : Prop where
  old : e.old.ok
  new : e.new.ok
  seq : e.seq < 18446744073709551616
theorem fits_evs {ys : List AV} (h : ∀ y ∈ ys, ∃ zs, fitsAll [.str, .int .i64, .int .i64, .int .i64, .int .i64, .int .i64, .int .i64, .int .u64] zs ∧ y = pack true zs) : ∃ l : List Ev, ys = evL l ∧ ∀ e ∈ l, e.fit := by
  induction ys with
  | nil => exact ⟨[], rfl, fun p hp => by cases hp⟩
  | cons y ys ih =>
    obtain ⟨l, rfl, hl⟩ := ih (fun z hz => h z (by simp [hz]))
    obtain ⟨zs, ⟨_, _, rfl, ⟨u, rfl, _⟩, _, _, rfl, ⟨a, rfl, ha⟩, _, _, rfl, ⟨b, rfl, hb⟩, _, _, rfl, ⟨c, rfl, hc⟩, _, _, rfl, ⟨d, rfl, hd⟩, _, _, rfl, ⟨e, rfl, he⟩, _, _, rfl, ⟨f, rfl, hf⟩, _, _, rfl, ⟨t, rfl, ht⟩, rfl⟩, rfl⟩ := h y (by simp)
    have ht := lit_u64 ht
    obtain ⟨t, rfl⟩ : ∃ n : Nat, t = n := ⟨t.toNat, by omega⟩
    exact ⟨⟨u, ⟨a, b, c⟩, ⟨d, e, f⟩, t⟩ :: l, rfl, fun q hq => by
      rcases List.mem_cons.1 hq with rfl | hq
      · exact ⟨⟨lit_i64 ha, lit_i64 hb, lit_i64 hc⟩, ⟨lit_i64 hd, lit_i64 he, lit_i64 hf⟩, by simp only; omega⟩
      · exact hl q hq⟩
structure Rep.fit (r : Rep) : Prop where
  err : In64 r.err
  nv : r.vals.length ≤ 9223372036854775807
  ne : r.evts.length ≤ 9223372036854775807
  vals : ∀ p ∈ r.vals, p.ok
  evts : ∀ e ∈ r.evts, e.fit
theorem fits_rep {zs : List AV} (h : fitsAll [.int .i64, .sl 3 true [.int .i64, .int .i64, .int .i64], .sl 8 true [.str, .int .i64, .int .i64, .int .i64, .int .i64, .int .i64, .int .i64, .int .u64], .bool] zs) : ∃ r : Rep, AV.agg zs = r.av ∧ r.fit := by
  obtain ⟨_, _, rfl, ⟨a, rfl, ha⟩, _, _, rfl, ⟨ys, rfl, hy, hys⟩, _, _, rfl, ⟨es, rfl, he, hes⟩, _, _, rfl, ⟨b, rfl⟩, rfl⟩ := h
  obtain ⟨ps, rfl, hp⟩ := fits_prs hys
  obtain ⟨el, rfl, hel⟩ := fits_evs hes
  exact ⟨⟨a, ps, el, b⟩, rfl, lit_i64 ha, by simpa [maxLen] using hy, by simpa [maxLen] using he, hp, hel⟩
theorem Rep.fit.ok {r : Rep} (h : r.fit) (h1 : r.vals.length ≤ 60) (h2 : r.evts.length ≤ 60) (h3 : ∀ e ∈ r.evts, e.user.size ≤ 100) : r.ok :=
  ⟨h.err, h1, h2, h.vals, fun e he => ⟨h3 e he, (h.evts e he).old, (h.evts e he).new, (h.evts e he).seq⟩⟩
end Go.Proofs.YtinkcffklomneaaDoor
namespace Go.Proofs.YtinkcffklomneaaDoor
open Go Go.Lib
set_option linter.unusedSimpArgs false
set_option linter.unusedVariables false

inductive Tk where
  | bad (b : Nat)
  | rune (r : Nat)
def Tk.bytes : Tk → List UInt8
  | .bad b => [UInt8.ofNat b]
  | .rune r => encodeRune (r : Int)
def Tk.out (T : PrintTabs) : Tk → List Int
  | .bad b => [92, 120, Lib.hexDigit (b / 16), Lib.hexDigit (b % 16)]
  | .rune r => escRune T (r : Int)
def Tk.ok : Tk → Prop
  | .bad b => 128 ≤ b ∧ b < 256
  | .rune r => Lib.validRune (r : Int) = true
def unhex (z : Int) : Nat := if z < 58 then (z - 48).toNat else (z - 87).toNat
def unhexs : Nat → List Int → Nat
  | a, [] => a
  | a, z :: l => unhexs (16 * a + unhex z) l
def unq : List Int → Tk × List Int
  | [] => (.bad 0, [])
  | x :: l =>
    if x = 92 then
      (match l with
       | [] => (.bad 0, [])
       | y :: l =>
         if y = 34 ∨ y = 92 then (.rune y.toNat, l)
         else if y = 97 then (.rune 7, l) else if y = 98 then (.rune 8, l) else if y = 102 then (.rune 12, l) else if y = 110 then (.rune 10, l)
         else if y = 114 then (.rune 13, l) else if y = 116 then (.rune 9, l) else if y = 118 then (.rune 11, l)
         else if y = 120 then (if 128 ≤ unhexs 0 (l.take 2) then (.bad (unhexs 0 (l.take 2)), l.drop 2) else (.rune (unhexs 0 (l.take 2)), l.drop 2))
         else if y = 117 then (.rune (unhexs 0 (l.take 4)), l.drop 4)
         else (.rune (unhexs 0 (l.take 8)), l.drop 8))
    else if x < 128 then (.rune x.toNat, l)
    else if x < 224 then (.rune ((x - 192) * 64 + (l.getD 0 0 - 128)).toNat, l.drop 1)
    else if x < 240 then (.rune ((x - 224) * 4096 + (l.getD 0 0 - 128) * 64 + (l.getD 1 0 - 128)).toNat, l.drop 2)
    else (.rune ((x - 240) * 262144 + (l.getD 0 0 - 128) * 4096 + (l.getD 1 0 - 128) * 64 + (l.getD 2 0 - 128)).toNat, l.drop 3)

theorem unhex_digit {x : Nat} (h : x < 16) : unhex (Lib.hexDigit x) = x := by
  unfold unhex Lib.hexDigit
  split <;> split <;> omega
theorem unhexs_2 {r : Nat} (h : r < 256) : unhexs 0 [Lib.hexDigit (r / 16), Lib.hexDigit (r % 16)] = r := by
  simp only [unhexs, unhex_digit (show r / 16 < 16 by omega), unhex_digit (show r % 16 < 16 by omega)]
  omega
theorem unhexs_4 {r : Nat} (h : r < 65536) : unhexs 0 (hexDigits r 4) = r := by
  simp only [hexDigits, unhexs, unhex_digit (Nat.mod_lt _ (by decide : 0 < 16))]
  omega
theorem unhexs_8 {r : Nat} (h : r < 4294967296) : unhexs 0 (hexDigits r 8) = r := by
  simp only [hexDigits, unhexs, unhex_digit (Nat.mod_lt _ (by decide : 0 < 16))]
  omega
theorem hexDigits_len (r : Nat) : ∀ n, (hexDigits r n).length = n
  | 0 => rfl
  | n + 1 => by rw [hexDigits, List.length_cons, hexDigits_len r n]

/-- What is told of a rune, or of a byte, tells it. -/
theorem unq_out (T : PrintTabs) (t : Tk) (h : t.ok) (rest : List Int) : unq (t.out T ++ rest) = (t, rest) := by
  cases t with
  | bad b =>
    have h2 := unhexs_2 h.2
    have h1 := h.1
    simp [Tk.out, unq, h2, h1]
  | rune r =>
    have hv : (0 ≤ (r : Int) ∧ (r : Int) < 55296) ∨ (57343 < (r : Int) ∧ (r : Int) ≤ 1114111) := by
      simpa [Tk.ok, Lib.validRune] using h
    simp only [Tk.out]
    unfold escRune
    by_cases c0 : (r : Int) = 34 ∨ (r : Int) = 92
    · rw [if_pos c0]; simp [unq, c0]
    rw [if_neg c0]
    by_cases c1 : isPrintR T r = true
    · rw [if_pos c1]
      have n92 : ¬ (r : Int) = 92 := fun e => c0 (.inr e)
      by_cases d1 : (r : Int) ≤ 127
      · rw [encodeRuneZ_one (by omega) d1]
        simp only [List.cons_append, List.nil_append, unq]
        rw [if_neg n92, if_pos (by omega)]
        simp
      by_cases d2 : (r : Int) ≤ 2047
      · rw [encodeRuneZ_two (by omega) d2]
        simp only [List.cons_append, List.nil_append, unq]
        rw [if_neg (by omega), if_neg (by omega), if_pos (by omega)]
        simp only [List.getD_cons_zero, List.drop_succ_cons, List.drop_zero, Prod.mk.injEq, Tk.rune.injEq, and_true]
        omega
      by_cases d3 : (r : Int) ≤ 65535
      · rw [encodeRuneZ_three (by omega)]
        simp only [List.cons_append, List.nil_append, unq]
        rw [if_neg (by omega), if_neg (by omega), if_neg (by omega), if_pos (by omega)]
        simp only [List.getD_cons_zero, List.getD_cons_succ, List.drop_succ_cons, List.drop_zero, Prod.mk.injEq, Tk.rune.injEq, and_true]
        omega
      · rw [encodeRuneZ_four (by omega) (by omega)]
        simp only [List.cons_append, List.nil_append, unq]
        rw [if_neg (by omega), if_neg (by omega), if_neg (by omega), if_neg (by omega)]
        simp only [List.getD_cons_zero, List.getD_cons_succ, List.drop_succ_cons, List.drop_zero, Prod.mk.injEq, Tk.rune.injEq, and_true]
        omega
    rw [if_neg c1]
    by_cases c2 : (r : Int) = 7
    · rw [if_pos c2]; simp [unq]; omega
    rw [if_neg c2]
    by_cases c3 : (r : Int) = 8
    · rw [if_pos c3]; simp [unq]; omega
    rw [if_neg c3]
    by_cases c4 : (r : Int) = 12
    · rw [if_pos c4]; simp [unq]; omega
    rw [if_neg c4]
    by_cases c5 : (r : Int) = 10
    · rw [if_pos c5]; simp [unq]; omega
    rw [if_neg c5]
    by_cases c6 : (r : Int) = 13
    · rw [if_pos c6]; simp [unq]; omega
    rw [if_neg c6]
    by_cases c7 : (r : Int) = 9
    · rw [if_pos c7]; simp [unq]; omega
    rw [if_neg c7]
    by_cases c8 : (r : Int) = 11
    · rw [if_pos c8]; simp [unq]; omega
    rw [if_neg c8]
    by_cases c9 : (r : Int) < 32 ∨ (r : Int) = 127
    · rw [if_pos c9]
      have h2 := unhexs_2 (show r < 256 by omega)
      have h1 : ¬ 128 ≤ r := by omega
      simp [unq, h2, h1]
    rw [if_neg c9]
    by_cases c10 : Lib.validRune r = false
    · rw [show Lib.validRune (r : Int) = true from h] at c10; cases c10
    rw [if_neg c10]
    by_cases c11 : (r : Int) < 65536
    · rw [if_pos c11]
      have h2 := unhexs_4 (show r < 65536 by omega)
      have hl := hexDigits_len r 4
      simp only [Int.toNat_natCast, List.cons_append, unq]
      simp [List.take_append_of_le_length, List.drop_append_of_le_length, hl, h2, List.take_of_length_le, List.drop_eq_nil_of_le]
    rw [if_neg c11]
    have h2 := unhexs_8 (show r < 4294967296 by omega)
    have hl := hexDigits_len r 8
    simp only [Int.toNat_natCast, List.cons_append, unq]
    simp [List.take_append_of_le_length, List.drop_append_of_le_length, hl, h2, List.take_of_length_le, List.drop_eq_nil_of_le]

theorem out_head (T : PrintTabs) (t : Tk) (h : t.ok) : ∃ x xs, t.out T = x :: xs ∧ x ≠ 34 := by
  cases t with
  | bad b => exact ⟨92, _, rfl, by decide⟩
  | rune r =>
    simp only [Tk.out]
    unfold escRune
    by_cases c0 : (r : Int) = 34 ∨ (r : Int) = 92
    · rw [if_pos c0]; exact ⟨92, _, rfl, by decide⟩
    rw [if_neg c0]
    by_cases c1 : isPrintR T r = true
    · rw [if_pos c1]
      unfold encodeRuneZ
      repeat' split
      all_goals exact ⟨_, _, rfl, by omega⟩
    rw [if_neg c1]
    repeat' split
    all_goals exact ⟨_, _, rfl, by decide⟩

theorem list_extract (s : ByteArray) (k : Nat) : (s.extract k s.size).data.toList = s.data.toList.drop k := by
  rw [ByteArray.data_extract, Array.toList_extract]
  show (s.data.toList.drop k).take (s.size - k) = _
  refine List.take_of_length_le ?_
  rw [List.length_drop, Array.length_toList]
  exact Nat.le_refl _
/-- A round's token. -/
theorem tok_step (T : PrintTabs) (s : ByteArray) (h : 0 < s.size) : ∃ t : Tk, t.ok ∧ quoteStep T s = t.out T ∧ s.data.toList = t.bytes ++ (s.extract (Utf8.decode s 0).2 s.size).data.toList := by
  have hne : s.data.toList ≠ [] := by
    intro e
    have h1 : s.data.size = 0 := by rw [← Array.length_toList, e]; rfl
    have h2 : s.size = s.data.size := rfl
    omega
  have hL : decodeL s.data.toList = Utf8.decode s 0 := by rw [decodeL]
  by_cases hb : (Utf8.decode s 0).2 = 1 ∧ (Utf8.decode s 0).1 = 65533
  · refine ⟨.bad (s.get! 0).toNat, ⟨?_, UInt8.toNat_lt _⟩, by rw [quoteStep, if_pos hb]; rfl, ?_⟩
    · have e := decode_at s 0
      rcases decodeN_shape (s.size - 0) (s.get! 0).toNat (s.get! (0 + 1)).toNat (s.get! (0 + 2)).toNat (s.get! (0 + 3)).toNat with ⟨c, d⟩ | ⟨c1, c2, c3, cv, d⟩ | ⟨c1, c2, c3, c4, cv, cs, d⟩ | ⟨c1, c2, c3, c4, c5, cv, cw, d⟩ | d
      · rw [e, d] at hb
        have := hb.2
        simp only at this
        omega
      · omega
      · omega
      · omega
      · apply Nat.le_of_not_lt
        intro hlt
        have d2 : decodeN (s.size - 0) (s.get! 0).toNat (s.get! (0 + 1)).toNat (s.get! (0 + 2)).toNat (s.get! (0 + 3)).toNat = ((s.get! 0).toNat, 1) := by
          unfold decodeN; rw [if_pos hlt]
        rw [d] at d2
        have := congrArg Prod.fst d2
        simp only at this
        omega
    · rw [hb.1, list_extract]
      simp only [Tk.bytes, UInt8.ofNat_toNat]
      have h0 : s.get! 0 = s.data[0]! := by cases s; rfl
      cases hl : s.data.toList with
      | nil => exact absurd hl hne
      | cons x xs =>
        have : s.data[0]! = x := by
          have := congrArg (fun l => l[0]?) hl
          simp at this
          rw [getElem!_def, this]
        rw [h0, this]
        rfl
  · refine ⟨.rune (Utf8.decode s 0).1, rune_valid s, quoteStep_good T s hb, ?_⟩
    have := encode_decode s.data.toList hne (by rw [hL]; exact fun hh => hb ⟨hh.2, hh.1⟩)
    rw [hL] at this
    rw [list_extract, Tk.bytes, this, List.take_append_drop]

theorem quote_read (T : PrintTabs) : ∀ (f f' : Nat) (s s' : ByteArray) (rest rest' : List Int), s.size ≤ f → s'.size ≤ f' → quoteFrom T f s ++ 34 :: rest = quoteFrom T f' s' ++ 34 :: rest' → s = s' ∧ rest = rest' := by
  intro f
  induction f with
  | zero =>
    intro f' s s' rest rest' h1 h2 he
    rw [quoteFrom_end T 0 s (by omega), List.nil_append] at he
    by_cases h0 : 0 < s'.size
    · obtain ⟨t, ht, e1, _⟩ := tok_step T s' h0
      obtain ⟨x, xs, e2, hx⟩ := out_head T t ht
      rw [quoteFrom_step T f' s' h0 h2, e1, e2] at he
      simp only [List.cons_append, List.cons.injEq] at he
      exact absurd he.1.symm hx
    · rw [quoteFrom_end T f' s' h0, List.nil_append] at he
      refine ⟨?_, by simpa using he⟩
      apply ByteArray.ext
      have a1 : s.data.size = 0 := by have : s.size = s.data.size := rfl; omega
      have a2 : s'.data.size = 0 := by have : s'.size = s'.data.size := rfl; omega
      rw [Array.eq_empty_of_size_eq_zero a1, Array.eq_empty_of_size_eq_zero a2]
  | succ f ih =>
    intro f' s s' rest rest' h1 h2 he
    by_cases h0 : 0 < s.size
    · obtain ⟨t, ht, e1, e1b⟩ := tok_step T s h0
      rw [quoteFrom_step T (f + 1) s h0 h1, e1] at he
      by_cases h0' : 0 < s'.size
      · obtain ⟨t', ht', e2, e2b⟩ := tok_step T s' h0'
        rw [quoteFrom_step T f' s' h0' h2, e2, List.append_assoc, List.append_assoc] at he
        have hu := congrArg unq he
        rw [unq_out T t ht, unq_out T t' ht', Prod.mk.injEq] at hu
        obtain ⟨rfl, hr⟩ := hu
        have w1 := width_pos s 0
        have w2 := width_pos s' 0
        obtain ⟨hs, hrr⟩ := ih (f' - 1) _ _ rest rest' (by rw [size_rest]; omega) (by rw [size_rest]; omega) hr
        refine ⟨?_, hrr⟩
        apply ByteArray.ext
        apply Array.ext'
        rw [e1b, e2b, hs]
      · rw [quoteFrom_end T f' s' h0', List.nil_append] at he
        obtain ⟨x, xs, e2, hx⟩ := out_head T t ht
        rw [e2] at he
        simp only [List.cons_append, List.cons.injEq] at he
        exact absurd he.1 hx
    · rw [quoteFrom_end T (f + 1) s h0, List.nil_append] at he
      by_cases h0' : 0 < s'.size
      · obtain ⟨t, ht, e1, _⟩ := tok_step T s' h0'
        obtain ⟨x, xs, e2, hx⟩ := out_head T t ht
        rw [quoteFrom_step T f' s' h0' h2, e1, e2] at he
        simp only [List.cons_append, List.cons.injEq] at he
        exact absurd he.1.symm hx
      · rw [quoteFrom_end T f' s' h0', List.nil_append] at he
        refine ⟨?_, by simpa using he⟩
        apply ByteArray.ext
        have a1 : s.data.size = 0 := by have : s.size = s.data.size := rfl; omega
        have a2 : s'.data.size = 0 := by have : s'.size = s'.data.size := rfl; omega
        rw [Array.eq_empty_of_size_eq_zero a1, Array.eq_empty_of_size_eq_zero a2]
#print axioms quote_read
end Go.Proofs.YtinkcffklomneaaDoor
namespace Go.Proofs.YtinkcffklomneaaDoor
open Go Go.Lib
set_option linter.unusedSimpArgs false
set_option linter.unusedVariables false

/-- A text's bytes as numbers. -/
def ints (b : ByteArray) : List Int := b.data.toList.map fun x => (x.toNat : Int)
theorem ints_app (a b : ByteArray) : ints (a ++ b) = ints a ++ ints b := by simp [ints, ByteArray.data_append]
theorem ints_inj {a b : ByteArray} (h : ints a = ints b) : a = b := by
  apply ByteArray.ext
  apply Array.ext'
  exact (List.map_inj_right (fun x y (e : (x.toNat : Int) = (y.toNat : Int)) => UInt8.toNat_inj.1 (by omega))).1 h
theorem ints_nums {l : List Int} (h : ∀ x ∈ l, 0 ≤ x ∧ x < 256) : ints (strOfNums l) = l := by
  unfold ints strOfNums
  simp only [List.map_map]
  rw [List.map_congr_left (g := id)]
  · simp
  · intro x hx
    have := h x hx
    simp only [Function.comp, id]
    rw [UInt8.toNat_ofNat']
    omega
def okB (x : Int) : Prop := 0 ≤ x ∧ x < 256
theorem hex_ok {x : Nat} (h : x < 16) : okB (Lib.hexDigit x) := by
  unfold okB Lib.hexDigit
  split <;> omega
theorem hexs_ok (r : Nat) : ∀ n, ∀ x ∈ hexDigits r n, okB x
  | 0, x, hx => by cases hx
  | n + 1, x, hx => by
    rcases List.mem_cons.1 hx with rfl | hx
    · exact hex_ok (Nat.mod_lt _ (by decide))
    · exact hexs_ok r n x hx
theorem out_ok (T : PrintTabs) (t : Tk) (h : t.ok) : ∀ x ∈ t.out T, okB x := by
  cases t with
  | bad b =>
    intro x hx
    simp only [Tk.out, List.mem_cons, List.mem_nil_iff, or_false] at hx
    have := h.2
    rcases hx with rfl | rfl | rfl | rfl
    · exact ⟨by decide, by decide⟩
    · exact ⟨by decide, by decide⟩
    · exact hex_ok (by omega)
    · exact hex_ok (Nat.mod_lt _ (by decide))
  | rune r =>
    have hv : (0 ≤ (r : Int) ∧ (r : Int) < 55296) ∨ (57343 < (r : Int) ∧ (r : Int) ≤ 1114111) := by
      simpa [Tk.ok, Lib.validRune] using h
    intro x hx
    simp only [Tk.out] at hx
    unfold escRune at hx
    by_cases c0 : (r : Int) = 34 ∨ (r : Int) = 92
    · rw [if_pos c0] at hx
      simp only [List.mem_cons, List.mem_nil_iff, or_false] at hx
      rcases hx with rfl | rfl
      · exact ⟨by decide, by decide⟩
      · exact ⟨by omega, by omega⟩
    rw [if_neg c0] at hx
    by_cases c1 : isPrintR T r = true
    · rw [if_pos c1] at hx
      unfold encodeRuneZ at hx
      repeat' split at hx
      all_goals
        simp only [List.mem_cons, List.mem_nil_iff, or_false] at hx
        refine ⟨?_, ?_⟩ <;> omega
    rw [if_neg c1] at hx
    repeat' split at hx
    all_goals (simp only [List.mem_cons, List.mem_nil_iff, or_false] at hx)
    all_goals first
      | (refine ⟨?_, ?_⟩ <;> omega)
      | (rcases hx with rfl | rfl | rfl | rfl
         · exact ⟨by decide, by decide⟩
         · exact ⟨by decide, by decide⟩
         · exact hex_ok (by omega)
         · exact hex_ok (Nat.mod_lt _ (by decide)))
      | (rcases hx with rfl | rfl | hx
         · exact ⟨by decide, by decide⟩
         · exact ⟨by decide, by decide⟩
         · exact hexs_ok _ _ x hx)
theorem from_ok (T : PrintTabs) : ∀ (f : Nat) (s : ByteArray), ∀ x ∈ quoteFrom T f s, okB x
  | 0, s, x, hx => by simp [quoteFrom] at hx
  | f + 1, s, x, hx => by
    unfold quoteFrom at hx
    split at hx
    · rename_i h0
      obtain ⟨t, ht, e, _⟩ := tok_step T s h0
      rcases List.mem_append.1 hx with hx | hx
      · rw [e] at hx; exact out_ok T t ht x hx
      · exact from_ok T f _ x hx
    · cases hx
theorem ints_quo (s : ByteArray) : ints (quo s) = 34 :: (quoteFrom goPrintTabs s.size s ++ [34]) := by
  rw [quo, ints_nums]
  · rfl
  · intro x hx
    unfold quoteZ at hx
    rcases List.mem_cons.1 hx with rfl | hx
    · exact ⟨by decide, by decide⟩
    · rcases List.mem_append.1 hx with hx | hx
      · exact from_ok _ _ _ x hx
      · simp at hx; subst hx; exact ⟨by decide, by decide⟩
/-- A quoted name, and what is behind it. -/
theorem quo_read {u v : ByteArray} {t t' : List Int} (h : ints (quo u) ++ t = ints (quo v) ++ t') : u = v ∧ t = t' := by
  rw [ints_quo, ints_quo] at h
  simp only [List.cons_append, List.cons.injEq, true_and, List.append_assoc, List.nil_append] at h
  exact quote_read goPrintTabs _ _ u v t t' (Nat.le_refl _) (Nat.le_refl _) h

/-- Up to the first separator. -/
theorem sep_read {S : Int → Prop} : ∀ {a b t t' : List Int}, (∀ z ∈ a, ¬ S z) → (∀ z ∈ b, ¬ S z) → (t = [] ∨ ∃ c r, t = c :: r ∧ S c) → (t' = [] ∨ ∃ c r, t' = c :: r ∧ S c) → a ++ t = b ++ t' → a = b ∧ t = t'
  | [], [], t, t', _, _, _, _, h => ⟨rfl, by simpa using h⟩
  | [], z :: b, t, t', _, hb, ht, _, h => by
    rcases ht with rfl | ⟨c, r, rfl, hc⟩
    · simp at h
    · simp only [List.nil_append, List.cons_append, List.cons.injEq] at h
      exact absurd (h.1 ▸ hc) (hb z (by simp))
  | z :: a, [], t, t', ha, _, _, ht, h => by
    rcases ht with rfl | ⟨c, r, rfl, hc⟩
    · simp at h
    · simp only [List.nil_append, List.cons_append, List.cons.injEq] at h
      exact absurd (h.1 ▸ hc) (ha z (by simp))
  | z :: a, y :: b, t, t', ha, hb, h1, h2, h => by
    simp only [List.cons_append, List.cons.injEq] at h
    obtain ⟨e1, e2⟩ := sep_read (fun w hw => ha w (by simp [hw])) (fun w hw => hb w (by simp [hw])) h1 h2 h.2
    exact ⟨by rw [h.1, e1], e2⟩

/-! ### Numbers -/
def numB (x : Int) : Prop := x = 45 ∨ (48 ≤ x ∧ x ≤ 57)
def valL : Nat → List Int → Nat
  | a, [] => a
  | a, z :: l => valL (10 * a + (z - 48).toNat) l
theorem valL_app : ∀ (l r : List Int) (a : Nat), valL a (l ++ r) = valL (valL a l) r
  | [], r, a => rfl
  | z :: l, r, a => by rw [List.cons_append, valL, valL, valL_app l r]
theorem ints_dgt (u : Nat) : (∀ z ∈ ints (dgt u), 48 ≤ z ∧ z ≤ 57) ∧ valL 0 (ints (dgt u)) = u ∧ ints (dgt u) ≠ [] := by
  induction u using Nat.strongRecOn with
  | _ u ih =>
    by_cases h : u < 10
    · have e : ints (dgt u) = [48 + (u : Int)] := by
        rw [dgt, decDigits_one h]
        rcases (by omega : u = 0 ∨ u = 1 ∨ u = 2 ∨ u = 3 ∨ u = 4 ∨ u = 5 ∨ u = 6 ∨ u = 7 ∨ u = 8 ∨ u = 9) with rfl | rfl | rfl | rfl | rfl | rfl | rfl | rfl | rfl | rfl <;> rfl
      rw [e]
      refine ⟨fun z hz => by simp at hz; subst hz; omega, by simp [valL]; omega, by simp⟩
    · have hm := Nat.mod_lt u (by decide : 0 < 10)
      have e : dgt u = dgt (u / 10) ++ dgt (u % 10) := by rw [dgt, decDigits, dif_neg h, dgt, dgt, decDigits_one hm]; rfl
      obtain ⟨a1, a2, a3⟩ := ih (u / 10) (by omega)
      have e2 : ints (dgt (u % 10)) = [48 + ((u % 10 : Nat) : Int)] := by
        generalize u % 10 = w at *
        rw [dgt, decDigits_one hm]
        rcases (by omega : w = 0 ∨ w = 1 ∨ w = 2 ∨ w = 3 ∨ w = 4 ∨ w = 5 ∨ w = 6 ∨ w = 7 ∨ w = 8 ∨ w = 9) with rfl | rfl | rfl | rfl | rfl | rfl | rfl | rfl | rfl | rfl <;> rfl
      rw [e, ints_app, e2]
      refine ⟨fun z hz => ?_, ?_, by simp⟩
      · rcases List.mem_append.1 hz with hz | hz
        · exact a1 z hz
        · simp at hz; subst hz; omega
      · rw [valL_app, a2]; simp only [valL]; omega
theorem dgt_inj {u v : Nat} (h : ints (dgt u) = ints (dgt v)) : u = v := by
  rw [← (ints_dgt u).2.1, h, (ints_dgt v).2.1]
theorem itB_num (n : Int) : ∀ z ∈ ints (itB n), numB z := by
  unfold itB
  split
  · intro z hz
    rw [ints_app] at hz
    rcases List.mem_append.1 hz with hz | hz
    · left; simpa [ints] using hz
    · right; exact (ints_dgt _).1 z hz
  · intro z hz; right; exact (ints_dgt _).1 z hz
theorem itB_inj {m n : Int} (h : ints (itB m) = ints (itB n)) : m = n := by
  have key : ∀ a b : Nat, ints (⟨#[45]⟩ ++ dgt a) = ints (dgt b) → False := by
    intro a b hh
    rw [ints_app] at hh
    have := (ints_dgt b).1 45 (by rw [← hh]; simp [ints])
    omega
  unfold itB at h
  split at h <;> split at h
  · rw [ints_app, ints_app] at h
    have := dgt_inj (List.append_cancel_left h)
    omega
  · exact absurd h (fun hh => key _ _ hh)
  · exact absurd h.symm (fun hh => key _ _ hh)
  · have := dgt_inj h
    omega
/-- A number, and what is behind it. -/
def notNum (x : Int) : Prop := ¬ numB x
theorem it_read {m n : Int} {t t' : List Int} (h1 : t = [] ∨ ∃ c r, t = c :: r ∧ notNum c) (h2 : t' = [] ∨ ∃ c r, t' = c :: r ∧ notNum c) (h : ints (itB m) ++ t = ints (itB n) ++ t') : m = n ∧ t = t' := by
  obtain ⟨e1, e2⟩ := sep_read (S := notNum) (fun z hz hh => hh (itB_num m z hz)) (fun z hz hh => hh (itB_num n z hz)) h1 h2 h
  exact ⟨itB_inj e1, e2⟩
theorem dgt_read {m n : Nat} {t t' : List Int} (h1 : t = [] ∨ ∃ c r, t = c :: r ∧ notNum c) (h2 : t' = [] ∨ ∃ c r, t' = c :: r ∧ notNum c) (h : ints (dgt m) ++ t = ints (dgt n) ++ t') : m = n ∧ t = t' := by
  obtain ⟨e1, e2⟩ := sep_read (S := notNum) (fun z hz hh => hh (.inr ((ints_dgt m).1 z hz))) (fun z hz hh => hh (.inr ((ints_dgt n).1 z hz))) h1 h2 h
  exact ⟨dgt_inj e1, e2⟩
end Go.Proofs.YtinkcffklomneaaDoor
namespace Go.Proofs.YtinkcffklomneaaDoor
open Go Go.Lib
set_option linter.unusedSimpArgs false
set_option linter.unusedVariables false

abbrev fw (y : ByteArray) : List Int := 32 :: ints y
theorem ints_foldl : ∀ (r : List ByteArray) (x : ByteArray), ints (r.foldl (fun a y => a ++ spB ++ y) x) = ints x ++ r.flatMap fw
  | [], x => by simp
  | y :: r, x => by
    rw [List.foldl_cons, ints_foldl r, ints_app, ints_app, List.flatMap_cons]
    simp [ints, fw]
theorem ints_join (x : ByteArray) (r : List ByteArray) : ints (joinB spB (x :: r)) = ints x ++ r.flatMap fw := ints_foldl r x
theorem fw_head (r : List ByteArray) : r.flatMap fw = [] ∨ ∃ t, r.flatMap fw = 32 :: t := by
  cases r with
  | nil => exact .inl rfl
  | cons y r => exact .inr ⟨_, rfl⟩
theorem nm_no32 {k : Int} (h : 1 ≤ k ∧ k ≤ 9) : ∀ z ∈ ints (nmB k), ¬ z = 32 := by
  rcases (by omega : k = 1 ∨ k = 2 ∨ k = 3 ∨ k = 4 ∨ k = 5 ∨ k = 6 ∨ k = 7 ∨ k = 8 ∨ k = 9) with rfl | rfl | rfl | rfl | rfl | rfl | rfl | rfl | rfl <;> decide
theorem nm_inj {k k' : Int} (h : 1 ≤ k ∧ k ≤ 9) (h' : 1 ≤ k' ∧ k' ≤ 9) (e : ints (nmB k) = ints (nmB k')) : k = k' := by
  rcases (by omega : k = 1 ∨ k = 2 ∨ k = 3 ∨ k = 4 ∨ k = 5 ∨ k = 6 ∨ k = 7 ∨ k = 8 ∨ k = 9) with rfl | rfl | rfl | rfl | rfl | rfl | rfl | rfl | rfl <;>
    (rcases (by omega : k' = 1 ∨ k' = 2 ∨ k' = 3 ∨ k' = 4 ∨ k' = 5 ∨ k' = 6 ∨ k' = 7 ∨ k' = 8 ∨ k' = 9) with rfl | rfl | rfl | rfl | rfl | rfl | rfl | rfl | rfl <;> first | rfl | exact absurd e (by decide))

/-- Are two ops alike, in what counts? -/
def sameO (x y : Opv) : Prop :=
  x.kind = y.kind ∧
    (x.kind = 1 → x.user = y.user ∧ x.id = y.id ∧ x.st = y.st ∧ x.pr = y.pr ∧ x.ttl = y.ttl) ∧ (x.kind = 2 → x.user = y.user ∧ x.id = y.id ∧ x.ttl = y.ttl) ∧ (x.kind = 3 → x.user = y.user ∧ x.id = y.id) ∧
    (x.kind = 4 ∨ x.kind = 6 ∨ x.kind = 7 → x.user = y.user) ∧ (x.kind = 5 → x.users = y.users)
theorem users_read : ∀ (us vs : List ByteArray), (us.map quo).flatMap fw = (vs.map quo).flatMap fw → us = vs
  | [], [], _ => rfl
  | [], v :: vs, h => by simp [fw] at h
  | u :: us, [], h => by simp [fw] at h
  | u :: us, v :: vs, h => by
    simp only [List.map_cons, List.flatMap_cons, fw, List.cons_append, List.cons.injEq, true_and] at h
    obtain ⟨rfl, ht⟩ := quo_read h
    rw [users_read us vs ht]
theorem nn32 : notNum 32 := by unfold notNum numB; omega
theorem nn47 : notNum 47 := by unfold notNum numB; omega
theorem nn62 : notNum 62 := by unfold notNum numB; omega
theorem nn64 : notNum 64 := by unfold notNum numB; omega
theorem cn {c : Int} {r : List Int} (h : notNum c) : (c :: r : List Int) = [] ∨ ∃ c' r', (c :: r : List Int) = c' :: r' ∧ notNum c' := .inr ⟨c, r, rfl, h⟩
theorem en : ([] : List Int) = [] ∨ ∃ c' r', ([] : List Int) = c' :: r' ∧ notNum c' := .inl rfl

theorem line_iff (x y : Opv) (hx : 1 ≤ x.kind ∧ x.kind ≤ 9) (hy : 1 ≤ y.kind ∧ y.kind ≤ 9) : x.line = y.line ↔ sameO x y := by
  have ex : x.line = joinB spB (nmB x.kind :: x.words) := by rw [Opv.line, if_neg (by omega)]
  have ey : y.line = joinB spB (nmB y.kind :: y.words) := by rw [Opv.line, if_neg (by omega)]
  constructor
  · intro h
    rw [ex, ey] at h
    have hi := congrArg ints h
    rw [ints_join, ints_join] at hi
    have f32 : ∀ r : List ByteArray, r.flatMap fw = [] ∨ ∃ c t, r.flatMap fw = c :: t ∧ c = 32 := fun r => (fw_head r).imp id (fun ⟨t, ht⟩ => ⟨32, t, ht, rfl⟩)
    obtain ⟨e1, e2⟩ := sep_read (S := fun z => z = 32) (nm_no32 hx) (nm_no32 hy) (f32 _) (f32 _) hi
    have hk := nm_inj hx hy e1
    refine ⟨hk, ?_, ?_, ?_, ?_, ?_⟩
    · intro h1
      have w1 : x.words = [quo x.user, itB x.id, itB x.st, itB x.pr, dgt x.ttl] := by simp [Opv.words, h1]
      have w2 : y.words = [quo y.user, itB y.id, itB y.st, itB y.pr, dgt y.ttl] := by simp [Opv.words, ← hk, h1]
      rw [w1, w2] at e2
      simp only [List.flatMap_cons, List.flatMap_nil, fw, List.cons_append, List.cons.injEq, true_and] at e2
      obtain ⟨a1, e2⟩ := quo_read e2
      simp only [List.cons.injEq, true_and] at e2
      obtain ⟨a2, e2⟩ := it_read (cn nn32) (cn nn32) e2
      simp only [List.cons.injEq, true_and] at e2
      obtain ⟨a3, e2⟩ := it_read (cn nn32) (cn nn32) e2
      simp only [List.cons.injEq, true_and] at e2
      obtain ⟨a4, e2⟩ := it_read (cn nn32) (cn nn32) e2
      simp only [List.cons.injEq, true_and] at e2
      obtain ⟨a5, _⟩ := dgt_read en en e2
      exact ⟨a1, a2, a3, a4, a5⟩
    · intro h1
      have w1 : x.words = [quo x.user, itB x.id, dgt x.ttl] := by simp [Opv.words, h1]
      have w2 : y.words = [quo y.user, itB y.id, dgt y.ttl] := by simp [Opv.words, ← hk, h1]
      rw [w1, w2] at e2
      simp only [List.flatMap_cons, List.flatMap_nil, fw, List.cons_append, List.cons.injEq, true_and] at e2
      obtain ⟨a1, e2⟩ := quo_read e2
      simp only [List.cons.injEq, true_and] at e2
      obtain ⟨a2, e2⟩ := it_read (cn nn32) (cn nn32) e2
      simp only [List.cons.injEq, true_and] at e2
      obtain ⟨a5, _⟩ := dgt_read en en e2
      exact ⟨a1, a2, a5⟩
    · intro h1
      have w1 : x.words = [quo x.user, itB x.id] := by simp [Opv.words, h1]
      have w2 : y.words = [quo y.user, itB y.id] := by simp [Opv.words, ← hk, h1]
      rw [w1, w2] at e2
      simp only [List.flatMap_cons, List.flatMap_nil, fw, List.cons_append, List.cons.injEq, true_and] at e2
      obtain ⟨a1, e2⟩ := quo_read e2
      simp only [List.cons.injEq, true_and] at e2
      obtain ⟨a2, e2⟩ := it_read en en e2
      exact ⟨a1, a2⟩
    · intro h1
      have w1 : x.words = [quo x.user] := by rcases h1 with h1 | h1 | h1 <;> simp [Opv.words, h1]
      have w2 : y.words = [quo y.user] := by rcases h1 with h1 | h1 | h1 <;> simp [Opv.words, ← hk, h1]
      rw [w1, w2] at e2
      simp only [List.flatMap_cons, List.flatMap_nil, fw, List.cons_append, List.cons.injEq, true_and] at e2
      exact (quo_read e2).1
    · intro h1
      have w1 : x.words = x.users.map quo := by simp [Opv.words, h1]
      have w2 : y.words = y.users.map quo := by simp [Opv.words, ← hk, h1]
      rw [w1, w2] at e2
      exact users_read _ _ e2
  · rintro ⟨hk, h1, h2, h3, h4, h5⟩
    have hw : x.words = y.words := by
      rcases (by omega : x.kind = 1 ∨ x.kind = 2 ∨ x.kind = 3 ∨ x.kind = 4 ∨ x.kind = 5 ∨ x.kind = 6 ∨ x.kind = 7 ∨ x.kind = 8 ∨ x.kind = 9) with h | h | h | h | h | h | h | h | h
      · obtain ⟨a, b, c, d, e⟩ := h1 h; simp [Opv.words, ← hk, h, a, b, c, d, e]
      · obtain ⟨a, b, c⟩ := h2 h; simp [Opv.words, ← hk, h, a, b, c]
      · obtain ⟨a, b⟩ := h3 h; simp [Opv.words, ← hk, h, a, b]
      · have a := h4 (.inl h); simp [Opv.words, ← hk, h, a]
      · have a := h5 h; simp [Opv.words, ← hk, h, a]
      · have a := h4 (.inr (.inl h)); simp [Opv.words, ← hk, h, a]
      · have a := h4 (.inr (.inr h)); simp [Opv.words, ← hk, h, a]
      · simp [Opv.words, ← hk, h]
      · simp [Opv.words, ← hk, h]
    rw [ex, ey, hw, hk]

/-! ### Replies -/
theorem ints_pr (p : Pr) : ints p.txt = ints (itB p.st) ++ 47 :: (ints (itB p.pr) ++ 47 :: ints (itB p.live)) := by
  simp only [Pr.txt, ints_app]
  simp [ints]
theorem pr_read {p q : Pr} {t t' : List Int} (h1 : t = [] ∨ ∃ c r, t = c :: r ∧ notNum c) (h2 : t' = [] ∨ ∃ c r, t' = c :: r ∧ notNum c) (h : ints p.txt ++ t = ints q.txt ++ t') : p = q ∧ t = t' := by
  rw [ints_pr, ints_pr] at h
  simp only [List.append_assoc, List.cons_append] at h
  obtain ⟨a1, h⟩ := it_read (cn nn47) (cn nn47) h
  simp only [List.cons.injEq, true_and] at h
  obtain ⟨a2, h⟩ := it_read (cn nn47) (cn nn47) h
  simp only [List.cons.injEq, true_and] at h
  obtain ⟨a3, h⟩ := it_read h1 h2 h
  exact ⟨by cases p; cases q; simp_all, h⟩
theorem ints_ev (e : Ev) : ints e.txt = ints (quo e.user) ++ 58 :: (ints e.old.txt ++ 62 :: (ints e.new.txt ++ 64 :: ints (dgt e.seq))) := by
  simp only [Ev.txt, ints_app]
  simp [ints]
theorem ev_read {p q : Ev} {t t' : List Int} (h1 : t = [] ∨ ∃ c r, t = c :: r ∧ notNum c) (h2 : t' = [] ∨ ∃ c r, t' = c :: r ∧ notNum c) (h : ints p.txt ++ t = ints q.txt ++ t') : p = q ∧ t = t' := by
  rw [ints_ev, ints_ev] at h
  simp only [List.append_assoc, List.cons_append] at h
  obtain ⟨a1, h⟩ := quo_read h
  simp only [List.cons.injEq, true_and] at h
  obtain ⟨a2, h⟩ := pr_read (cn nn62) (cn nn62) h
  simp only [List.cons.injEq, true_and] at h
  obtain ⟨a3, h⟩ := pr_read (cn nn64) (cn nn64) h
  simp only [List.cons.injEq, true_and] at h
  obtain ⟨a4, h⟩ := dgt_read h1 h2 h
  exact ⟨by cases p; cases q; simp_all, h⟩
theorem itB_head (n : Int) : ∃ c r, ints (itB n) = c :: r ∧ numB c := by
  cases h : ints (itB n) with
  | nil =>
    unfold itB at h
    split at h
    · rw [ints_app] at h; simp [ints] at h
    · exact absurd h (ints_dgt _).2.2
  | cons c r => exact ⟨c, r, rfl, itB_num n c (by rw [h]; simp)⟩
theorem pr_head (p : Pr) : ∃ c r, ints p.txt = c :: r ∧ numB c := by
  obtain ⟨c, r, h, hc⟩ := itB_head p.st
  exact ⟨c, _, by rw [ints_pr, h]; rfl, hc⟩
theorem ev_head (e : Ev) : ∃ r, ints e.txt = 34 :: r := ⟨_, by rw [ints_ev, ints_quo]; rfl⟩
/-- What may stand behind the presences: nothing, or a word that is no number. -/
def endV (t : List Int) : Prop := t = [] ∨ ∃ c r, t = 32 :: c :: r ∧ notNum c
def endE (t : List Int) : Prop := t = [] ∨ ∃ c r, t = 32 :: c :: r ∧ c ≠ 34
theorem endV.sep {t : List Int} (h : endV t) : t = [] ∨ ∃ c r, t = c :: r ∧ notNum c := h.imp id (fun ⟨c, r, e, _⟩ => ⟨32, c :: r, e, nn32⟩)
theorem endE.sep {t : List Int} (h : endE t) : t = [] ∨ ∃ c r, t = c :: r ∧ notNum c := h.imp id (fun ⟨c, r, e, _⟩ => ⟨32, c :: r, e, nn32⟩)
theorem app_sep {l : List ByteArray} {t : List Int} (h : t = [] ∨ ∃ c r, t = c :: r ∧ notNum c) : (l.flatMap fw ++ t) = [] ∨ ∃ c r, (l.flatMap fw ++ t) = c :: r ∧ notNum c := by
  rcases fw_head l with h1 | ⟨r, h1⟩
  · rw [h1]; exact h
  · rw [h1]; exact .inr ⟨32, _, rfl, nn32⟩
theorem vals_read : ∀ (l l' : List Pr) {t t' : List Int}, endV t → endV t' → (l.map Pr.txt).flatMap fw ++ t = (l'.map Pr.txt).flatMap fw ++ t' → l = l' ∧ t = t'
  | [], [], t, t', _, _, h => ⟨rfl, by simpa using h⟩
  | [], p :: l', t, t', h1, _, h => by
    obtain ⟨c, r, hc, hn⟩ := pr_head p
    simp only [List.map_nil, List.flatMap_nil, List.nil_append, List.map_cons, List.flatMap_cons, fw, hc, List.cons_append] at h
    rcases h1 with rfl | ⟨c', r', rfl, hn'⟩
    · cases h
    · simp only [List.cons.injEq, true_and] at h
      exact absurd (h.1 ▸ hn) hn'
  | p :: l, [], t, t', _, h1, h => by
    obtain ⟨c, r, hc, hn⟩ := pr_head p
    simp only [List.map_nil, List.flatMap_nil, List.nil_append, List.map_cons, List.flatMap_cons, fw, hc, List.cons_append] at h
    rcases h1 with rfl | ⟨c', r', rfl, hn'⟩
    · cases h
    · simp only [List.cons.injEq, true_and] at h
      exact absurd (h.1 ▸ hn) hn'
  | p :: l, q :: l', t, t', h1, h2, h => by
    simp only [List.map_cons, List.flatMap_cons, fw, List.cons_append, List.cons.injEq, true_and, List.append_assoc] at h
    obtain ⟨rfl, h'⟩ := pr_read (app_sep h1.sep) (app_sep h2.sep) h
    obtain ⟨e1, e2⟩ := vals_read l l' h1 h2 h'
    exact ⟨by rw [e1], e2⟩
theorem evts_read : ∀ (l l' : List Ev) {t t' : List Int}, endE t → endE t' → (l.map Ev.txt).flatMap fw ++ t = (l'.map Ev.txt).flatMap fw ++ t' → l = l' ∧ t = t'
  | [], [], t, t', _, _, h => ⟨rfl, by simpa using h⟩
  | [], p :: l', t, t', h1, _, h => by
    obtain ⟨r, hc⟩ := ev_head p
    simp only [List.map_nil, List.flatMap_nil, List.nil_append, List.map_cons, List.flatMap_cons, fw, hc, List.cons_append] at h
    rcases h1 with rfl | ⟨c', r', rfl, hn'⟩
    · cases h
    · simp only [List.cons.injEq, true_and] at h
      exact absurd h.1 hn'
  | p :: l, [], t, t', _, h1, h => by
    obtain ⟨r, hc⟩ := ev_head p
    simp only [List.map_nil, List.flatMap_nil, List.nil_append, List.map_cons, List.flatMap_cons, fw, hc, List.cons_append] at h
    rcases h1 with rfl | ⟨c', r', rfl, hn'⟩
    · cases h
    · simp only [List.cons.injEq, true_and] at h
      exact absurd h.1.symm hn'
  | p :: l, q :: l', t, t', h1, h2, h => by
    simp only [List.map_cons, List.flatMap_cons, fw, List.cons_append, List.cons.injEq, true_and, List.append_assoc] at h
    obtain ⟨rfl, h'⟩ := ev_read (app_sep h1.sep) (app_sep h2.sep) h
    obtain ⟨e1, e2⟩ := evts_read l l' h1 h2 h'
    exact ⟨by rw [e1], e2⟩
def lostL (b : Bool) : List Int := if b then [32, 108, 111, 115, 116] else []
theorem ints_rep (r : Rep) : ints r.txt = ints (itB r.err) ++ ((r.vals.map Pr.txt).flatMap fw ++ ((r.evts.map Ev.txt).flatMap fw ++ lostL r.lost)) := by
  rw [Rep.txt, ints_join, Rep.words, List.flatMap_append, List.flatMap_append, List.append_assoc]
  cases r.lost <;> rfl
theorem nn34 : notNum 34 := by unfold notNum numB; omega
theorem nn108 : notNum 108 := by unfold notNum numB; omega
theorem lost_endE (b : Bool) : endE (lostL b) := by
  cases b
  · exact .inl rfl
  · exact .inr ⟨108, _, rfl, by decide⟩
theorem lost_endV (l : List Ev) (b : Bool) : endV ((l.map Ev.txt).flatMap fw ++ lostL b) := by
  cases l with
  | nil =>
    cases b
    · exact .inl rfl
    · exact .inr ⟨108, _, rfl, nn108⟩
  | cons e l =>
    obtain ⟨r, hc⟩ := ev_head e
    exact .inr ⟨34, _, by simp only [List.map_cons, List.flatMap_cons, fw, hc, List.cons_append]; rfl, nn34⟩
theorem rep_iff (a b : Rep) : a.txt = b.txt ↔ a.err = b.err ∧ a.vals = b.vals ∧ a.evts = b.evts ∧ a.lost = b.lost := by
  constructor
  · intro h
    have hi := congrArg ints h
    rw [ints_rep, ints_rep] at hi
    obtain ⟨e1, hi⟩ := it_read (app_sep (lost_endV _ _).sep) (app_sep (lost_endV _ _).sep) hi
    obtain ⟨e2, hi⟩ := vals_read _ _ (lost_endV _ _) (lost_endV _ _) hi
    obtain ⟨e3, hi⟩ := evts_read _ _ (lost_endE _) (lost_endE _) hi
    refine ⟨e1, e2, e3, ?_⟩
    cases ha : a.lost <;> cases hb : b.lost <;> rw [ha, hb] at hi <;> first | rfl | cases hi
  · rintro ⟨h1, h2, h3, h4⟩
    simp only [Rep.txt, Rep.words, h1, h2, h3, h4]
end Go.Proofs.YtinkcffklomneaaDoor
