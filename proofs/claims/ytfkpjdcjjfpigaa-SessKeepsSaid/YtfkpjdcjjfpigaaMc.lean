/- Sessions, as the program holds them. -/
import Derived.Test.YtfkpjdcjjfpigaaMb
namespace Go.Proofs.Ytfkpjdcjjfpigaa
open Go Go.Proofs.Ytfkpjdcjjfpigaa.Sym
set_option maxRecDepth 100000
set_option linter.unusedSimpArgs false
set_option linter.unusedVariables false

/-- A session, as the program holds it. -/
structure Ses where
  id : Int
  st : Int
  pr : Int
  un : Int
  deriving DecidableEq
def Ses.av (s : Ses) : AV := .agg [i64 s.id, i64 s.st, i64 s.pr, u64 s.un]
abbrev sess (id st pr un : Int) : AV := .agg [i64 id, i64 st, i64 pr, u64 un]
def avs (l : List Ses) : List AV := l.map Ses.av
def Ses.lives (now : Int) (s : Ses) : Bool := !decide (s.un ≤ now)
def lives (now : Int) (l : List Ses) : List Ses := l.filter (Ses.lives now)
def Ses.ok (s : Ses) : Prop := (Lit.int .i64 s.id).wf = true ∧ (Lit.int .i64 s.st).wf = true ∧ (Lit.int .i64 s.pr).wf = true ∧ (Lit.int .u64 s.un).wf = true

theorem fits_ses {x : AV} (h : fitsAll [.int .i64, .int .i64, .int .i64, .int .u64] x.cells) (hx : x = .agg x.cells) : ∃ s : Ses, x = s.av ∧ s.ok := by
  obtain ⟨_, _, e1, ⟨a, rfl, ha⟩, _, _, rfl, ⟨b, rfl, hb⟩, _, _, rfl, ⟨c, rfl, hc⟩, _, _, rfl, ⟨d, rfl, hd⟩, rfl⟩ := h
  exact ⟨⟨a, b, c, d⟩, by rw [hx, e1]; rfl, ha, hb, hc, hd⟩

theorem fits_list {ys : List AV} (h : ∀ y ∈ ys, ∃ zs, fitsAll [.int .i64, .int .i64, .int .i64, .int .u64] zs ∧ y = pack true zs) : ∃ l : List Ses, ys = avs l ∧ ∀ s ∈ l, s.ok := by
  induction ys with
  | nil => exact ⟨[], rfl, fun s hs => by cases hs⟩
  | cons y ys ih =>
    obtain ⟨l, rfl, hl⟩ := ih (fun z hz => h z (List.mem_cons_of_mem _ hz))
    obtain ⟨zs, hz, rfl⟩ := h y List.mem_cons_self
    obtain ⟨s, hs, hs'⟩ := fits_ses (x := .agg zs) hz rfl
    refine ⟨s :: l, by rw [pack, if_pos rfl, hs]; rfl, fun t ht => ?_⟩
    rcases List.mem_cons.1 ht with rfl | ht
    · exact hs'
    · exact hl t ht

theorem tick_Late (a b : Int) : PCall P 65 [u64 a, u64 b] (fun x => x = bool (decide (b ≤ a))) := by
  refine pcall_go tyOk Try.func65 rfl rfl ?_
  intro K hK
  simp only [Try.ntmps65, List.length_cons, List.length_nil, Nat.reduceAdd, Nat.reduceSub, List.replicate, List.cons_append, List.nil_append]
  try simp (maxSteps := 1000000) only [go_region, go_seq, go_ret, go_ops_nil, go_op, opK_none, contK_some, callOf, fstep, gpre, fpre, fstep0, fbinA, fbin, fbin0, St.ev, St.put, List.getD_cons_zero, List.getD_cons_succ, List.set, true_and, Bool.true_and]
  apply hK
  simp only [Try.results65, retK, ares, List.take_nil, Bool.and_true, Bool.true_and, AV.ofResults, St.trunc, truncVs, truncV, List.getD_cons_zero, List.getD_cons_succ, List.map_nil, true_and, and_true, List.cons.injEq, exists_eq_left']

theorem avs_len (l : List Ses) : (avs l).length = l.length := by simp [avs]
theorem avs_get {l : List Ses} {i : Nat} (h : i < l.length) : (avs l).getD (Int.toNat (i : Int)) .any = (l[i]).av := by
  simp [avs, List.getD_eq_getElem?_getD, List.getElem?_map, List.getElem?_eq_getElem h]
theorem at_idx {l : List Ses} {i : Nat} (hb : l.length < 9223372036854775807) (h : decide ((i : Int) < (l.length : Int)) = true) :
    ∃ hlt : i < l.length, (avs l).getD (Int.toNat (i : Int)) .any = .agg [i64 (l[i]).id, i64 (l[i]).st, i64 (l[i]).pr, u64 (l[i]).un] ∧ IntKind.i64.wrap ((i : Int) + 1) = ((i + 1 : Nat) : Int) ∧ ((0 : Int) ≤ (i : Int) ∧ Int.toNat (i : Int) < l.length) := by
  have hlt : i < l.length := by simpa using h
  exact ⟨hlt, avs_get hlt, by rw [wrap_i64 (by omega) (by omega)]; rfl, by omega⟩
theorem at_end {n i : Nat} (hi : i ≤ n) (h : decide ((i : Int) < (n : Int)) = false) : i = n := by
  have : ¬ ((i : Int) < (n : Int)) := by simpa using h
  omega

theorem ses_beq (s t : Ses) : (s.id == t.id && (s.st == t.st && (s.pr == t.pr && s.un == t.un))) = decide (s = t) := by
  cases s; cases t
  rw [Bool.eq_iff_iff]
  simp
theorem take_take_succ {a b : List Ses} {i : Nat} (h1 : i < a.length) (h2 : i < b.length) : (a.take (i + 1) = b.take (i + 1)) ↔ (a.take i = b.take i ∧ a[i] = b[i]) := by
  rw [take_one h1, take_one h2]
  constructor
  · intro h
    have := List.append_inj h (by simp; omega)
    exact ⟨this.1, by simpa using this.2⟩
  · rintro ⟨h3, h4⟩; rw [h3, h4]

theorem lives_take_skip {now : Int} {l : List Ses} {i : Nat} (h : i < l.length) (hl : (l[i]).lives now = false) : lives now (l.take (i + 1)) = lives now (l.take i) := by
  rw [take_one h, lives, List.filter_append, lives]; simp [hl]
theorem lives_take_in {now : Int} {l : List Ses} {i : Nat} (h : i < l.length) (hl : (l[i]).lives now = true) : lives now (l.take (i + 1)) = lives now (l.take i) ++ [l[i]] := by
  rw [take_one h, lives, List.filter_append, lives]; simp [hl]

theorem snoc_ind {α : Type} {p : List α → Prop} (h0 : p []) (h1 : ∀ l a, p l → p (l ++ [a])) : ∀ l, p l := by
  intro l
  rw [← List.reverse_reverse l]
  induction l.reverse with
  | nil => exact h0
  | cons a l ih => rw [List.reverse_cons]; exact h1 _ _ ih

/-- slices.Clone[[]doorman/api.Session,doorman/api.Session]: a new row. -/
theorem clone_ses (xs : List AV) (hlen : xs.length ≤ 1000000) :
    ACall P 53 [] [.sl 4 xs] (fun x m' => x = .own 0 4 0 xs.length ∧ m' = [.row 41 4 xs]) := by
  have hm : xs.length ≤ maxLen := by simp only [maxLen]; omega
  have hby : xs.length * 32 ≤ 140737488355328 := by omega
  by_cases h0 : xs = []
  · subst h0
    refine ACall.empty fun a cap => ?_
    cases a with
    | none =>
      refine ACall.weaken (K := fun x m' => x = .v (.slice none 0 0) ∧ m' = []) (ACallN.toA (acallM_go tyOk Try.func53 rfl rfl (N := 0) (M := 1) (Nat.zero_le _) (by simp) ?_)) ?_
      · intro K hK
        simp only [Try.ntmps53, List.length_cons, List.length_nil, Nat.reduceAdd, Nat.reduceSub, List.replicate, List.cons_append, List.nil_append]
        try simp (maxSteps := 1000000) only [go_region, go_seq, go_cond, go_ret, go_ops_nil, go_op, opK_none, contK_some, condK_t, callOf, fstep, gpre, fpre, fstep0, fbinA, gbin, gnil, isSliceTy, Option.isNone_none, fbin, fbin0, T, St.ev, St.put, List.getD_cons_zero, List.getD_cons_succ, List.set, true_and, Bool.true_and]
        apply hK
        simp only [Try.results53, retK, ares, List.take_nil, Bool.and_true, AV.ofResults, St.trunc, truncVs, truncV, List.getD_cons_zero, List.getD_cons_succ, List.map_nil, and_true, List.cons.injEq, exists_eq_left']
      · rintro x m' ⟨rfl, rfl⟩
        exact ⟨_, _, Turns.adopt (i := 0) 41 4 rfl, rfl, rfl⟩
    | some a =>
      refine ACallN.toA (acallM_go tyOk Try.func53 rfl rfl (N := 0) (M := 1) (Nat.zero_le _) (by simp) ?_)
      intro K hK
      simp only [Try.ntmps53, List.length_cons, List.length_nil, Nat.reduceAdd, Nat.reduceSub, List.replicate, List.cons_append, List.nil_append]
      try simp (maxSteps := 1000000) only [go_skip, go_region, go_seq, go_cond, go_ret, go_ops_nil, go_op, opK_none, contK_some, condK_f, callOf, fstep, gpre, gbuildB, gparts, hasBks, fpre, fpost, fstep0, fbinA, gbin, gnil, isSliceTy, gappend, gapp, gelems, Option.isNone_some, fbin, fbin0, evParts, evOwners, fbuildSlice, felems, fappend, T, TI.isAgg, TI.zeroOk, setParts, partsOk, St.ev, St.put, St.shutAll, St.rehome, killV, killVs, AB.kill, Value.oneCell', List.getD_cons_zero, List.getD_cons_succ, List.set, List.map_cons, List.map_nil, List.length_cons, List.length_nil, List.all_cons, List.all_nil, List.nil_append, List.append_nil, List.getElem?_cons_zero, List.replicate, true_and, and_true, Bool.and_true, Bool.true_and, Bool.and_self, Bool.or_false, Bool.false_eq_true, ↓reduceIte, decide_true, decide_false, Nat.reduceAdd, Nat.reduceMul, Nat.reduceEqDiff, Nat.reduceLT, Nat.zero_le, Nat.le_refl, Nat.add_zero, Nat.zero_add]
      apply hK
      simp only [Try.results53, retK, ares, List.take_nil, Bool.and_true, AV.ofResults, St.trunc, truncVs, truncV, AB.trunc, List.getD_cons_zero, List.getD_cons_succ, List.take_succ_cons, List.map_nil, List.map_cons, List.length_nil, Nat.reduceLeDiff, and_true, ↓reduceIte, List.cons.injEq, exists_eq_left']
  · have hpos : 0 < xs.length := List.length_pos_iff.2 h0
    refine ACallN.toA (acallM_go tyOk Try.func53 rfl rfl (N := 0) (M := 1) (Nat.zero_le _) (by simp) ?_)
    intro K hK
    simp only [Try.ntmps53, List.length_cons, List.length_nil, Nat.reduceAdd, Nat.reduceSub, List.replicate, List.cons_append, List.nil_append]
    try simp (maxSteps := 1000000) only [go_skip, go_region, go_seq, go_cond, go_ret, go_ops_nil, go_op, opK_none, contK_some, condK_f, callOf, fstep, gpre, gbuildB, gparts, hasBks, fpre, fstep0, fbinA, gbin, gnil, isSliceTy, fbin, fbin0, evParts, evOwners, fbuildSlice, felems, fappend, T, TI.isAgg, TI.zeroOk, setParts, partsOk, St.ev, St.put, St.shutAll, St.rehome, killV, killVs, AB.kill, Value.oneCell', List.getD_cons_zero, List.getD_cons_succ, List.set, List.map_cons, List.map_nil, List.length_cons, List.length_nil, List.all_cons, List.all_nil, List.nil_append, List.getElem?_cons_zero, List.replicate, true_and, and_true, Bool.and_true, Bool.true_and, Bool.and_self, Bool.or_false, Bool.false_eq_true, ↓reduceIte, decide_true, decide_false, Nat.reduceAdd, Nat.reduceMul, Nat.reduceEqDiff, Nat.reduceLT, Nat.zero_le, Nat.le_refl, Nat.zero_add, hpos]
    refine ⟨⟨hm, hby⟩, ?_⟩
    skip
    apply hK
    simp only [Try.results53, retK, ares, List.take_nil, Bool.and_true, AV.ofResults, St.trunc, truncVs, truncV, AB.trunc, List.getD_cons_zero, List.getD_cons_succ, List.take_succ_cons, List.map_nil, List.map_cons, Nat.reduceLeDiff, and_true, ↓reduceIte, List.cons.injEq, exists_eq_left']

/-- slices.Delete[[]doorman/api.Session,doorman/api.Session]: one element is taken out. -/
theorem delete_ses (xs : List AV) (i : Nat) (hi : i < xs.length) (hlen : xs.length ≤ 1000000) :
    ACall P 66 [.row 41 4 xs] [.own 0 4 0 xs.length, i64 (i : Int), i64 ((i + 1 : Nat) : Int)] (fun x m' => x = .own 0 4 0 (xs.length - 1) ∧ m' = [.row 41 4 (xs.take i ++ xs.drop (i + 1) ++ [(AV.agg [i64 0, i64 0, i64 0, u64 0])])]) := by
  refine ACall.weaken (K := fun x m' => x = .own 0 4 0 (xs.length - 1) ∧ ∃ N, m' = [.rowc 41 4 (xs.take i ++ xs.drop (i + 1) ++ [(AV.agg [i64 0, i64 0, i64 0, u64 0])]) N]) (ACallN.toA (m := [_]) (ACallN.room (by decide) fun N hN _ => ?_)) ?_
  · refine acallN_go tyOk Try.func66 rfl rfl (by simp) ?_
    intro K hK
    simp only [Try.ntmps66, List.length_cons, List.length_nil, Nat.reduceAdd, Nat.reduceSub, List.replicate, List.cons_append, List.nil_append]
    have f1 : ((i : Int) == ((i + 1 : Nat) : Int)) = false := by simp; omega
    try simp (maxSteps := 1000000) only [go_skip, go_region, go_seq, go_cond, go_draws, go_ops_nil, go_op, opK_none, contK_some, condK_f, callOf, fstep, gpre, fpre, fstep0, fsliceA, gsliceL, gsliceR, gbound, fbinA, fbin, fbin0, flen, fslice, optEv, T, St.ev, St.put, List.getD_cons_zero, List.getD_cons_succ, List.set, Option.isSome_some, true_and, and_true, Bool.and_true, Bool.true_and, Nat.le_refl, Int.toNat_natCast, f1]
    refine ⟨by omega, ?_⟩
    by_cases he : i + 1 = xs.length
    · have e1 : (xs.take i ++ xs.drop i).length = xs.length := by rw [List.take_append_drop]
      have e2 : ((xs.take i ++ xs.drop i).take i ++ List.replicate (xs.length - i) ((AV.agg [i64 0, i64 0, i64 0, u64 0]))) ++ (xs.take i ++ xs.drop i).drop (i + (xs.length - i)) = xs.take i ++ xs.drop (i + 1) ++ [(AV.agg [i64 0, i64 0, i64 0, u64 0])] := by
        rw [List.take_append_drop, List.drop_of_length_le (by omega), List.drop_of_length_le (by omega), show xs.length - i = 1 by omega, List.append_nil, List.append_nil]
        rfl
      have hni : ¬ i = xs.length := by omega
      refine draw_rule tyOk (by rfl) (by simp only [List.length_cons, List.length_nil, Nat.reduceAdd, Nat.le_refl]) (by kernel_rfl) rfl ?_
      try simp (maxSteps := 1000000) only [go_region, go_seq, go_op, opK_none, contK_some, callOf, fstep, gpre, fpre, fpost, fstep0, fsliceA, gsliceL, gsliceR, gpart, gbound, gelems, gclear, putSeg, dappendC, flen, felems, fslice, optEv, T, TI.isAgg, TI.zeroOk, TI.zav, St.ev, St.put, Value.oneCell', List.getD_cons_zero, List.getD_cons_succ, List.set, List.map_cons, List.map_nil, List.length_cons, List.length_nil, List.all_cons, List.all_nil, List.append_nil, List.getElem?_cons_zero, List.replicate, true_and, and_true, Bool.and_true, Bool.true_and, Bool.and_self, Bool.or_false, Bool.false_eq_true, ↓reduceIte, decide_true, decide_false, Nat.reduceAdd, Nat.reduceEqDiff, Nat.reduceLT, Nat.le_refl, Nat.add_zero, Nat.zero_add, newCount, drawR_nil, drawR_op, drawP_none, drawQ_some, dstep, isFree, dappend, St.app, bump, isNew, List.length_replicate, Int.toNat_natCast, he]
      refine ⟨by omega, by omega, by omega, ?_⟩
      refine ⟨by kernel_rfl, ?_⟩
      try simp (maxSteps := 1000000) only [go_region, go_seq, go_ret, go_ops_nil, go_op, opK_none, contK_some, callOf, fstep, gpre, fpre, fstep0, St.ev, St.put, List.getD_cons_zero, List.getD_cons_succ, List.set, List.getElem?_cons_zero, true_and, Bool.true_and, ↓reduceIte, hni, e1]
      refine ⟨by omega, by omega, ?_⟩
      apply hK
      simp only [Try.results66, retK, ares, List.take_nil, Bool.and_true, AV.ofResults, St.trunc, truncVs, truncV, AB.trunc, List.getD_cons_zero, List.getD_cons_succ, List.take_succ_cons, List.map_nil, List.map_cons, List.length_cons, List.length_nil, Nat.reduceAdd, Nat.reduceLeDiff, and_true, ↓reduceIte, List.cons.injEq, exists_eq_left']
      simp only [e2]
      exact ⟨by congr 1; omega, N, rfl⟩
    · have hd : (xs.drop (i + 1)).length = xs.length - (i + 1) := by simp
      have ht : (xs.drop (i + 1)).take (xs.length - (i + 1)) = xs.drop (i + 1) := List.take_of_length_le (by simp)
      have hni : ¬ i + (xs.length - (i + 1)) = xs.length := by omega
      have e1 : (xs.take i ++ xs.drop (i + 1) ++ xs.drop (i + (xs.length - (i + 1)))).length = xs.length := by simp; omega
      have e2 : (xs.take i ++ xs.drop (i + 1) ++ xs.drop (i + (xs.length - (i + 1)))).take (i + (xs.length - (i + 1))) ++ List.replicate (xs.length - (i + (xs.length - (i + 1)))) ((AV.agg [i64 0, i64 0, i64 0, u64 0])) ++
          (xs.take i ++ xs.drop (i + 1) ++ xs.drop (i + (xs.length - (i + 1)))).drop (i + (xs.length - (i + 1)) + (xs.length - (i + (xs.length - (i + 1))))) = xs.take i ++ xs.drop (i + 1) ++ [(AV.agg [i64 0, i64 0, i64 0, u64 0])] := by
        rw [show xs.length - (i + (xs.length - (i + 1))) = 1 by omega, List.drop_of_length_le (l := xs.take i ++ xs.drop (i + 1) ++ xs.drop (i + (xs.length - (i + 1)))) (by rw [e1]; omega), List.append_nil,
          List.take_append_of_le_length (by simp; omega), List.take_of_length_le (by simp; omega)]
        rfl
      refine draw_rule tyOk (by rfl) (by simp only [List.length_cons, List.length_nil, Nat.reduceAdd, Nat.le_refl]) (by kernel_rfl) rfl ?_
      try simp (maxSteps := 1000000) only [go_region, go_seq, go_op, opK_none, contK_some, callOf, fstep, gpre, fpre, fpost, fstep0, fsliceA, gsliceL, gsliceR, gpart, gbound, gelems, gclear, putSeg, dappendC, flen, felems, fslice, optEv, T, TI.isAgg, TI.zeroOk, TI.zav, St.ev, St.put, Value.oneCell', List.getD_cons_zero, List.getD_cons_succ, List.set, List.map_cons, List.map_nil, List.length_cons, List.length_nil, List.all_cons, List.all_nil, List.append_nil, List.getElem?_cons_zero, List.replicate, true_and, and_true, Bool.and_true, Bool.true_and, Bool.and_self, Bool.or_false, Bool.false_eq_true, ↓reduceIte, decide_true, decide_false, Nat.reduceAdd, Nat.reduceEqDiff, Nat.reduceLT, Nat.le_refl, Nat.add_zero, Nat.zero_add, newCount, drawR_nil, drawR_op, drawP_none, drawQ_some, dstep, isFree, dappend, St.app, bump, isNew, List.length_replicate, Int.toNat_natCast, he, ht, hd]
      refine ⟨by omega, by omega, by omega, ?_⟩
      refine ⟨by kernel_rfl, ?_⟩
      try simp (maxSteps := 1000000) only [go_region, go_seq, go_ret, go_ops_nil, go_op, opK_none, contK_some, callOf, fstep, gpre, fpre, fstep0, St.ev, St.put, List.getD_cons_zero, List.getD_cons_succ, List.set, List.getElem?_cons_zero, true_and, Bool.true_and, ↓reduceIte, hni, e1]
      refine ⟨by omega, by omega, ?_⟩
      apply hK
      simp only [Try.results66, retK, ares, List.take_nil, Bool.and_true, AV.ofResults, St.trunc, truncVs, truncV, AB.trunc, List.getD_cons_zero, List.getD_cons_succ, List.take_succ_cons, List.map_nil, List.map_cons, List.length_cons, List.length_nil, Nat.reduceAdd, Nat.reduceLeDiff, and_true, ↓reduceIte, List.cons.injEq, exists_eq_left']
      simp only [e2]
      exact ⟨by congr 1; omega, N, rfl⟩
  · rintro x m' ⟨rfl, N, rfl⟩
    exact ⟨_, _, Turns.unroom, rfl, rfl⟩

/-- slices.Insert[[]doorman/api.Session,doorman/api.Session]: one element more. -/
theorem insert_ses (xs : List AV) (v : AV) (i : Nat) (hi : i ≤ xs.length) (hlen : xs.length ≤ 1000000) :
    ACallX P (fun _ => false) 55 [.row 41 4 xs] [.own 0 4 0 xs.length, i64 (i : Int), .sl 4 [v]] (fun x m' => x = .own 0 4 0 (xs.length + 1) ∧ m' = [.row 41 4 (xs.take i ++ [v] ++ xs.drop i)]) := by
  refine ACallN.relocate (ACallN.room (by decide) fun N hN _ => acallM_go tyOk Try.func55 rfl rfl (N := 0) (M := 2) (Nat.zero_le _) (by simp) ?_)
  intro K hK
  simp only [Try.ntmps55, List.length_cons, List.length_nil, Nat.reduceAdd, Nat.reduceSub, List.replicate, List.cons_append, List.nil_append]
  have w1 : IntKind.i64.wrap ((xs.length : Int) + ((1 : Nat) : Int)) = ((xs.length + 1 : Nat) : Int) := by rw [wrap_i64 (by omega) (by omega)]; rfl
  have w2 : IntKind.i64.wrap ((i : Int) + ((1 : Nat) : Int)) = ((i + 1 : Nat) : Int) := by rw [wrap_i64 (by omega) (by omega)]; rfl
  have w3 : IntKind.i64.wrap (((xs.length + 1 : Nat) : Int) - (i : Int)) = ((xs.length + 1 - i : Nat) : Int) := by rw [wrap_i64 (by omega) (by omega)]; omega
  have c1 : (((1 : Nat) : Int) == 0) = false := by decide
  by_cases hin : i = xs.length
  · subst hin
    try simp (maxSteps := 1000000) only [go_skip, go_region, go_seq, go_cond, go_ops_nil, go_op, opK_none, contK_some, condK_t, condK_f, callOf, fstep, gpre, fpre, fpost, fstep0, gsliceR, gpart, gbound, fbinA, gappend, gapp, gelems, putSeg, fbin, fbin0, flen, felems, fappend, optEv, T, TI.isAgg, TI.zeroOk, St.ev, St.put, Value.oneCell', List.getD_cons_zero, List.getD_cons_succ, List.set, List.length_cons, List.length_nil, List.all_cons, List.all_nil, List.cons_append, List.nil_append, List.getElem?_cons_zero, true_and, and_true, Bool.and_true, Bool.true_and, Bool.and_self, Bool.or_false, ↓reduceIte, decide_true, decide_false, Nat.reduceAdd, Nat.reduceEqDiff, Nat.reduceLT, Nat.le_refl, Nat.zero_add, beq_self_eq_true, Int.toNat_natCast, c1]
    refine ⟨by omega, ?_⟩
    by_cases hr : xs.length + 1 ≤ N
    · try simp (maxSteps := 1000000) only [go_ret, go_ops_nil, go_op, opK_none, contK_some, callOf, fstep, gpre, fpre, fstep0, St.ev, St.put, List.getD_cons_zero, List.getD_cons_succ, List.set, true_and, Bool.true_and, ↓reduceIte, hr]
      apply hK
      simp only [Try.results55, retK, ares, List.take_nil, Bool.and_true, Bool.true_and, AV.ofResults, St.trunc, truncVs, truncV, AB.trunc, List.getD_cons_zero, List.getD_cons_succ, List.take_succ_cons, List.map_nil, List.map_cons, Nat.reduceLeDiff, true_and, and_true, ↓reduceIte, List.cons.injEq, exists_eq_left']
      exact .inl ⟨N, [], by simp⟩
    · try simp (maxSteps := 1000000) only [go_ret, go_ops_nil, go_op, opK_none, contK_some, callOf, fstep, gpre, fpre, fstep0, St.ev, St.put, List.getD_cons_zero, List.getD_cons_succ, List.set, true_and, Bool.true_and, ↓reduceIte, hr]
      refine ⟨⟨by simp only [maxLen]; omega, by omega⟩, ?_⟩
      skip
      apply hK
      simp only [Try.results55, retK, ares, List.take_nil, Bool.and_true, Bool.true_and, AV.ofResults, St.trunc, truncVs, truncV, AB.trunc, List.getD_cons_zero, List.getD_cons_succ, List.take_succ_cons, List.map_nil, List.map_cons, Nat.reduceLeDiff, true_and, and_true, ↓reduceIte, List.cons.injEq, exists_eq_left']
      exact .inr (by simp)
  · have hlt : i < xs.length := by omega
    have c2 : ((i : Int) == (xs.length : Int)) = false := by simp; omega
    by_cases hr : xs.length + 1 ≤ N
    · have d1 : decide ((N : Int) < ((xs.length + 1 : Nat) : Int)) = false := decide_eq_false (by omega)
      have n1 : ¬ i + 1 = xs.length + 1 := by omega
      have n2 : ¬ i = xs.length + 1 := by omega
      try simp (maxSteps := 1000000) only [go_skip, go_region, go_seq, go_cond, go_ops_nil, go_op, opK_none, opK_some, contK_some, condK_f, callOf, callK_eq, callJ_cons, fstep, gpre, fpre, fpost, fstep0, gsliceR, gpart, gbound, fbinA, gcap, fbin, fbin0, flen, evs, optEv, T, St.ev, St.put, AV.owners, ownersAll, List.getD_cons_zero, List.getD_cons_succ, List.set, List.length_cons, List.length_nil, List.nil_append, List.append_nil, List.getElem?_cons_zero, true_and, and_true, Bool.and_true, Bool.true_and, ↓reduceIte, Nat.reduceLeDiff, Nat.reduceLT, Nat.zero_add, Int.toNat_natCast, c1, c2, w1, w2, Nat.sub_zero, d1, hin, n1]
      refine ⟨by omega, by omega, by omega, ?_⟩
      refine callO_own ?_
      try simp (maxSteps := 1000000) only [callD_fn, evs, St.ev, List.getD_cons_zero, List.getD_cons_succ, List.append_nil]
      refine callG_ext (xcall_overlaps (tS := 38) (tR := 4) (e := 41) tyOk Try.func77 rfl rfl (by kernel_rfl) (by kernel_rfl) rfl rfl rfl (by decide) rfl rfl) ?_
      try simp (maxSteps := 1000000) only [go_seq, go_cond, go_draws, go_ops_nil, go_op, opK_none, contK_some, condK_t, callOf, fstep, gpre, fpre, fstep0, funary, St.ev, St.put, List.getD_cons_zero, List.getD_cons_succ, List.set, true_and, Bool.true_and, Bool.not_false]
      have ek : (xs.drop i).take (min (xs.length + 1 - (i + 1)) (xs.length + 1 - i)) = xs.drop i := List.take_of_length_le (by simp; omega)
      refine draw_rule tyOk (by rfl) (by simp only [List.length_cons, List.length_nil, Nat.reduceAdd, Nat.zero_le]) (by kernel_rfl) rfl ?_
      try simp (maxSteps := 1000000) only [go_region, go_seq, go_ret, go_ops_nil, go_op, opK_none, contK_some, callOf, fstep, gpre, fpre, fpost, fstep0, fsliceA, gsliceL, gsliceR, gpart, gbound, fbinA, gtake, gcopy, putSeg, dcopy, fbin, fbin0, fslice, optEv, T, St.ev, St.put, List.getD_cons_zero, List.getD_cons_succ, List.set, List.length_cons, List.length_nil, List.append_nil, List.getElem?_cons_zero, List.replicate, true_and, and_true, Bool.and_true, Bool.true_and, Bool.false_eq_true, ↓reduceIte, Nat.reduceAdd, Nat.reduceLeDiff, Nat.reduceLT, Nat.le_refl, Nat.add_zero, Nat.zero_add, newCount, drawR_nil, drawR_op, drawP_none, drawQ_some, dstep, isFree, St.app, bump, isNew, List.length_append, Int.toNat_natCast, w2, n1, n2, ek]
      refine ⟨by omega, by omega, by omega, ?_⟩
      refine ⟨by kernel_rfl, ?_⟩
      have es : List.take (xs.length + 1 - i) [v] = [v] := List.take_of_length_le (by simp; omega)
      have e3 : (xs.take (i + 1) ++ xs.drop i ++ xs.drop (i + 1 + (xs.drop i).length)).take i ++ [v] ++ (xs.take (i + 1) ++ xs.drop i ++ xs.drop (i + 1 + (xs.drop i).length)).drop (i + 1) = xs.take i ++ [v] ++ xs.drop i := by
        have hl : (xs.take (i + 1)).length = i + 1 := by simp; omega
        have hd : xs.drop (i + 1 + (xs.drop i).length) = [] := List.drop_of_length_le (by simp; omega)
        rw [hd, List.append_nil, List.take_append_of_le_length (by omega), List.take_take, Nat.min_eq_left (by omega),
          List.drop_append_of_le_length (by omega), List.drop_of_length_le (by omega), List.nil_append]
      try simp (maxSteps := 1000000) only [List.length_cons, List.length_nil, Nat.zero_add, es]
      refine ⟨by omega, ⟨by omega, by simp; omega⟩, ?_⟩
      apply hK
      simp only [Try.results55, retK, ares, List.take_nil, Bool.and_true, Bool.true_and, AV.ofResults, St.trunc, truncVs, truncV, AB.trunc, List.getD_cons_zero, List.getD_cons_succ, List.take_succ_cons, List.map_nil, List.map_cons, Nat.reduceLeDiff, true_and, and_true, ↓reduceIte, List.cons.injEq, exists_eq_left']
      exact .inl ⟨N, [], by rw [e3, List.append_nil]⟩
    · have d1 : decide ((N : Int) < ((xs.length + 1 : Nat) : Int)) = true := decide_eq_true (by omega)
      have g1 : ¬ i + (xs.length + 1 - i) ≤ N := by omega
      have g2 : ¬ i = i + (xs.length + 1 - i) := by omega
      have g3 : ¬ i + 1 = i + (xs.length + 1 - i) := by omega
      have g4 : List.take (i + (xs.length + 1 - i) - i) [v] = [v] := List.take_of_length_le (by simp; omega)
      have g5 : (xs.drop i).take (min (i + (xs.length + 1 - i) - (i + 1)) (xs.length - i)) = xs.drop i := List.take_of_length_le (by simp; omega)
      try simp (maxSteps := 1000000) only [go_skip, go_region, go_seq, go_cond, go_draws, go_ops_nil, go_op, opK_none, contK_some, condK_t, condK_f, callOf, fstep, gpre, fpre, fpost, fstep0, fsliceA, gsliceL, gsliceR, gpart, gbound, fbinA, gappend, gapp, gtake, gcopy, gcap, putSeg, fbin, fbin0, flen, felems, fappend, fslice, optEv, T, TI.isAgg, TI.zeroOk, TI.zav, St.ev, St.put, Value.oneCell', List.getD_cons_zero, List.getD_cons_succ, List.set, List.map_cons, List.map_nil, List.length_cons, List.length_nil, List.all_cons, List.all_nil, List.cons_append, List.nil_append, List.getElem?_cons_zero, List.getElem?_cons_succ, true_and, and_true, Bool.and_true, Bool.true_and, Bool.and_self, Bool.or_false, ↓reduceIte, decide_true, decide_false, Nat.reduceAdd, Nat.reduceEqDiff, Nat.reduceLT, Nat.le_refl, Nat.zero_add, List.length_append, List.length_replicate, Int.toNat_natCast, c1, c2, w1, w3, Nat.sub_zero, d1, hin, g1, g2, g4]
      refine ⟨by omega, by omega, ⟨by omega, by omega, by omega, by omega, by simp only [maxLen]; omega, by omega⟩, by omega, ⟨by omega, by simp; omega⟩, ?_⟩
      refine draw_rule tyOk (by rfl) (by simp only [List.length_cons, List.length_nil, Nat.reduceAdd, Nat.zero_le]) (by kernel_rfl) rfl ?_
      try simp (maxSteps := 1000000) only [go_region, go_seq, go_ret, go_ops_nil, go_op, opK_none, contK_some, callOf, fstep, gpre, fpre, fstep0, fsliceA, gsliceL, gpart, gbound, fbinA, gtake, putSeg, dcopy, fbin, fbin0, fslice, optEv, T, St.ev, St.put, List.getD_cons_zero, List.getD_cons_succ, List.set, List.length_cons, List.length_nil, List.append_nil, List.getElem?_cons_zero, List.getElem?_cons_succ, List.replicate, true_and, and_true, Bool.and_true, Bool.true_and, Bool.false_eq_true, ↓reduceIte, Nat.reduceAdd, Nat.le_refl, Nat.add_zero, Nat.zero_add, newCount, drawR_nil, drawR_op, drawP_none, drawQ_some, dstep, isFree, St.app, bump, isNew, List.length_append, Int.toNat_natCast, w2, g3, g5, hin]
      have hB : (xs.take i ++ List.replicate (xs.length + 1 - i) ((AV.agg [i64 0, i64 0, i64 0, u64 0]))).take i = xs.take i := by
        rw [List.take_append_of_le_length (by simp; omega), List.take_take, Nat.min_self]
      have hli : (xs.take i).length = i := by simp; omega
      rw [hB]
      refine ⟨by omega, by omega, ⟨by omega, by omega, by simp; omega⟩, ?_⟩
      refine ⟨by kernel_rfl, ?_⟩
      skip
      apply hK
      simp only [Try.results55, retK, ares, List.take_nil, Bool.and_true, AV.ofResults, St.trunc, truncVs, truncV, AB.trunc, List.getD_cons_zero, List.getD_cons_succ, List.take_succ_cons, List.map_nil, List.map_cons, Nat.reduceLeDiff, and_true, ↓reduceIte, List.cons.injEq, exists_eq_left']
      have e4 : ∀ D : List AV, (xs.take i ++ [v] ++ D).take (i + 1) = xs.take i ++ [v] := fun D => by
        rw [List.take_append_of_le_length (by simp; omega), List.take_of_length_le (by simp; omega)]
      have e5 : (xs.take i ++ [v] ++ (xs.take i ++ List.replicate (xs.length + 1 - i) ((AV.agg [i64 0, i64 0, i64 0, u64 0]))).drop (i + 1)).drop (i + 1 + (xs.drop i).length) = [] := List.drop_of_length_le (by simp; omega)
      refine .inr ?_
      rw [e4, e5, List.append_nil]
      exact ⟨by congr 1; omega, rfl⟩

end Go.Proofs.Ytfkpjdcjjfpigaa
