/- What the statements of the layer omap use alike. -/
import Derived.Test.YtfkpjdcjjfpigaaMapSI
import Derived.Test.YtfkpjdcjjfpigaaMapUI
namespace Go.Proofs.Ytfkpjdcjjfpigaa
open Go Go.Proofs.Ytfkpjdcjjfpigaa.Sym
set_option maxRecDepth 100000
set_option linter.unusedSimpArgs false
set_option linter.unusedVariables false

/-- An act, as the program holds it. -/
structure ActO where
  o : Bool
  k : ByteArray
  v : Int
def ActO.av (a : ActO) : AV := .agg [bool a.o, str a.k, i64 a.v]
def acts (l : List ActO) : List AV := l.map ActO.av
theorem acts_len (l : List ActO) : (acts l).length = l.length := by simp [acts]
theorem fits_acts {ys : List AV} (h : ∀ y ∈ ys, ∃ zs, fitsAll [.bool, .str, .int .i64] zs ∧ y = pack true zs) : ∃ l : List ActO, ys = acts l ∧ ∀ a ∈ l, (Lit.int .i64 a.v).wf = true ∧ a.k.size ≤ maxLen := by
  induction ys with
  | nil => exact ⟨[], rfl, fun s hs => by cases hs⟩
  | cons y ys ih =>
    obtain ⟨l, rfl, hl⟩ := ih (fun z hz => h z (List.mem_cons_of_mem _ hz))
    obtain ⟨zs, ⟨_, _, rfl, ⟨b, rfl⟩, _, _, rfl, ⟨s, rfl, hs⟩, _, _, rfl, ⟨n, rfl, hn⟩, rfl⟩, rfl⟩ := h y List.mem_cons_self
    refine ⟨⟨b, s, n⟩ :: l, rfl, fun t ht => ?_⟩
    rcases List.mem_cons.1 ht with rfl | ht
    · exact ⟨hn, hs⟩
    · exact hl t ht
theorem at_idx {l : List ActO} {i : Nat} (hb : l.length ≤ 9223372036854775807) (h : decide ((i : Int) < (l.length : Int)) = true) :
    ∃ hlt : i < l.length, (acts l).getD (Int.toNat (i : Int)) .any = .agg [bool (l[i]).o, str (l[i]).k, i64 (l[i]).v] ∧ IntKind.i64.wrap ((i : Int) + 1) = ((i + 1 : Nat) : Int) ∧ ((0 : Int) ≤ (i : Int) ∧ Int.toNat (i : Int) < l.length) := by
  have hlt : i < l.length := by simpa using h
  exact ⟨hlt, at_map hlt, by rw [wrap_i64 (by omega) (by omega)]; rfl, by omega⟩
theorem at_end {n i : Nat} (hi : i ≤ n) (h : decide ((i : Int) < (n : Int)) = false) : i = n := by
  have : ¬ ((i : Int) < (n : Int)) := by simpa using h
  omega

theorem weak_nil_si : weak (.agg [.v (.slice none 0 0), .v (.slice none 0 0)]) (map_si []) := .inr ⟨_, rfl, _, _, rfl, weak_nil 1, _, _, rfl, weak_nil 1, rfl⟩
theorem weak_nil_is : weak (.agg [.v (.slice none 0 0), .v (.slice none 0 0)]) (map_is []) := .inr ⟨_, rfl, _, _, rfl, weak_nil 1, _, _, rfl, weak_nil 1, rfl⟩
theorem weak_nil_ui : weak (.agg [.v (.slice none 0 0), .v (.slice none 0 0)]) (map_ui []) := .inr ⟨_, rfl, _, _, rfl, weak_nil 1, _, _, rfl, weak_nil 1, rfl⟩

theorem law04_awake : PCall P 13 [] (fun x => x = bool true) := by
  refine pcall_go tyOk Try.func13 rfl rfl ?_
  intro K hK
  simp only [Try.ntmps13, List.length_nil, Nat.reduceSub, List.replicate, List.nil_append]
  try simp (maxSteps := 1000000) only [go_region, go_seq, go_ops_nil, go_op, opK_none, opK_some, contK_some, callOf, callK_eq, callJ_nil, callD_fn, fstep, fpre, fstep0, fload, fcell, evs, T, TI.isAgg, St.ev, St.put, AV.owners, ownersAll, List.getD_cons_zero, List.getD_cons_succ, List.set, List.map_cons, List.map_nil, List.length_cons, List.length_nil, List.drop_zero, List.take_succ_cons, List.take_zero, List.nil_append, List.append_nil, List.getElem?_cons_zero, true_and, Bool.true_and, ↓reduceIte, Nat.reduceAdd, Nat.le_refl, Nat.zero_add]
  (refine callG_use ((with_call_is [] 2 ⟨#[98]⟩ List.Pairwise.nil (by decide)).weakArgs ⟨_, _, rfl, weak_nil_is, weaks_refl _⟩) rfl ?_; rintro _ rfl)
  have r1 : rises_is (withG ltI eqI [] 2 (⟨#[98]⟩ : ByteArray)) := with_rises ordI eqI_iff (m := []) List.Pairwise.nil _ _
  try simp (maxSteps := 1000000) only [go_op, opK_some, callOf, callK_eq, evs, St.ev, St.put, AV.owners, ownersAll, List.getD_cons_zero, List.getD_cons_succ, List.set, List.append_nil]
  (refine callG_use (with_call_is _ 1 ⟨#[97]⟩ r1 (by decide)) rfl ?_; rintro _ rfl)
  have e2 : withG ltI eqI (withG ltI eqI [] 2 ⟨#[98]⟩) 1 ⟨#[97]⟩ = [(1, (⟨#[97]⟩ : ByteArray)), (2, ⟨#[98]⟩)] := by rfl
  rw [e2]
  try simp (maxSteps := 1000000) only [go_region, go_seq, go_ops_nil, go_op, opK_none, opK_some, contK_some, callOf, callK_eq, callJ_nil, callD_fn, fstep, fpre, fstep0, fload, fcell, fstore, evs, T, TI.isAgg, St.ev, St.put, splice, AV.cells, AV.known, AV.flat, AV.owners, ownersAll, List.getD_cons_zero, List.getD_cons_succ, List.set, List.map_cons, List.map_nil, List.length_cons, List.length_nil, List.all_cons, List.all_nil, List.drop_succ_cons, List.drop_zero, List.take_succ_cons, List.take_zero, List.cons_append, List.nil_append, List.append_nil, List.getElem?_cons_zero, List.getElem?_cons_succ, true_and, and_true, Bool.and_true, Bool.true_and, Bool.and_self, ↓reduceIte, Nat.reduceAdd, Nat.le_refl, Nat.zero_add, map_is]
  have c2 : (((2 : Nat) : Int) == 2) = true := by decide
  have c3 : ((1 : Int) == 1) = true := by decide
  have c4 : ((2 : Int) == 2) = true := by decide
  (refine callG_use (keys_call_is [(1, (⟨#[97]⟩ : ByteArray)), (2, ⟨#[98]⟩)] (by decide)) rfl ?_; rintro _ rfl)
  have g0 : [i64 1, i64 2].getD (Int.toNat 0) .any = i64 1 := rfl
  have g1 : [i64 1, i64 2].getD (Int.toNat 1) .any = i64 2 := rfl
  have l0 : Int.toNat 0 < 2 := by decide
  have l1 : Int.toNat 1 < 2 := by decide
  try simp (maxSteps := 1000000) only [go_region, go_seq, go_ops_nil, go_op, go_guard, opK_none, opK_some, contK_some, guardK_eq, guardV_tt, callOf, callK_eq, callJ_nil, callD_fn, fstep, fpre, fstep0, fbinA, fbin, fbin0, fload, fcell, findexAddr, flen, evs, fpick, T, TI.isAgg, St.ev, St.put, AV.cells, AV.known, AV.owners, ownersAll, Value.cells, List.getD_cons_zero, List.getD_cons_succ, List.set, List.map_cons, List.map_nil, List.length_cons, List.length_nil, List.drop_zero, List.take_succ_cons, List.take_zero, List.headD_cons, List.append_nil, List.getElem?_cons_zero, List.getElem?_cons_succ, Option.bind_some, List.getElem?_toArray, true_and, and_true, Bool.and_true, Bool.true_and, Bool.false_eq_true, ↓reduceIte, Nat.reduceAdd, Nat.reduceLT, Nat.le_refl, Nat.zero_add, cond_true, Int.reduceLE, beq_self_eq_true, c2, g0, g1, l0, l1]
  (refine callG_use (PCall.weakArgs (len_call_is []) ⟨_, _, rfl, weak_nil_is, rfl⟩) rfl ?_; rintro _ rfl)
  try simp (maxSteps := 1000000) only [go_ret, go_ops_nil, go_op, go_guard, opK_none, contK_some, guardK_eq, guardV_tt, callOf, fstep, fpre, fstep0, fbinA, fbin, fbin0, fpick, St.ev, St.put, List.getD_cons_zero, List.getD_cons_succ, List.set, List.length_nil, List.getElem?_cons_zero, List.getElem?_cons_succ, Option.bind_some, List.getElem?_toArray, true_and, Bool.true_and, cond_true]
  apply hK
  simp only [Try.results13, retK, ares, Bool.and_true, Bool.true_and, AV.ofResults, St.trunc, truncVs, truncV, List.getD_cons_zero, List.take_zero, List.map_nil, true_and, and_true, List.cons.injEq, exists_eq_left']
  have c0 : (((0 : Nat) : Int) == 0) = true := by decide
  exact congrArg bool c0

def longFrom : List ActO → Int → Int
  | [], n => n
  | a :: l, n => if n ≤ 200 then longFrom l (n + if (201 : Int) < ((a.k.size / 8 : Nat) : Int) then 201 else ((a.k.size / 8 : Nat) : Int)) else n
def longF (l : List ActO) : Bool := decide (200 < longFrom l l.length)
theorem long_stop {l : List ActO} {n : Int} (h : ¬ n ≤ 200) : longFrom l n = n := by
  cases l with
  | nil => rfl
  | cons a l => rw [longFrom, if_neg h]
theorem long_ge (l : List ActO) : ∀ n, n ≤ longFrom l n := by
  induction l with
  | nil => intro n; exact Int.le_refl _
  | cons a l ih =>
    intro n
    rw [longFrom]
    split
    · refine Int.le_trans ?_ (ih _)
      split <;> omega
    · exact Int.le_refl _
theorem long_few {l : List ActO} (h : longF l = false) : l.length ≤ 200 := by
  have h1 : ¬ 200 < longFrom l l.length := by simpa [longF] using h
  have := long_ge l l.length
  omega
theorem long_next {l : List ActO} {i : Nat} {n : Int} (h : i < l.length) (hn : n ≤ 200) :
    longFrom (l.drop i) n = longFrom (l.drop (i + 1)) (n + if (201 : Int) < ((l[i].k.size / 8 : Nat) : Int) then 201 else ((l[i].k.size / 8 : Nat) : Int)) := by
  rw [List.drop_eq_getElem_cons h, longFrom, if_pos hn]
theorem law04_long (l : List ActO) (hl : l.length ≤ maxLen) (hs : ∀ a ∈ l, a.k.size ≤ maxLen) : PCall P 14 [.sl 3 (acts l)] (fun x => x = bool (longF l)) := by
  simp only [maxLen] at hl hs
  refine pcall_go tyOk Try.func14 rfl rfl ?_
  intro K hK
  simp only [Try.ntmps14, List.length_cons, List.length_nil, Nat.reduceAdd, Nat.reduceSub, List.replicate, List.cons_append, List.nil_append]
  try simp (maxSteps := 1000000) only [go_region, go_seq, go_block, go_loop, go_ops_nil, go_op, opK_none, contK_some, callOf, fstep, fpre, fstep0, flen, T, St.ev, St.put, List.getD_cons_zero, List.getD_cons_succ, List.set, true_and, Bool.true_and, acts_len]
  refine loopK_rule tyOk (α := Nat × Int) 0 [0, 3, 4] (fun p => p.1 ≤ l.length ∧ 0 ≤ p.2 ∧ p.2 ≤ 9223372036854775807 ∧ longFrom l l.length = longFrom (l.drop p.1) p.2)
    (fun p => ⟨[.sl 3 (acts l), .any, .any, i64 p.2, i64 p.1, .any, .any, .any, .any, .any, .any, .any, .any, .any, .any, .any, .any, .any, .any, .any, .any, .any, .any, .any, .any, .any, .any, .any, .any], []⟩)
    (fun p => l.length - p.1) (0, (l.length : Int)) (Nat.zero_le _) ⟨Nat.zero_le _, by simp; omega⟩ rfl ?_
  rintro ⟨i, n⟩ ⟨hi, hn, hn2, he⟩
  simp only at hi hn hn2 he
  try simp (maxSteps := 1000000) only [go_region, go_seq, go_op, go_guard, opK_none, contK_some, guardK_eq, callOf, fstep, fpre, fstep0, fbinA, fbin, fbin0, flen, T, St.ev, St.put, List.getD_cons_zero, List.getD_cons_succ, List.set, List.getElem?_cons_zero, List.getElem?_cons_succ, Option.bind_some, List.getElem?_toArray, true_and, Bool.true_and, acts_len]
  (first | refine guardV_split ?_ ?_ | refine condK_split ?_ ?_ | refine drawV_split ?_ ?_ | refine condY_split ?_ ?_ | refine guardY_split ?_ ?_) <;> intro h <;> try simp (maxSteps := 1000000) only [go_region, go_seq, go_cond, go_exit, go_ret, exitK_code, exitK_blk, exitK_nil, go_ops_nil, go_op, go_guard, opK_none, contK_some, condK_f, guardK_eq, guardV_tt, guardV_ft, undef, callOf, fstep, fpre, fstep0, fbinA, fbin, fbin0, fpick, St.ev, St.put, List.getD_cons_zero, List.getD_cons_succ, List.set, List.getElem?_cons_zero, List.getElem?_cons_succ, Option.bind_some, List.getElem?_toArray, true_and, Bool.true_and, Bool.false_eq_true, ↓reduceIte, cond_true, loopX_exit]
  · obtain ⟨hlt, eg, ew, c1⟩ := at_idx (by omega) h
    (first | refine guardV_split ?_ ?_ | refine condK_split ?_ ?_ | refine drawV_split ?_ ?_ | refine condY_split ?_ ?_ | refine guardY_split ?_ ?_) <;> intro h2 <;> try simp (maxSteps := 1000000) only [go_skip, go_region, go_seq, go_block, go_exit, go_ret, exitK_code, exitK_blk, exitK_nil, go_ops_nil, go_op, opK_none, contK_some, condK_t, condK_f, callOf, fstep, fpre, fpost, fstep0, fbinA, fbin, fbin0, fload, fcell, ffieldAddr, findexAddr, flen, T, TI.isAgg, St.ev, St.put, AV.cells, AV.known, Value.cells, List.getD_cons_zero, List.getD_cons_succ, List.set, List.getElem?_cons_zero, List.getElem?_cons_succ, List.getElem?_toArray, true_and, Bool.true_and, Bool.false_eq_true, ↓reduceIte, reduceCtorEq, ne_eq, not_false_eq_true, loopX_exit]
    · have hn3 : n ≤ 200 := by simpa using h2
      have hsz := hs _ (List.getElem_mem hlt)
      have eq : IntKind.i64.wrap ((l[i].k.size : Int).tdiv 8) = ((l[i].k.size / 8 : Nat) : Int) := by
        have e0 : (l[i].k.size : Int).tdiv 8 = ((l[i].k.size / 8 : Nat) : Int) := rfl
        rw [e0, wrap_i64 (by omega) (by omega)]
      try simp (maxSteps := 1000000) only [go_nil, go_region, go_blk, go_ops_nil, go_op, opK_none, contK_some, callOf, fstep, fpre, fstep0, fbinA, fbin, fbin0, evs, fminmax, St.ev, St.put, List.getD_cons_zero, List.getD_cons_succ, List.set, List.length_cons, List.length_nil, List.drop_succ_cons, List.drop_zero, List.headD_cons, true_and, and_true, Bool.and_true, Bool.true_and, ne_eq, not_false_eq_true, Nat.reduceAdd, Nat.reduceLT, Nat.zero_add, cond_false, Int.reduceEq, eg, c1, acts_len, eq]
      rw [long_next hlt hn3] at he
      have hb : 0 ≤ (if (201 : Int) < ((l[i].k.size / 8 : Nat) : Int) then 201 else ((l[i].k.size / 8 : Nat) : Int)) ∧ (if (201 : Int) < ((l[i].k.size / 8 : Nat) : Int) then 201 else ((l[i].k.size / 8 : Nat) : Int)) ≤ 201 := by split <;> omega
      generalize (if (201 : Int) < ((l[i].k.size / 8 : Nat) : Int) then 201 else ((l[i].k.size / 8 : Nat) : Int)) = q at he hb ⊢
      have ew2 : IntKind.i64.wrap (n + q) = n + q := wrap_i64 (by omega) (by omega)
      rw [ew, ew2]
      simp only [loopX_normal, St.trunc, St.keep, truncVs, truncV, keepV, List.elem_cons, List.elem_nil, List.take_zero, List.map_nil, Nat.reduceAdd, Nat.reduceBEq, Nat.zero_add, Bool.false_eq_true, ↓reduceIte]
      refine ⟨(i + 1, n + q), ⟨hlt, ?_, ?_, he⟩, ?_, rfl⟩ <;> simp only <;> omega
    · apply hK
      simp only [Try.results14, retK, ares, List.take_nil, Bool.and_true, Bool.true_and, AV.ofResults, St.trunc, truncVs, truncV, List.getD_cons_zero, List.getD_cons_succ, List.map_nil, true_and, and_true, List.cons.injEq, exists_eq_left']
      rw [longF, he, long_stop (by simpa using h2)]
  · obtain rfl := at_end hi h
    apply hK
    simp only [Try.results14, retK, ares, List.take_nil, Bool.and_true, Bool.true_and, AV.ofResults, St.trunc, truncVs, truncV, List.getD_cons_zero, List.getD_cons_succ, List.map_nil, true_and, and_true, List.cons.injEq, exists_eq_left']
    rw [longF, he, List.drop_length]
    rfl

/-- The map after acts that put. -/
def putsF (l : List ActO) : List (ByteArray × Int) := l.foldl (fun m a => withG ltS eqS m a.k a.v) []
/-- The map after acts. -/
def actF (m : List (ByteArray × Int)) (a : ActO) : List (ByteArray × Int) := if a.o = true then withoutG ltS eqS m a.k else withG ltS eqS m a.k a.v
def actsF (l : List ActO) : List (ByteArray × Int) := l.foldl actF []
theorem fold_ok {l : List ActO} {f : List (ByteArray × Int) → ActO → List (ByteArray × Int)} (h1 : ∀ m a, rises_si m → rises_si (f m a)) (h2 : ∀ m a, (f m a).length ≤ m.length + 1) : ∀ m, rises_si m → rises_si (l.foldl f m) ∧ (l.foldl f m).length ≤ m.length + l.length := by
  induction l with
  | nil => intro m h; exact ⟨h, Nat.le_refl _⟩
  | cons a l ih =>
    intro m h
    have := ih _ (h1 m a h)
    have := h2 m a
    simp only [List.foldl_cons, List.length_cons]
    exact ⟨(ih _ (h1 m a h)).1, by omega⟩
theorem puts_ok (l : List ActO) : rises_si (putsF l) ∧ (putsF l).length ≤ l.length := by
  have := fold_ok (l := l) (f := fun m a => withG ltS eqS m a.k a.v) (fun m a h => with_rises ordS eqS_iff h _ _) (fun m a => with_len _ _ _) [] List.Pairwise.nil
  simpa [putsF] using this
theorem actF_rises {m : List (ByteArray × Int)} {a : ActO} (h : rises_si m) : rises_si (actF m a) := by
  unfold actF
  split
  · exact without_rises ordS eqS_iff h _
  · exact with_rises ordS eqS_iff h _ _
theorem actF_len {m : List (ByteArray × Int)} {a : ActO} : (actF m a).length ≤ m.length + 1 := by
  unfold actF
  split
  · exact Nat.le_succ_of_le (without_len _ _)
  · exact with_len _ _ _
theorem acts_ok (l : List ActO) : rises_si (actsF l) ∧ (actsF l).length ≤ l.length := by
  have := fold_ok (l := l) (f := actF) (fun m a h => actF_rises h) (fun m a => actF_len) [] List.Pairwise.nil
  simpa [actsF] using this
theorem puts_next {l : List ActO} {i : Nat} (h : i < l.length) : putsF (l.take (i + 1)) = withG ltS eqS (putsF (l.take i)) l[i].k l[i].v := by
  rw [take_one h, putsF, List.foldl_append]; rfl
theorem acts_next {l : List ActO} {i : Nat} (h : i < l.length) : actsF (l.take (i + 1)) = actF (actsF (l.take i)) l[i] := by
  rw [take_one h, actsF, List.foldl_append]; rfl
end Go.Proofs.Ytfkpjdcjjfpigaa
