/- The row of FeedRises, out of its contract. Printed by row.py, a program of this session. -/
import Derived.Test.YtljgfapbbhbbpaaMg
import Derived.Test.YtljgfapbbhbbpaaRows
import Derived.Test.YtljgfapbbhbbpaaSymU
namespace Go.Proofs.Ytljgfapbbhbbpaa
open Go Go.Proofs.Ytljgfapbbhbbpaa.Sym
set_option maxRecDepth 100000
set_option linter.unusedSimpArgs false
set_option linter.unusedVariables false

/-- As the statement counts. -/
def cntN {α : Type} (R : List (List α)) (i : Nat) : Nat := R.length + ((R.take i).map fun r => min r.length 201).sum
theorem cntN_next {α : Type} {R : List (List α)} {i : Nat} (h : i < R.length) : cntN R (i + 1) = cntN R i + min (R.getD i []).length 201 := by
  unfold cntN
  rw [take_one h, List.map_append, List.sum_append, List.getD_eq_getElem?_getD, List.getElem?_eq_getElem h]
  simp only [List.map_cons, List.map_nil, List.sum_cons, List.sum_nil, Option.getD_some]
  omega
theorem cntN_all {α : Type} : ∀ {R : List (List α)}, ((R.map fun r => min r.length 201).sum ≤ 200) → (R.map List.length).sum ≤ 200 ∧ ∀ r ∈ R, r.length ≤ 200
  | [], _ => ⟨Nat.zero_le _, fun r hr => by cases hr⟩
  | r :: R, h => by
    simp only [List.map_cons, List.sum_cons] at h ⊢
    obtain ⟨h1, h2⟩ := cntN_all (R := R) (by omega)
    have e : ∀ R : List (List α), (∀ r ∈ R, r.length ≤ 200) → (R.map fun r => min r.length 201) = R.map List.length := fun R hR =>
      List.map_congr_left fun r hr => by have := hR r hr; omega
    have e2 := congrArg List.sum (e R h2)
    refine ⟨by omega, fun x hx => ?_⟩
    rcases List.mem_cons.1 hx with rfl | hx
    · omega
    · exact h2 x hx
theorem getD_le {α : Type} {R : List (List α)} {n : Nat} (h : ∀ r ∈ R, r.length ≤ n) (i : Nat) : (R.getD i []).length ≤ n := by
  by_cases hi : i < R.length
  · rw [List.getD_eq_getElem?_getD, List.getElem?_eq_getElem hi]; exact h _ (List.getElem_mem hi)
  · rw [List.getD_eq_getElem?_getD, List.getElem?_eq_none (by omega)]; exact Nat.zero_le _
def nums (l : List Int) : List AV := l.map fun n => u64 n
theorem nums_len (l : List Int) : (nums l).length = l.length := by simp [nums]
def nrows (R : List (List Int)) : List AV := R.map fun r => .sl 1 (nums r)
theorem nrows_len (R : List (List Int)) : (nrows R).length = R.length := by simp [nrows]
theorem nrows_at {R : List (List Int)} {i : Nat} (h : i < R.length) : (nrows R).getD (Int.toNat (i : Int)) .any = .sl 1 (nums (R.getD i [])) := by
  have := at_map (f := fun r : List Int => AV.sl 1 (nums r)) h
  rw [List.getD_eq_getElem?_getD (l := R), List.getElem?_eq_getElem h]
  exact this
/-- The greatest of what was met. -/
def lastF (l : List Int) : Int := l.foldl max 0
theorem last_next {l : List Int} {k : Nat} (h : k < l.length) : lastF (l.take (k + 1)) = max (lastF (l.take k)) l[k] := by
  rw [take_one h, lastF, List.foldl_append]; rfl
def evN (n : Int) : Ev := ⟨⟨#[]⟩, ⟨0, 0, 0⟩, ⟨0, 0, 0⟩, n⟩
/-- The rising row of these numbers. -/
def rowF (l : List Int) (k : Nat) : List Ev := (List.range k).map fun j => evN (lastF (l.take (j + 1)))
theorem rowF_len (l : List Int) (k : Nat) : (rowF l k).length = k := by simp [rowF]
theorem rowF_next (l : List Int) (k : Nat) : rowF l (k + 1) = rowF l k ++ [evN (lastF (l.take (k + 1)))] := by
  rw [rowF, List.range_succ, List.map_append]; rfl
theorem last_mono (l : List Int) : ∀ a b, a ≤ b → lastF (l.take a) ≤ lastF (l.take b) := by
  intro a b hab
  induction b with
  | zero => obtain rfl : a = 0 := by omega
            exact Int.le_refl _
  | succ b ih =>
    by_cases h : a = b + 1
    · subst h; exact Int.le_refl _
    · have h1 := ih (by omega)
      by_cases hb : b < l.length
      · rw [last_next hb]; omega
      · rw [List.take_of_length_le (l := l) (i := b + 1) (by omega)]
        rwa [List.take_of_length_le (l := l) (i := b) (by omega)] at h1
theorem last_nn (l : List Int) (k : Nat) : 0 ≤ lastF (l.take k) := last_mono l 0 k (Nat.zero_le _)
theorem rowF_rises (l : List Int) : ∀ k, ((rowF l k).map Ev.seq).Pairwise (· ≤ ·) ∧ ∀ e ∈ rowF l k, 0 ≤ e.seq
  | 0 => ⟨List.Pairwise.nil, fun e he => by cases he⟩
  | k + 1 => by
    obtain ⟨h1, h2⟩ := rowF_rises l k
    rw [rowF_next]
    refine ⟨?_, fun e he => ?_⟩
    · rw [List.map_append]
      refine List.pairwise_append.2 ⟨h1, List.pairwise_singleton _ _, fun a ha b hb => ?_⟩
      obtain ⟨e, he, rfl⟩ := List.mem_map.1 ha
      obtain rfl : b = lastF (l.take (k + 1)) := by simpa [evN] using hb
      obtain ⟨j, hj, rfl⟩ := List.mem_map.1 he
      have : j < k := by simpa using hj
      exact last_mono l (j + 1) (k + 1) (by omega)
    · rcases List.mem_append.1 he with he | he
      · exact h2 e he
      · obtain rfl : e = _ := by simpa using he
        exact last_nn l _
def rowsF (R : List (List Int)) (i : Nat) : Rws := (R.take i).map fun l => rowF l l.length
theorem rowsF_next {R : List (List Int)} {i : Nat} (h : i < R.length) : rowsF R (i + 1) = rowsF R i ++ [rowF (R.getD i []) (R.getD i []).length] := by
  rw [rowsF, take_one h, List.map_append, List.getD_eq_getElem?_getD, List.getElem?_eq_getElem h]; rfl
theorem rws_snoc (R : Rws) (r : List Ev) : rws R ++ [.sl 8 (evts r)] = rws (R ++ [r]) := by simp [rws]
def manyF (R : List (List Int)) (i : Nat) : Nat := ((R.take i).map List.length).sum
theorem many_next {R : List (List Int)} {i : Nat} (h : i < R.length) : manyF R (i + 1) = manyF R i + (R.getD i []).length := by
  unfold manyF
  rw [take_one h, List.map_append, List.sum_append, List.getD_eq_getElem?_getD, List.getElem?_eq_getElem h]
  simp
theorem many_le (R : List (List Int)) (i : Nat) : manyF R i ≤ (R.map List.length).sum := by
  unfold manyF
  conv => rhs; rw [← List.take_append_drop i R, List.map_append, List.sum_append]
  omega
set_option maxHeartbeats 2000000 in
theorem law_rises (R : List (List Int)) (hR : R.length ≤ maxLen) (hrl : ∀ r ∈ R, r.length ≤ maxLen) : PCall P 5 [.sl 1 (nrows R)] (fun x => x = .v (.bool true)) := by
  simp only [maxLen] at hR hrl
  refine pcall_go tyOk Try.func5 rfl rfl ?_
  intro K hK
  simp only [Try.ntmps5, List.length_cons, List.length_nil, Nat.reduceAdd, Nat.reduceSub, List.replicate, List.cons_append, List.nil_append]
  try simp (maxSteps := 1000000) only [go_region, go_seq, go_block, go_loop, go_ops_nil, go_op, opK_none, contK_some, callOf, fstep, fpre, fstep0, flen, T, St.ev, St.put, List.getD_cons_zero, List.getD_cons_succ, List.set, true_and, Bool.true_and, nrows_len]
  refine loopK_rule tyOk (α := Nat) 0 [0, 3, 4] (fun i => i ≤ R.length)
    (fun i => ⟨[.sl 1 (nrows R), .any, .any, i64 (cntN R i : Nat), i64 i, .any, .any, .any, .any, .any, .any, .any, .any, .any, .any, .any, .any, .any, .any, .any, .any, .any, .any, .any, .any, .any, .any, .any, .any, .any, .any, .any, .any, .any, .any, .any, .any, .any, .any, .any, .any, .any, .any, .any, .any, .any, .any, .any, .any, .any, .any, .any, .any, .any, .any, .any, .any, .any, .any, .any, .any, .any, .any, .any, .any, .any, .any, .any, .any, .any, .any, .any, .any, .any, .any, .any, .any, .any, .any, .any, .any, .any, .any, .any, .any, .any, .any, .any, .any, .any, .any, .any, .any, .any, .any, .any, .any, .any, .any], []⟩)
    (fun i => R.length - i) 0 (Nat.zero_le _) (Nat.zero_le _) (by simp only [cntN, List.take_zero, List.map_nil, List.sum_nil, Nat.add_zero]; rfl) ?_
  intro i hi
  try simp (maxSteps := 1000000) only [go_region, go_seq, go_op, go_guard, opK_none, contK_some, guardK_eq, callOf, fstep, fpre, fstep0, fbinA, fbin, fbin0, flen, T, St.ev, St.put, List.getD_cons_zero, List.getD_cons_succ, List.set, List.getElem?_cons_zero, List.getElem?_cons_succ, Option.bind_some, List.getElem?_toArray, true_and, Bool.true_and, nrows_len]
  (first | refine guardV_split ?_ ?_ | refine condK_split ?_ ?_ | refine drawV_split ?_ ?_ | refine condY_split ?_ ?_ | refine guardY_split ?_ ?_) <;> intro h
  · have hlt : i < R.length := by have := of_decide_eq_true h; omega
    try simp (maxSteps := 1000000) only [go_cond, go_ops_nil, go_op, go_guard, opK_none, contK_some, guardK_eq, guardV_tt, callOf, fstep, fpre, fstep0, fbinA, fbin, fbin0, fpick, St.ev, St.put, List.getD_cons_zero, List.getD_cons_succ, List.set, List.getElem?_cons_zero, List.getElem?_cons_succ, Option.bind_some, List.getElem?_toArray, true_and, Bool.true_and, cond_true]
    (first | refine guardV_split ?_ ?_ | refine condK_split ?_ ?_ | refine drawV_split ?_ ?_ | refine condY_split ?_ ?_ | refine guardY_split ?_ ?_) <;> intro h2
    · have h2' : cntN R i ≤ 200 := by have := of_decide_eq_true h2; omega
      have eg := nrows_at hlt
      have ew : IntKind.i64.wrap ((i : Int) + 1) = ((i + 1 : Nat) : Int) := by rw [wrap_i64 (by omega) (by omega)]; rfl
      have c1 : (0 : Int) ≤ (i : Int) ∧ Int.toNat (i : Int) < R.length := by omega
      have hn := cntN_next hlt
      have en : IntKind.i64.wrap (((cntN R i : Nat) : Int) + (if 201 < (((R.getD i []).length : Nat) : Int) then 201 else (((R.getD i []).length : Nat) : Int))) = ((cntN R (i + 1) : Nat) : Int) := by
        split <;> rw [wrap_i64 (by omega) (by omega), hn] <;> omega
      try simp (maxSteps := 1000000) only [go_nil, go_skip, go_region, go_seq, go_block, go_blk, go_ops_nil, go_op, opK_none, contK_some, condK_t, callOf, fstep, fpre, fstep0, fbinA, fbin, fbin0, fload, fcell, findexAddr, flen, evs, fminmax, T, TI.isAgg, St.ev, St.put, AV.cells, AV.known, List.getD_cons_zero, List.getD_cons_succ, List.set, List.length_cons, List.length_nil, List.headD_cons, true_and, and_true, Bool.and_true, Bool.true_and, Bool.false_eq_true, ↓reduceIte, Nat.reduceLT, Nat.zero_add, cond_false, eg, c1, nrows_len, nums_len, en, ew]
      simp only [loopX_normal, St.trunc, St.keep, truncVs, truncV, keepV, List.elem_cons, List.elem_nil, List.take_zero, List.map_nil, Nat.reduceAdd, Nat.reduceBEq, Nat.zero_add, Bool.false_eq_true, ↓reduceIte]
      exact ⟨i + 1, hlt, by omega, rfl⟩
    · have h2' : decide ((200 : Int) < ((cntN R i : Nat) : Int)) = true := decide_eq_true (by have := of_decide_eq_false h2; omega)
      try simp (maxSteps := 1000000) only [go_region, go_seq, go_exit, exitK_code, exitK_blk, exitK_nil, go_op, opK_some, condK_f, callOf, callK_eq, callJ_nil, callD_fn, evs, St.ev, ownersAll, List.append_nil, ↓reduceIte, loopX_exit]
      (refine callG_use law09_awake rfl ?_; rintro _ rfl)
      try simp (maxSteps := 1000000) only [go_region, go_seq, go_cond, go_ops_nil, go_op, go_guard, opK_none, opK_some, contK_some, condK_t, guardK_eq, guardV_ff, callOf, callK_eq, callJ_nil, callD_fn, fstep, fpre, fstep0, fbinA, fbin, fbin0, funary, evs, fpick, St.ev, St.put, ownersAll, List.getD_cons_zero, List.getD_cons_succ, List.set, List.append_nil, List.getElem?_cons_zero, List.getElem?_cons_succ, Option.bind_some, List.getElem?_toArray, true_and, Bool.true_and, Bool.not_true, cond_false, h2']
      (refine callG_use law09_awake rfl ?_; rintro _ rfl)
      try simp (maxSteps := 1000000) only [go_ret, go_ops_nil, go_op, opK_none, contK_some, callOf, fstep, fpre, fstep0, St.ev, St.put, List.getD_cons_zero, List.getD_cons_succ, List.set, true_and, Bool.true_and]
      apply hK
      simp only [Try.results5, retK, ares, List.take_nil, Bool.and_true, Bool.true_and, AV.ofResults, St.trunc, truncVs, truncV, List.getD_cons_zero, List.getD_cons_succ, List.map_nil, true_and, and_true, List.cons.injEq, exists_eq_left']
  · obtain rfl : i = R.length := by have := of_decide_eq_false h; omega
    try simp (maxSteps := 1000000) only [go_region, go_seq, go_cond, go_exit, exitK_code, exitK_blk, exitK_nil, go_ops_nil, go_op, go_guard, opK_none, opK_some, contK_some, condK_f, guardK_eq, guardV_ft, undef, callOf, callK_eq, callJ_nil, callD_fn, fstep, fpre, fstep0, evs, fpick, St.ev, St.put, ownersAll, List.getD_cons_zero, List.getD_cons_succ, List.set, List.append_nil, List.getElem?_cons_zero, List.getElem?_cons_succ, Option.bind_some, List.getElem?_toArray, true_and, Bool.true_and, Bool.false_eq_true, ↓reduceIte, loopX_exit]
    (refine callG_use law09_awake rfl ?_; rintro _ rfl)
    try simp (maxSteps := 1000000) only [go_cond, go_ops_nil, go_op, go_guard, opK_none, contK_some, guardK_eq, guardV_ff, callOf, fstep, fpre, fstep0, fbinA, fbin, fbin0, funary, fpick, St.ev, St.put, List.getD_cons_zero, List.getD_cons_succ, List.set, List.getElem?_cons_zero, List.getElem?_cons_succ, Option.bind_some, List.getElem?_toArray, true_and, Bool.true_and, Bool.not_true, cond_false]
    (first | refine guardV_split ?_ ?_ | refine condK_split ?_ ?_ | refine drawV_split ?_ ?_ | refine condY_split ?_ ?_ | refine guardY_split ?_ ?_) <;> intro h2
    · try simp (maxSteps := 1000000) only [go_region, go_seq, go_op, opK_some, condK_t, callOf, callK_eq, callJ_nil, callD_fn, evs, St.ev, ownersAll, List.append_nil]
      (refine callG_use law09_awake rfl ?_; rintro _ rfl)
      try simp (maxSteps := 1000000) only [go_ret, go_ops_nil, go_op, opK_none, contK_some, callOf, fstep, fpre, fstep0, St.ev, St.put, List.getD_cons_zero, List.getD_cons_succ, List.set, true_and, Bool.true_and]
      apply hK
      simp only [Try.results5, retK, ares, List.take_nil, Bool.and_true, Bool.true_and, AV.ofResults, St.trunc, truncVs, truncV, List.getD_cons_zero, List.getD_cons_succ, List.map_nil, true_and, and_true, List.cons.injEq, exists_eq_left']
    have h2' : cntN R R.length ≤ 200 := by have := of_decide_eq_false h2; omega
    unfold cntN at h2'
    rw [List.take_length] at h2'
    obtain ⟨k1, k2⟩ := cntN_all (R := R) (by omega)
    have k3 := many_le R
    try simp (maxSteps := 1000000) only [go_skip, go_region, go_seq, go_block, go_loop, go_ops_nil, go_op, opK_none, contK_some, condK_f, callOf, fstep, fpre, fstep0, St.ev, St.put, List.set, true_and, Bool.true_and]
    refine loopK_turn (Turns.adopt (i := 5) 33 1 rfl) ?_
    refine loopK_rule tyOk (α := Nat) 1 [0, 5, 6, 7] (fun i => i ≤ R.length)
      (fun i => ⟨[.sl 1 (nrows R), .any, .any, .any, .any, .own 0 1 0 (rowsF R i).length, i64 (manyF R i : Nat), i64 i, .any, .any, .any, .any, .any, .any, .any, .any, .any, .any, .any, .any, .any, .any, .any, .any, .any, .any, .any, .any, .any, .any, .any, .any, .any, .any, .any, .any, .any, .any, .any, .any, .any, .any, .any, .any, .any, .any, .any, .any, .any, .any, .any, .any, .any, .any, .any, .any, .any, .any, .any, .any, .any, .any, .any, .any, .any, .any, .any, .any, .any, .any, .any, .any, .any, .any, .any, .any, .any, .any, .any, .any, .any, .any, .any, .any, .any, .any, .any, .any, .any, .any, .any, .any, .any, .any, .any, .any, .any, .any, .any], [.row 33 1 (rws (rowsF R i))]⟩)
      (fun i => R.length - i) 0 (Nat.zero_le _) (Nat.zero_le _) rfl ?_
    intro i hi
    try simp (maxSteps := 1000000) only [go_region, go_seq, go_cond, go_ops_nil, go_op, opK_none, contK_some, callOf, fstep, fpre, fstep0, fbinA, fbin, fbin0, flen, T, St.ev, St.put, List.getD_cons_zero, List.getD_cons_succ, List.set, true_and, Bool.true_and, nrows_len]
    (first | refine guardV_split ?_ ?_ | refine condK_split ?_ ?_ | refine drawV_split ?_ ?_ | refine condY_split ?_ ?_ | refine guardY_split ?_ ?_) <;> intro h
    · have hlt : i < R.length := by have := of_decide_eq_true h; omega
      have eg := nrows_at hlt
      have ew : IntKind.i64.wrap ((i : Int) + 1) = ((i + 1 : Nat) : Int) := by rw [wrap_i64 (by omega) (by omega)]; rfl
      have c1 : (0 : Int) ≤ (i : Int) ∧ Int.toNat (i : Int) < R.length := by omega
      have hmn := many_next hlt
      have hrn := rowsF_next hlt
      have hk2 : (R.getD i []).length ≤ 200 := getD_le k2 i
      have hk3 := k3 (i + 1)
      generalize R.getD i [] = l at *
      have hri : (rowsF R i).length ≤ R.length := by simp [rowsF]; omega
      try simp (maxSteps := 1000000) only [go_skip, go_region, go_seq, go_block, go_loop, go_ops_nil, go_op, opK_none, contK_some, condK_t, callOf, fstep, fpre, fstep0, St.ev, St.put, List.set, true_and, Bool.true_and]
      refine loopK_turn (Turns.adopt (i := 8) 37 8 rfl) ?_
      refine loopK_rule tyOk (α := Nat) 2 [0, 5, 6, 7, 8, 9, 10] (fun k => k ≤ l.length)
        (fun k => ⟨[.sl 1 (nrows R), .any, .any, .any, .any, .own 0 1 0 (rowsF R i).length, i64 (manyF R i + k : Nat), i64 i, .own 1 8 0 k, u64 (lastF (l.take k)), i64 k, .any, .any, .any, .any, .any, .any, .any, .any, .any, .any, .any, .any, .any, .any, .any, .any, .any, .any, .any, .any, .any, .any, .any, .any, .any, .any, .any, .any, .any, .any, .any, .any, .any, .any, .any, .any, .any, .any, .any, .any, .any, .any, .any, .any, .any, .any, .any, .any, .any, .any, .any, .any, .any, .any, .any, .any, .any, .any, .any, .any, .any, .any, .any, .any, .any, .any, .any, .any, .any, .any, .any, .any, .any, .any, .any, .any, .any, .any, .any, .any, .any, .any, .any, .any, .any, .any, .any, .any], [.row 33 1 (rws (rowsF R i)), .row 37 8 (evts (rowF l k))]⟩)
        (fun k => l.length - k) 0 (Nat.zero_le _) (Nat.zero_le _) rfl ?_
      intro k hk
      try simp (maxSteps := 1000000) only [go_region, go_seq, go_cond, go_ops_nil, go_op, opK_none, contK_some, callOf, fstep, fpre, fstep0, fbinA, fbin, fbin0, fload, fcell, findexAddr, flen, T, TI.isAgg, St.ev, St.put, AV.cells, AV.known, List.getD_cons_zero, List.getD_cons_succ, List.set, List.length_cons, List.length_nil, List.headD_cons, true_and, and_true, Bool.and_true, Bool.true_and, Bool.false_eq_true, ↓reduceIte, Nat.reduceLT, Nat.zero_add, eg, c1, nrows_len, nums_len]
      (first | refine guardV_split ?_ ?_ | refine condK_split ?_ ?_ | refine drawV_split ?_ ?_ | refine condY_split ?_ ?_ | refine guardY_split ?_ ?_) <;> intro h3
      · have hlt3 : k < l.length := by have := of_decide_eq_true h3; omega
        have eg3 : (nums l).getD (Int.toNat (k : Int)) .any = u64 l[k] := at_map (f := fun n : Int => u64 n) hlt3
        have ew3 : IntKind.i64.wrap ((k : Int) + 1) = ((k + 1 : Nat) : Int) := by rw [wrap_i64 (by omega) (by omega)]; rfl
        have em3 : IntKind.i64.wrap (((manyF R i + k : Nat) : Int) + 1) = ((manyF R i + (k + 1) : Nat) : Int) := by rw [wrap_i64 (by omega) (by omega)]; omega
        have c3 : (0 : Int) ≤ (k : Int) ∧ Int.toNat (k : Int) < l.length := by omega
        have hln := last_next hlt3
        have hrow := rowF_next l k
        have hrl := rowF_len l k
        have hmx : (if l[k] > lastF (l.take k) then l[k] else lastF (l.take k)) = lastF (l.take (k + 1)) := by rw [hln]; split <;> omega
        try simp (maxSteps := 1000000) only [go_nil, go_skip, go_region, go_seq, go_block, go_blk, go_ops_nil, go_op, opK_none, contK_some, condK_t, callOf, fstep, fpre, fstep0, fbinA, fbin, fbin0, fload, fcell, findexAddr, ffill, fieldPlaces, fieldsOk, fbuild, evParts, evOwners, fbuildSlice, felems, fappend, evs, fminmax, T, TI.isAgg, TI.zeroOk, TI.zav, setParts, partsOk, St.ev, St.put, St.shutAll, St.rehome, killV, killVs, AB.kill, splice, AV.cells, AV.known, AV.flat, AV.pure, pureAll, AV.owners, ownersAll, Value.cells, Value.oneCell', List.getD_cons_zero, List.getD_cons_succ, List.set, List.map_cons, List.map_nil, List.length_cons, List.length_nil, List.all_cons, List.all_nil, List.drop_succ_cons, List.drop_zero, List.take_succ_cons, List.take_zero, List.headD_cons, List.cons_append, List.nil_append, List.append_nil, List.getElem?_cons_zero, List.getElem?_cons_succ, List.replicate, Option.isSome_some, List.getElem?_toArray, true_and, and_true, Bool.and_true, Bool.true_and, Bool.and_self, Bool.or_false, Bool.false_eq_true, ↓reduceIte, decide_true, decide_false, reduceCtorEq, Nat.reduceAdd, Nat.reduceMul, Nat.reduceLeDiff, Nat.reduceEqDiff, Nat.reduceLT, Nat.zero_le, Nat.le_refl, Nat.zero_add, cond_true, eg, c1, eg3, c3, hmx, nrows_len, nums_len, evts_len, hrl]
        refine ⟨⟨by simp only [maxLen]; omega, by omega⟩, ?_⟩
        try simp (maxSteps := 1000000) only [ew3, em3]
        simp only [loopX_normal, St.trunc, St.keep, truncVs, truncV, AB.trunc, keepV, List.drop_zero, List.elem_cons, List.elem_nil, List.take_succ_cons, List.take_zero, List.map_cons, List.map_nil, List.getElem?_cons_zero, List.getElem?_cons_succ, List.length_cons, List.length_nil, Nat.reduceAdd, Nat.reduceBEq, Nat.reduceLeDiff, Nat.le_refl, Nat.zero_add, Bool.false_eq_true, ↓reduceIte]
        refine ⟨k + 1, hlt3, by omega, ?_⟩
        rw [hrow]
        simp only [evts, List.map_append]
        rfl
      · obtain rfl : k = l.length := by have := of_decide_eq_false h3; omega
        rw [List.take_length]
        have hrl := rowF_len l l.length
        have hsl : (if l.length ≤ (evts (rowF l l.length)).length then AV.sl 8 ((evts (rowF l l.length)).take l.length) else .any) = .sl 8 (evts (rowF l l.length)) := by
          rw [if_pos (by rw [evts_len, hrl]; exact Nat.le_refl _), List.take_of_length_le (by rw [evts_len, hrl]; exact Nat.le_refl _)]
        try simp (maxSteps := 1000000) only [go_nil, go_region, go_blk, go_exit, exitK_code, exitK_blk, exitK_nil, go_ops_nil, go_op, opK_none, contK_some, condK_f, undef, callOf, fstep, fpre, fstep0, fbinA, fbin, fbin0, evParts, evOwners, fbuildSlice, felems, fappend, T, TI.isAgg, TI.zeroOk, TI.zav, setParts, partsOk, St.ev, St.put, St.shutAll, St.shut, shutV, shutVs, AB.shut, St.rehome, killV, killVs, AB.kill, AV.cells, AV.known, AV.flat, AV.pure, AV.owners, Value.oneCell', List.getD_cons_zero, List.getD_cons_succ, List.set, List.map_cons, List.map_nil, List.length_cons, List.length_nil, List.all_cons, List.all_nil, List.drop_zero, List.take_succ_cons, List.take_zero, List.headD_cons, List.cons_append, List.nil_append, List.append_nil, List.getElem?_cons_zero, List.getElem?_cons_succ, List.replicate, true_and, and_true, Bool.and_true, Bool.true_and, Bool.and_self, Bool.or_true, Bool.false_eq_true, ↓reduceIte, decide_true, reduceCtorEq, Nat.reduceAdd, Nat.reduceMul, Nat.reduceLeDiff, Nat.reduceLT, Nat.zero_le, Nat.le_refl, Nat.zero_add, loopX_exit, hsl, rws_len]
        refine ⟨⟨by simp only [maxLen]; omega, by omega⟩, ?_⟩
        try simp (maxSteps := 1000000) only [ew]
        simp only [loopX_normal, St.trunc, St.keep, truncVs, truncV, AB.trunc, keepV, List.drop_zero, List.elem_cons, List.elem_nil, List.take_succ_cons, List.take_zero, List.map_cons, List.map_nil, List.getElem?_cons_zero, List.getElem?_cons_succ, List.length_cons, List.length_nil, Nat.reduceAdd, Nat.reduceBEq, Nat.reduceLeDiff, Nat.le_refl, Nat.zero_add, Bool.false_eq_true, ↓reduceIte]
        refine ⟨i + 1, hlt, by omega, ?_⟩
        rw [rws_snoc, ← hrn, hmn, hrn, List.length_append]
        rfl
    · obtain rfl : i = R.length := by have := of_decide_eq_false h; omega
      have hcr : (rowsF R R.length).length = R.length := by simp [rowsF]
      have htot : total (rowsF R R.length) = manyF R R.length := by
        unfold total rowsF manyF
        rw [List.map_map]
        congr 1
        exact List.map_congr_left fun l _ => rowF_len l _
      have hri : ∀ i, (((rowsF R R.length).getD i []).map Ev.seq).Pairwise (· ≤ ·) ∧ ∀ e ∈ (rowsF R R.length).getD i [], 0 ≤ e.seq := fun i => by
        by_cases hi : i < (rowsF R R.length).length
        · rw [List.getD_eq_getElem?_getD, List.getElem?_eq_getElem hi]
          simp only [rowsF, List.getElem_map, Option.getD_some]
          exact rowF_rises _ _
        · rw [List.getD_eq_getElem?_getD, List.getElem?_eq_none (by omega)]
          exact ⟨List.Pairwise.nil, fun e he => by cases he⟩
      have hrl2 : ∀ i, ((rowsF R R.length).getD i []).length ≤ 100000 := fun i => by
        by_cases hi : i < (rowsF R R.length).length
        · rw [List.getD_eq_getElem?_getD, List.getElem?_eq_getElem hi]
          simp only [rowsF, List.getElem_map, Option.getD_some, rowF_len]
          have := k2 ((R.take R.length)[i]'(by rw [List.length_take]; omega)) (by rw [List.getElem_take]; exact List.getElem_mem _)
          omega
        · rw [List.getD_eq_getElem?_getD, List.getElem?_eq_none (by omega)]; exact Nat.zero_le _
      have hk3 := k3 R.length
      have hM := feed_Merge (rowsF R R.length) (by omega) (by omega) hrl2
      have hml := merge_len _ (rowsF R R.length) rfl
      have hmr := (merge_rises _ (rowsF R R.length) 0 rfl hri).1
      have hsl : (if (rowsF R R.length).length ≤ (rws (rowsF R R.length)).length then AV.sl 1 ((rws (rowsF R R.length)).take (rowsF R R.length).length) else .any) = .sl 1 (rws (rowsF R R.length)) := by
        rw [if_pos (by rw [rws_len]; exact Nat.le_refl _), List.take_of_length_le (by rw [rws_len]; exact Nat.le_refl _)]
      rw [htot] at hml
      generalize mergeF (rowsF R R.length) = M at *
      generalize manyF R R.length = mn at *
      try simp (maxSteps := 1000000) only [go_region, go_seq, go_exit, exitK_code, exitK_blk, exitK_nil, go_op, opK_none, opK_some, contK_some, condK_f, callOf, callK_eq, callJ_cons, fstep, fpre, fstep0, evs, St.ev, St.put, AV.owners, ownersAll, List.getD_cons_zero, List.getD_cons_succ, List.set, List.append_nil, true_and, Bool.true_and, ↓reduceIte, loopX_exit]
      refine callO_shut ?_
      try simp (maxSteps := 1000000) only [callH_fn, evs, St.ev, St.shutAll, St.shut, shutV, shutVs, AB.shut, List.getD_cons_zero, List.getD_cons_succ, List.set, List.map_cons, List.map_nil, List.all_cons, List.all_nil, List.drop_zero, List.append_nil, List.getElem?_cons_zero, true_and, Bool.true_and, Bool.and_self, ↓reduceIte, decide_true, Nat.zero_le, Nat.zero_add, hsl]
      (refine callG_use hM rfl ?_; rintro _ rfl)
      try simp (maxSteps := 1000000) only [go_region, go_seq, go_block, go_loop, go_ops_nil, go_op, opK_none, contK_some, callOf, fstep, fpre, fstep0, St.ev, St.put, List.getD_cons_zero, List.getD_cons_succ, List.set, true_and, Bool.true_and]
      refine loopK_rule tyOk (α := Nat) 0 [6, 11, 12] (fun i => 1 ≤ i ∧ i ≤ M.length + 1)
        (fun i => ⟨[.any, .any, .any, .any, .any, .any, i64 mn, .any, .any, .any, .any, .sl 8 (evts M), i64 i, .any, .any, .any, .any, .any, .any, .any, .any, .any, .any, .any, .any, .any, .any, .any, .any, .any, .any, .any, .any, .any, .any, .any, .any, .any, .any, .any, .any, .any, .any, .any, .any, .any, .any, .any, .any, .any, .any, .any, .any, .any, .any, .any, .any, .any, .any, .any, .any, .any, .any, .any, .any, .any, .any, .any, .any, .any, .any, .any, .any, .any, .any, .any, .any, .any, .any, .any, .any, .any, .any, .any, .any, .any, .any, .any, .any, .any, .any, .any, .any, .any, .any, .any, .any, .any, .any], []⟩)
        (fun i => M.length + 1 - i) 1 (Nat.zero_le _) ⟨Nat.le_refl _, by omega⟩ rfl ?_
      rintro z ⟨hz1, hz2⟩
      try simp (maxSteps := 1000000) only [go_region, go_seq, go_cond, go_ops_nil, go_op, opK_none, contK_some, callOf, fstep, fpre, fstep0, fbinA, fbin, fbin0, flen, T, St.ev, St.put, List.getD_cons_zero, List.getD_cons_succ, List.set, true_and, Bool.true_and, evts_len]
      (first | refine guardV_split ?_ ?_ | refine condK_split ?_ ?_ | refine drawV_split ?_ ?_ | refine condY_split ?_ ?_ | refine guardY_split ?_ ?_) <;> intro h5
      · have hlt5 : z < M.length := by have := of_decide_eq_true h5; omega
        have eg5 : (evts M).getD (Int.toNat (z : Int)) .any = .agg [str M[z].u, i64 M[z].old.st, i64 M[z].old.pr, i64 M[z].old.n, i64 M[z].new.st, i64 M[z].new.pr, i64 M[z].new.n, u64 M[z].seq] := at_map (f := Ev.av) hlt5
        obtain ⟨y, hy⟩ : ∃ y, z = y + 1 := ⟨z - 1, by omega⟩
        have hly : y < M.length := by omega
        have eg6 : (evts M).getD (Int.toNat (y : Int)) .any = .agg [str M[y].u, i64 M[y].old.st, i64 M[y].old.pr, i64 M[y].old.n, i64 M[y].new.st, i64 M[y].new.pr, i64 M[y].new.n, u64 M[y].seq] := at_map (f := Ev.av) hly
        have ew5 : IntKind.i64.wrap ((z : Int) + 1) = ((z + 1 : Nat) : Int) := by rw [wrap_i64 (by omega) (by omega)]; rfl
        have ew6 : IntKind.i64.wrap ((z : Int) - 1) = (y : Int) := by rw [wrap_i64 (by omega) (by omega)]; omega
        have c5 : (0 : Int) ≤ (z : Int) ∧ Int.toNat (z : Int) < M.length := by omega
        have c6 : (0 : Int) ≤ (y : Int) ∧ Int.toNat (y : Int) < M.length := by omega
        have hle : M[y].seq ≤ M[z].seq := by
          have := List.pairwise_iff_getElem.1 hmr y z (by rw [List.length_map]; exact hly) (by rw [List.length_map]; exact hlt5) (by omega)
          simpa using this
        have hd : decide (M[z].seq < M[y].seq) = false := decide_eq_false (by omega)
        try simp (maxSteps := 1000000) only [go_skip, go_seq, go_block, go_draws, condK_t]
        refine draw_rule tyOk (by rfl) (by simp only [List.length_nil, Nat.le_refl]) (by kernel_rfl) rfl ?_
        try simp (maxSteps := 1000000) only [go_cond, callOf, fstep0, fbinA, fbin, fbin0, fload, fcell, ffieldAddr, findexAddr, T, TI.isAgg, St.ev, St.put, AV.cells, AV.known, List.getD_cons_zero, List.getD_cons_succ, List.set, List.length_cons, List.length_nil, List.drop_succ_cons, List.drop_zero, List.headD_cons, List.append_nil, List.getElem?_cons_zero, List.getElem?_cons_succ, List.replicate, List.getElem?_toArray, true_and, and_true, Bool.and_true, Bool.true_and, Bool.false_eq_true, ↓reduceIte, reduceCtorEq, ne_eq, not_false_eq_true, Nat.reduceAdd, Nat.reduceLT, Nat.add_zero, Nat.zero_add, newCount, drawR_nil, drawR_op, drawP_none, drawQ_some, dstep, isFree, St.app, bump, isNew, eg5, eg6, c5, c6, ew6, evts_len]
        refine ⟨by kernel_rfl, ?_⟩
        try simp (maxSteps := 1000000) only [go_nil, go_skip, go_region, go_blk, go_ops_nil, go_op, opK_none, contK_some, condK_f, callOf, fstep, fpre, fstep0, fbinA, fbin, fbin0, St.ev, St.put, List.getD_cons_zero, List.getD_cons_succ, List.set, true_and, Bool.true_and, hd, ew5]
        simp only [loopX_normal, St.trunc, St.keep, truncVs, truncV, keepV, List.elem_cons, List.elem_nil, List.take_zero, List.map_nil, Nat.reduceAdd, Nat.reduceBEq, Nat.zero_add, Bool.false_eq_true, ↓reduceIte]
        exact ⟨z + 1, ⟨by omega, by omega⟩, by omega, rfl⟩
      · have hq : (((M.length : Nat) : Int) == ((mn : Nat) : Int)) = true := by rw [hml]; simp
        try simp (maxSteps := 1000000) only [go_region, go_seq, go_exit, go_ret, exitK_code, exitK_blk, exitK_nil, go_ops_nil, go_op, opK_none, contK_some, condK_f, callOf, fstep, fpre, fstep0, fbinA, fbin, fbin0, flen, T, St.ev, St.put, List.getD_cons_zero, List.getD_cons_succ, List.set, true_and, Bool.true_and, ↓reduceIte, loopX_exit, evts_len, hq]
        apply hK
        simp only [Try.results5, retK, ares, List.take_nil, Bool.and_true, Bool.true_and, AV.ofResults, St.trunc, truncVs, truncV, List.getD_cons_zero, List.getD_cons_succ, List.map_nil, true_and, and_true, List.cons.injEq, exists_eq_left']
def shapesFeedRises : List (Bool × List Lf) := [(false, [.sl 1 false [.sl 1 false [.int .u64]]])]
theorem shapesFeedRises_ok : argShapes T 6 [43] = some shapesFeedRises := by kernel_rfl
theorem fits_nums {ys : List AV} (h : ∀ y ∈ ys, ∃ zs, fitsAll [.int .u64] zs ∧ y = pack false zs) : ∃ l : List Int, ys = nums l := by
  induction ys with
  | nil => exact ⟨[], rfl⟩
  | cons y ys ih =>
    obtain ⟨l, rfl⟩ := ih (fun z hz => h z (List.mem_cons_of_mem _ hz))
    obtain ⟨zs, ⟨_, _, rfl, ⟨a, rfl, _⟩, rfl⟩, rfl⟩ := h y List.mem_cons_self
    exact ⟨a :: l, rfl⟩
theorem fits_nrows {ys : List AV} (h : ∀ y ∈ ys, ∃ zs, fitsAll [.sl 1 false [.int .u64]] zs ∧ y = pack false zs) : ∃ R : List (List Int), ys = nrows R ∧ ∀ r ∈ R, r.length ≤ maxLen := by
  induction ys with
  | nil => exact ⟨[], rfl, fun r hr => by cases hr⟩
  | cons y ys ih =>
    obtain ⟨R, rfl, hR⟩ := ih (fun z hz => h z (List.mem_cons_of_mem _ hz))
    obtain ⟨zs, ⟨_, _, rfl, ⟨vs, rfl, hl, hvs⟩, rfl⟩, rfl⟩ := h y List.mem_cons_self
    obtain ⟨l, rfl⟩ := fits_nums hvs
    refine ⟨l :: R, rfl, fun r hr => ?_⟩
    rcases List.mem_cons.1 hr with rfl | hr
    · rwa [nums_len] at hl
    · exact hR r hr
theorem law_FeedRises (xs : List AV) (h : argsFit shapesFeedRises xs) : PCall P 5 xs (fun x => x = .v (.bool true)) := by
  obtain ⟨_, _, rfl, ⟨_, _, rfl, ⟨ys, rfl, hlen, hys⟩, rfl⟩, rfl⟩ := h
  obtain ⟨R, rfl, hR⟩ := fits_nrows hys
  rw [nrows_len] at hlen
  exact law_rises R hlen hR
end Go.Proofs.Ytljgfapbbhbbpaa
namespace Go.Proofs.Ytljgfapbbhbbpaa.feedRises
open Go.ChangeShapes Go.WideShapes Go.ChangeAt Go.RowKit Go.Proofs.Ytljgfapbbhbbpaa.Sym
open Go.ChangeMaps (open_string shut_string)
set_option linter.unusedVariables false
theorem own : ownKnob Try.prog.godebug = none := by kernel_rfl
theorem laidOut : laidOutB Try.prog = true := by kernel_rfl
set_option maxRecDepth 100000 in
theorem lifted (os : Os) (started : os.Started) (H : Type) (enc : TypeId × Value → H) :
    ReturnsInHanded {} Try.checked os 5 .any (Rows.feedRisesSpec.pre6 enc Try.prog Try.f5 Rows.feedRisesRow.domain false) (Rows.feedRisesSpec.post enc Try.prog Try.f5 false true false false) := by
  refine returnsInHanded_of_change_sized (C := Try.checked) own started (by kernel_rfl) Try.func5
    (ChangeSpec.witness6 (enc := enc) (C := Try.checked) false ⟨#[], #[.slice none 0 0], []⟩ 8 (by kernel_rfl) (by kernel_rfl) (by kernel_rfl) (by kernel_rfl)) ?_
  intro W base args ds gs before hval0 hW hcnd hsz0 _
  have hval : ∀ (j : Nat) t v, Try.f5.params[j]? = some t → args[j]? = some v → Value.okWide Try.prog W .any base t v := hval0
  have hW' := hW
  obtain ⟨p, q, hA0, hV, rfl, hfz, hnd⟩ := hW
  have hA : DataW.TrodAll enc Try.prog W 0 (fun _ => true) true Try.f5.params.toList args.toList ds p := hA0
  have hval2 : ∀ (j : Nat) t v, Try.f5.params.toList[j]? = some t → args.toList[j]? = some v → Value.okWide Try.prog W .any base t v := fun j t v h1 h2 => hval j t v (by simpa using h1) (by simpa using h2)
  rw [Try.params5] at hA hval2
  obtain ⟨xs, hfit, hrel⟩ := open_args tyOk _ _ _ _ _ shapesFeedRises_ok hval2 hA
  obtain ⟨v0, vs0, d0, ds0, p0, q0, hargs, rfl, rfl, h0, r0⟩ := trodAll_cons hA
  obtain ⟨rfl, rfl, rfl⟩ := trodAll_nil r0
  obtain rfl : args = #[v0] := by cases args; simp_all
  obtain ⟨rfl, rfl⟩ := trodVars_none hV
  have k0 := h0
  have lt0 : ∀ x ∈ p0, x.block < W.heap.size := by obtain ⟨m, hm⟩ := k0; exact DataW.trod_lt m _ _ _ hm
  clear hA0 hval0 hsz0 hval hval2
  refine (PCall.calls (law_FeedRises xs hfit) hrel (fun _ _ h => by cases h)).mono ?_
  rintro e W' ⟨y, x, rfl, rfl, hy, bel⟩
  obtain rfl := hy _ rfl
  exact ⟨_, rfl, _, _, _, [], _, [], hW', trodAll_mk1 (shut_bool Try.underlying4 _), (trodAll_cons_mk (Below.trod laidOut (by kernel_rfl) (of_decide_eq_true (by kernel_rfl)) k0 bel lt0) trodAll_mk0), rfl, bel.frame _, fun h => by cases h⟩
theorem over : Rows.feedRisesRow.holds Try.pinned (OpenSpec.ofChange Rows.feedRisesSpec) :=
  OpenClaim.holds_of_wide 5 Try.f5 rfl rfl rfl rfl rfl rfl rfl ⟨rfl, rfl, rfl, rfl, rfl⟩ rfl rfl rfl rfl rfl (by kernel_rfl) Try.func5 (by kernel_rfl)
    (of_decide_eq_true (by kernel_rfl)) (by unfold Func.isWrapper; first | (rw [if_pos (by decide +kernel)]; kernel_rfl) | (rw [if_neg (by decide +kernel)]; exact ⟨rfl, rfl⟩))
    (fun os started H enc _ => lifted os started H enc)
theorem proved : Rows.FeedRisesSaid := over
#print axioms proved
end Go.Proofs.Ytljgfapbbhbbpaa.feedRises
namespace Go.Proofs.Ytljgfapbbhbbpaa
/-- The row, under a short name, for the claim. -/
theorem feedRises_holds : Rows.FeedRisesSaid := feedRises.proved
end Go.Proofs.Ytljgfapbbhbbpaa
