/- OmapNumbers. -/
import Derived.Test.YtfkpjdcjjfpigaaOmap
namespace Go.Proofs.Ytfkpjdcjjfpigaa
open Go Go.Proofs.Ytfkpjdcjjfpigaa.Sym
set_option maxRecDepth 100000
set_option linter.unusedSimpArgs false
set_option linter.unusedVariables false

theorem rises_ext {α : Type} {lt : α → α → Bool} (O : StrictOrd lt) : ∀ {a b : List α}, Rises lt a → Rises lt b → (∀ k, k ∈ a ↔ k ∈ b) → a = b
  | [], [], _, _, _ => rfl
  | [], y :: b, _, _, h => absurd ((h y).2 List.mem_cons_self) (by simp)
  | x :: a, [], _, _, h => absurd ((h x).1 List.mem_cons_self) (by simp)
  | x :: a, y :: b, ha, hb, h => by
    have pa := List.pairwise_cons.1 ha
    have pb := List.pairwise_cons.1 hb
    have hxy : x = y := by
      rcases List.mem_cons.1 ((h x).1 List.mem_cons_self) with e | e
      · exact e
      · rcases List.mem_cons.1 ((h y).2 List.mem_cons_self) with e2 | e2
        · exact e2.symm
        · have := O.trans _ _ _ (pa.1 y e2) (pb.1 x e)
          rw [O.irrefl] at this; cases this
    subst hxy
    congr 1
    refine rises_ext O pa.2 pb.2 fun k => ?_
    constructor
    · intro hk
      rcases List.mem_cons.1 ((h k).1 (List.mem_cons_of_mem _ hk)) with rfl | e
      · have := pa.1 k hk; rw [O.irrefl] at this; cases this
      · exact e
    · intro hk
      rcases List.mem_cons.1 ((h k).2 (List.mem_cons_of_mem _ hk)) with rfl | e
      · have := pb.1 k hk; rw [O.irrefl] at this; cases this
      · exact e

abbrev Mn := List (Int × Int)
def genF (l : List Int) (idx : Nat → Nat) : Nat → Mn
  | 0 => []
  | i + 1 => withG ltI eqI (genF l idx i) (l.getD (idx i) 0) (idx i : Int)
def scanN (l : List Int) (idx : Nat → Nat) (k : Int) : Nat → Int
  | 0 => -1
  | i + 1 => if l.getD (idx i) 0 = k then (idx i : Int) else scanN l idx k i
theorem gen_ok (l : List Int) (idx : Nat → Nat) : ∀ i, rises_ui (genF l idx i) ∧ (genF l idx i).length ≤ i
  | 0 => ⟨List.Pairwise.nil, Nat.le_refl _⟩
  | i + 1 => ⟨with_rises ordI eqI_iff (gen_ok l idx i).1 _ _, Nat.le_trans (with_len _ _ _) (by have := (gen_ok l idx i).2; omega)⟩
theorem gen_mem (l : List Int) (idx : Nat → Nat) (p : Int × Int) : ∀ i, p ∈ genF l idx i ↔ 0 ≤ scanN l idx p.1 i ∧ p.2 = scanN l idx p.1 i
  | 0 => by simp [genF, scanN]
  | i + 1 => by
    rw [genF, mem_with ordI eqI_iff (gen_ok l idx i).1, gen_mem l idx p i, scanN]
    obtain ⟨k, v⟩ := p
    by_cases h : l.getD (idx i) 0 = k
    · rw [if_pos h]
      simp only [h, Prod.mk.injEq, true_and, ne_eq, not_true_eq_false, and_false, or_false]
      constructor
      · rintro rfl; exact ⟨by omega, rfl⟩
      · exact fun h => h.2
    · rw [if_neg h]
      simp only [Prod.mk.injEq]
      constructor
      · rintro (⟨h1, _⟩ | ⟨h1, _⟩)
        · exact absurd h1.symm h
        · exact h1
      · exact fun h1 => .inr ⟨h1, fun h2 => h h2.symm⟩
theorem scan_iff (l : List Int) (idx : Nat → Nat) (k : Int) : ∀ i, 0 ≤ scanN l idx k i ↔ ∃ j, j < i ∧ l.getD (idx j) 0 = k
  | 0 => by simp [scanN]
  | i + 1 => by
    rw [scanN]
    split
    · rename_i h
      exact ⟨fun _ => ⟨i, by omega, h⟩, fun _ => by omega⟩
    · rename_i h
      rw [scan_iff l idx k i]
      constructor
      · rintro ⟨j, h1, h2⟩; exact ⟨j, by omega, h2⟩
      · rintro ⟨j, h1, h2⟩
        refine ⟨j, ?_, h2⟩
        rcases Nat.lt_succ_iff_lt_or_eq.1 h1 with h3 | rfl
        · exact h3
        · exact absurd h2 h
theorem gen_get (l : List Int) (idx : Nat → Nat) {k : Int} {i : Nat} (h : 0 ≤ scanN l idx k i) : getG ltI eqI 0 (genF l idx i) k = (scanN l idx k i, true) :=
  get_mem ordI eqI_iff (gen_ok l idx i).1 ((gen_mem l idx (k, scanN l idx k i) i).2 ⟨h, rfl⟩)
theorem gen_key (l : List Int) (idx : Nat → Nat) (k : Int) (i : Nat) : k ∈ (genF l idx i).map Prod.fst ↔ 0 ≤ scanN l idx k i := by
  rw [List.mem_map]
  constructor
  · rintro ⟨p, hp, rfl⟩; exact ((gen_mem l idx p i).1 hp).1
  · intro h; exact ⟨(k, _), (gen_mem l idx (k, scanN l idx k i) i).2 ⟨h, rfl⟩, rfl⟩
def rev (l : List Int) (i : Nat) : Nat := l.length - 1 - i
theorem key_same (l : List Int) (k : Int) : 0 ≤ scanN l id k l.length ↔ 0 ≤ scanN l (rev l) k l.length := by
  rw [scan_iff, scan_iff]
  constructor
  · rintro ⟨j, h1, h2⟩
    refine ⟨l.length - 1 - j, by omega, ?_⟩
    rw [rev, show l.length - 1 - (l.length - 1 - j) = j by omega]
    exact h2
  · rintro ⟨j, h1, h2⟩
    exact ⟨rev l j, by rw [rev]; omega, h2⟩
theorem gen_keys (l : List Int) : (genF l id l.length).map Prod.fst = (genF l (rev l) l.length).map Prod.fst :=
  rises_ext ordI (gen_ok l id _).1 (gen_ok l (rev l) _).1 fun k => by rw [gen_key, gen_key, key_same]
theorem gen_len (l : List Int) : (genF l (rev l) l.length).length = (genF l id l.length).length := by
  have := congrArg List.length (gen_keys l)
  rw [List.length_map, List.length_map] at this
  exact this.symm
def firstN (l : List Int) (k : Int) : Nat → Int
  | 0 => -1
  | n + 1 => if l.getD n 0 = k then (if firstN l k n < 0 then (n : Int) else firstN l k n) else firstN l k n
theorem first_neg (l : List Int) (k : Int) : ∀ n, firstN l k n < 0 → firstN l k n = -1
  | 0, _ => rfl
  | n + 1, h => by
    rw [firstN] at h ⊢
    split
    · rename_i h1
      rw [if_pos h1] at h
      split
      · rename_i h2; rw [if_pos h2] at h; omega
      · rename_i h2; rw [if_neg h2] at h; exact absurd h h2
    · rename_i h1
      rw [if_neg h1] at h
      exact first_neg l k n h
theorem first_rev (l : List Int) (k : Int) : ∀ i, i ≤ l.length → firstN l k l.length = if firstN l k (l.length - i) < 0 then scanN l (rev l) k i else firstN l k (l.length - i)
  | 0, _ => by
    rw [Nat.sub_zero]
    split
    · rename_i h; rw [first_neg _ _ _ h]; rfl
    · rfl
  | i + 1, h => by
    obtain ⟨n, hn⟩ : ∃ n, l.length - i = n + 1 := ⟨l.length - i - 1, by omega⟩
    have ih := first_rev l k i (by omega)
    have e1 : l.length - (i + 1) = n := by omega
    have e2 : rev l i = n := by rw [rev]; omega
    rw [ih, hn, e1, scanN, e2, firstN]
    by_cases h1 : l.getD n 0 = k
    · rw [if_pos h1, if_pos h1]
      by_cases h2 : firstN l k n < 0
      · rw [if_pos h2, if_neg (by omega)]
      · rw [if_neg h2, if_neg h2]
    · rw [if_neg h1, if_neg h1]
theorem first_eq (l : List Int) (k : Int) : firstN l k l.length = scanN l (rev l) k l.length := by
  rw [first_rev l k l.length (Nat.le_refl _), Nat.sub_self, firstN, if_pos (by decide)]

def nums (l : List Int) : List AV := l.map fun n => u64 n
theorem nums_len (l : List Int) : (nums l).length = l.length := by simp [nums]
theorem num_idx {l : List Int} {i : Nat} (h : i < l.length) : (nums l).getD (Int.toNat (i : Int)) .any = u64 (l.getD i 0) := by
  rw [nums, at_map h, List.getD_eq_getElem?_getD, List.getElem?_eq_getElem h]; rfl
theorem fits_nums {ys : List AV} (h : ∀ y ∈ ys, ∃ zs, fitsAll [.int .u64] zs ∧ y = pack false zs) : ∃ l : List Int, ys = nums l := by
  induction ys with
  | nil => exact ⟨[], rfl⟩
  | cons y ys ih =>
    obtain ⟨l, rfl⟩ := ih (fun z hz => h z (List.mem_cons_of_mem _ hz))
    obtain ⟨zs, ⟨x, r, rfl, ⟨n, rfl, hn⟩, rfl⟩, rfl⟩ := h y List.mem_cons_self
    exact ⟨n :: l, rfl⟩
theorem keys_get {M : Mn} {i : Nat} (h : i < M.length) : (M.map fun p => u64 p.1).getD (Int.toNat (i : Int)) .any = u64 ((M.map Prod.fst).getD i 0) := by
  rw [at_map h, List.getD_eq_getElem?_getD, List.getElem?_map, List.getElem?_eq_getElem h]; rfl
abbrev nbox (m : Mn) : AB := .box [.sl 1 (m.map fun p => u64 p.1), .sl 1 (m.map fun p => i64 p.2)]
set_option maxHeartbeats 1000000 in
theorem law_numbers (l : List Int) (hl : l.length ≤ maxLen) :
    PCall P 6 [.sl 1 (nums l)] (fun x => x = .v (.bool true)) := by
  refine pcall_go tyOk Try.func6 rfl rfl ?_
  intro K hK
  simp only [Try.ntmps6, List.length_cons, List.length_nil, Nat.reduceAdd, Nat.reduceSub, List.replicate, List.cons_append, List.nil_append]
  try simp (maxSteps := 1000000) only [go_region, go_seq, go_ops_nil, go_op, opK_none, opK_some, contK_some, callOf, callK_eq, callJ_nil, callD_fn, fstep, fpre, fstep0, evs, St.ev, St.put, ownersAll, List.set, List.append_nil, true_and, Bool.true_and]
  (refine callG_use law04_awake rfl ?_; rintro _ rfl)
  try simp (maxSteps := 1000000) only [go_cond, go_ops_nil, go_op, go_guard, opK_none, contK_some, guardK_eq, guardV_ff, callOf, fstep, fpre, fstep0, fbinA, fbin, fbin0, funary, flen, fpick, T, St.ev, St.put, List.getD_cons_zero, List.getD_cons_succ, List.set, List.getElem?_cons_zero, List.getElem?_cons_succ, Option.bind_some, List.getElem?_toArray, true_and, Bool.true_and, Bool.not_true, cond_false, nums_len]
  (first | refine guardV_split ?_ ?_ | refine condK_split ?_ ?_ | refine drawV_split ?_ ?_ | refine condY_split ?_ ?_ | refine guardY_split ?_ ?_) <;> intro h0
  · try simp (maxSteps := 1000000) only [go_region, go_seq, go_op, opK_some, condK_t, callOf, callK_eq, callJ_nil, callD_fn, evs, St.ev, ownersAll, List.append_nil]
    (refine callG_use law04_awake rfl ?_; rintro _ rfl)
    try simp (maxSteps := 1000000) only [go_ret, go_ops_nil, go_op, opK_none, contK_some, callOf, fstep, fpre, fstep0, St.ev, St.put, List.getD_cons_zero, List.getD_cons_succ, List.set, true_and, Bool.true_and]
    apply hK
    simp only [Try.results6, retK, ares, List.take_nil, Bool.and_true, Bool.true_and, AV.ofResults, St.trunc, truncVs, truncV, List.getD_cons_zero, List.getD_cons_succ, List.map_nil, true_and, and_true, List.cons.injEq, exists_eq_left']
  have hlen : l.length ≤ 200 := by have : ¬ ((200 : Int) < l.length) := by simpa using h0
                                   omega
  try simp (maxSteps := 1000000) only [go_skip, go_region, go_seq, go_block, go_loop, go_ops_nil, go_op, opK_none, contK_some, condK_f, callOf, fstep, fpre, fstep0, T, St.ev, St.put, List.set, List.map_cons, List.map_nil, List.length_cons, List.length_nil, List.cons_append, List.nil_append, true_and, Bool.true_and, Nat.zero_add]
  refine loopK_ruleT tyOk (α := Nat) 2 [0, 3, 4, 5] (fun i => i ≤ l.length)
    (fun i => ⟨[.sl 1 (nums l), .any, .any, .ptr 0 0, .ptr 1 0, i64 i, .any, .any, .any, .any, .any, .any, .any, .any, .any, .any, .any, .any, .any, .any, .any, .any, .any, .any, .any, .any, .any, .any, .any, .any, .any, .any, .any, .any, .any, .any, .any, .any, .any, .any, .any, .any, .any, .any, .any, .any, .any, .any, .any, .any, .any, .any, .any, .any, .any, .any, .any, .any, .any, .any, .any, .any, .any, .any, .any, .any, .any, .any, .any, .any, .any, .any, .any, .any, .any, .any, .any, .any, .any, .any, .any, .any, .any, .any, .any, .any, .any, .any, .any, .any, .any, .any, .any, .any, .any, .any, .any, .any, .any, .any, .any, .any, .any, .any, .any, .any, .any, .any, .any, .any, .any, .any, .any, .any, .any, .any, .any, .any, .any, .any, .any, .any, .any, .any, .any, .any, .any, .any, .any, .any, .any, .any, .any, .any, .any, .any, .any, .any], [nbox (genF l id i), nbox (genF l (rev l) i)]⟩)
    (fun i => l.length - i) 0 (Nat.zero_le _) (Nat.zero_le _) (Turns.weak (weaks_refl _) ⟨_, _, rfl, ⟨_, rfl, _, _, rfl, weak_nil 1, _, _, rfl, weak_nil 1, rfl⟩, _, _, rfl, ⟨_, rfl, _, _, rfl, weak_nil 1, _, _, rfl, weak_nil 1, rfl⟩, rfl⟩) ?_
  intro i hi
  try simp (maxSteps := 1000000) only [go_region, go_seq, go_cond, go_ops_nil, go_op, opK_none, contK_some, callOf, fstep, fpre, fstep0, fbinA, fbin, fbin0, flen, T, St.ev, St.put, List.getD_cons_zero, List.getD_cons_succ, List.set, true_and, Bool.true_and, nums_len]
  (first | refine guardV_split ?_ ?_ | refine condK_split ?_ ?_ | refine drawV_split ?_ ?_ | refine condY_split ?_ ?_ | refine guardY_split ?_ ?_) <;> intro h
  · have hlt : i < l.length := by simpa using h
    have hm := gen_ok l id i
    have ht := gen_ok l (rev l) i
    have eg := num_idx hlt
    have ew : IntKind.i64.wrap ((i : Int) + 1) = ((i + 1 : Nat) : Int) := by rw [wrap_i64 (by omega) (by omega)]; rfl
    have c1 : (0 : Int) ≤ (i : Int) ∧ Int.toNat (i : Int) < l.length := by omega
    have ew2 : IntKind.i64.wrap ((l.length : Int) - 1) = ((l.length - 1 : Nat) : Int) := by rw [wrap_i64 (by omega) (by omega)]; omega
    have ew3 : IntKind.i64.wrap (((l.length - 1 : Nat) : Int) - (i : Int)) = ((rev l i : Nat) : Int) := by rw [wrap_i64 (by omega) (by omega), rev]; omega
    have hrl : rev l i < l.length := by rw [rev]; omega
    have eg2 := num_idx hrl
    have c2 : (0 : Int) ≤ ((rev l i : Nat) : Int) ∧ Int.toNat ((rev l i : Nat) : Int) < l.length := by omega
    try simp (maxSteps := 1000000) only [go_skip, go_seq, go_block, go_draws, condK_t]
    refine draw_rule tyOk (by rfl) (by simp only [List.length_cons, List.length_nil, Nat.reduceAdd, Nat.zero_le]) (by kernel_rfl) rfl ?_
    try simp (maxSteps := 1000000) only [callOf, fstep0, newF, fload, fcell, findexAddr, evs, T, TI.isAgg, St.ev, St.put, AV.cells, AV.known, Value.cells, List.getD_cons_zero, List.getD_cons_succ, List.set, List.map_cons, List.map_nil, List.length_cons, List.length_nil, List.drop_zero, List.take_succ_cons, List.take_zero, List.headD_cons, List.append_nil, List.getElem?_cons_zero, List.replicate, true_and, and_true, Bool.and_true, Bool.true_and, Bool.or_false, Bool.false_eq_true, ↓reduceIte, Nat.reduceAdd, Nat.reduceLT, Nat.le_refl, Nat.add_zero, Nat.zero_add, Nat.reduceBEq, newCount, drawR_op, drawP_none, drawP_some, drawQ_some, drawH_fn, dstep, isFree, St.app, bump, isNew, eg, c1, nums_len]
    refine drawCall_use (with_call_ui (genF l id i) (l.getD i 0) i hm.1 (by omega)) rfl ?_
    try simp (maxSteps := 1000000) only [go_draws, callOf, newF, T, St.ev, St.put, splice, AV.cells, AV.known, AV.flat, List.getD_cons_zero, List.getD_cons_succ, List.set, List.length_cons, List.length_nil, List.all_cons, List.all_nil, List.drop_succ_cons, List.drop_zero, List.take_zero, List.nil_append, List.append_nil, List.getElem?_cons_zero, true_and, and_true, Bool.and_true, Bool.true_and, Bool.and_self, Bool.or_false, Bool.false_eq_true, ↓reduceIte, Nat.reduceAdd, Nat.le_refl, Nat.zero_add, Nat.reduceBEq, drawR_nil, drawR_op, drawP_none, drawQ_some, dstep, isFree, dstore, St.app, bump, isNew, map_ui]
    refine ⟨by kernel_rfl, ?_⟩
    skip
    refine draw_rule tyOk (by rfl) (by simp only [List.length_cons, List.length_nil, Nat.reduceAdd, Nat.zero_le]) (by kernel_rfl) rfl ?_
    try simp (maxSteps := 1000000) only [callOf, fstep0, fbinA, newF, fbin, fbin0, fload, fcell, findexAddr, flen, evs, T, TI.isAgg, St.ev, St.put, AV.cells, AV.known, Value.cells, List.getD_cons_zero, List.getD_cons_succ, List.set, List.map_cons, List.map_nil, List.length_cons, List.length_nil, List.drop_zero, List.take_succ_cons, List.take_zero, List.headD_cons, List.append_nil, List.getElem?_cons_zero, List.getElem?_cons_succ, List.replicate, true_and, and_true, Bool.and_true, Bool.true_and, Bool.or_false, Bool.false_eq_true, ↓reduceIte, Nat.reduceAdd, Nat.reduceLT, Nat.le_refl, Nat.add_zero, Nat.zero_add, Nat.reduceBEq, newCount, drawR_op, drawP_none, drawP_some, drawQ_some, drawH_fn, dstep, isFree, St.app, bump, isNew, nums_len, ew2, ew3, eg2, c2]
    refine drawCall_use (with_call_ui (genF l (rev l) i) (l.getD (rev l i) 0) (rev l i) ht.1 (by omega)) rfl ?_
    try simp (maxSteps := 1000000) only [go_nil, go_region, go_blk, go_ops_nil, go_op, opK_none, contK_some, callOf, fstep, fpre, fstep0, fbinA, newF, fbin, fbin0, T, St.ev, St.put, splice, AV.cells, AV.known, AV.flat, List.getD_cons_zero, List.getD_cons_succ, List.set, List.length_cons, List.length_nil, List.all_cons, List.all_nil, List.drop_succ_cons, List.drop_zero, List.take_zero, List.nil_append, List.append_nil, List.getElem?_cons_zero, List.getElem?_cons_succ, true_and, and_true, Bool.and_true, Bool.true_and, Bool.and_self, Bool.or_false, Bool.false_eq_true, ↓reduceIte, Nat.reduceAdd, Nat.le_refl, Nat.zero_add, Nat.reduceBEq, drawR_nil, drawR_op, drawP_none, drawQ_some, dstep, isFree, dstore, St.app, bump, isNew, map_ui]
    refine ⟨by kernel_rfl, ?_⟩
    try simp (maxSteps := 1000000) only [ew]
    simp only [loopT_normal, St.trunc, St.keep, truncVs, truncV, AB.trunc, keepV, List.elem_cons, List.elem_nil, List.take_succ_cons, List.take_zero, List.map_cons, List.map_nil, Nat.reduceAdd, Nat.reduceBEq, Nat.reduceLeDiff, Nat.zero_add, Bool.false_eq_true, ↓reduceIte]
    exact ⟨i + 1, hlt, by omega, Turns.refl _⟩
  · obtain rfl := at_end hi h
    have hm := gen_ok l id l.length
    have ht := gen_ok l (rev l) l.length
    have hml := gen_len l
    have hkey := fun k => gen_key l id k l.length
    have hget := fun k h => gen_get l id (k := k) (i := l.length) h
    have hgetT := fun k h => gen_get l (rev l) (k := k) (i := l.length) h
    obtain ⟨M, hM⟩ : ∃ M, genF l id l.length = M := ⟨_, rfl⟩
    obtain ⟨T', hT⟩ : ∃ T', genF l (rev l) l.length = T' := ⟨_, rfl⟩
    rw [hM] at hm hml
    rw [hT] at ht hml
    simp only [hM] at hkey hget
    simp only [hT] at hgetT
    rw [hM, hT]
    have lme : (M.map fun p => u64 p.1).length = M.length := List.length_map ..
    try simp (maxSteps := 1000000) only [go_region, go_seq, go_exit, exitK_code, exitK_blk, exitK_nil, go_op, opK_none, opK_some, contK_some, condK_f, callOf, callK_eq, callJ_nil, callD_fn, fstep, fpre, fstep0, fload, fcell, evs, T, TI.isAgg, St.ev, St.put, AV.owners, ownersAll, List.getD_cons_zero, List.getD_cons_succ, List.set, List.length_cons, List.length_nil, List.drop_zero, List.take_succ_cons, List.take_zero, List.append_nil, List.getElem?_cons_zero, true_and, Bool.true_and, ↓reduceIte, Nat.reduceAdd, Nat.le_refl, Nat.zero_add, loopT_exit]
    (refine callG_use (keys_call_ui M (by omega)) rfl ?_; rintro _ rfl)
    try simp (maxSteps := 1000000) only [go_region, go_seq, go_block, go_loop, go_ops_nil, go_op, opK_none, contK_some, callOf, fstep, fpre, fstep0, St.ev, St.put, List.getD_cons_zero, List.getD_cons_succ, List.set, true_and, Bool.true_and]
    refine loopK_rule tyOk (α := Nat) 2 [0, 3, 4, 6, 7] (fun i => i ≤ M.length)
      (fun i => ⟨[.sl 1 (nums l), .any, .any, .ptr 0 0, .ptr 1 0, .any, .sl 1 (M.map fun p => u64 p.1), i64 i, .any, .any, .any, .any, .any, .any, .any, .any, .any, .any, .any, .any, .any, .any, .any, .any, .any, .any, .any, .any, .any, .any, .any, .any, .any, .any, .any, .any, .any, .any, .any, .any, .any, .any, .any, .any, .any, .any, .any, .any, .any, .any, .any, .any, .any, .any, .any, .any, .any, .any, .any, .any, .any, .any, .any, .any, .any, .any, .any, .any, .any, .any, .any, .any, .any, .any, .any, .any, .any, .any, .any, .any, .any, .any, .any, .any, .any, .any, .any, .any, .any, .any, .any, .any, .any, .any, .any, .any, .any, .any, .any, .any, .any, .any, .any, .any, .any, .any, .any, .any, .any, .any, .any, .any, .any, .any, .any, .any, .any, .any, .any, .any, .any, .any, .any, .any, .any, .any, .any, .any, .any, .any, .any, .any, .any, .any, .any, .any, .any, .any], [nbox M, nbox T']⟩)
      (fun i => M.length - i) 0 (Nat.zero_le _) (Nat.zero_le _) rfl ?_
    intro i hi
    try simp (maxSteps := 1000000) only [go_region, go_seq, go_cond, go_ops_nil, go_op, opK_none, contK_some, callOf, fstep, fpre, fstep0, fbinA, fbin, fbin0, flen, T, St.ev, St.put, List.getD_cons_zero, List.getD_cons_succ, List.set, true_and, Bool.true_and, lme]
    (first | refine guardV_split ?_ ?_ | refine condK_split ?_ ?_ | refine drawV_split ?_ ?_ | refine condY_split ?_ ?_ | refine guardY_split ?_ ?_) <;> intro h2
    · have hlt : i < M.length := by simpa using h2
      have eg := keys_get hlt
      have ew : IntKind.i64.wrap ((i : Int) + 1) = ((i + 1 : Nat) : Int) := by rw [wrap_i64 (by omega) (by omega)]; rfl
      have c1 : (0 : Int) ≤ (i : Int) ∧ Int.toNat (i : Int) < M.length := by omega
      have hkin : (M.map Prod.fst).getD i 0 ∈ M.map Prod.fst := by
        rw [List.getD_eq_getElem?_getD, List.getElem?_eq_getElem (by simpa using hlt)]
        exact List.getElem_mem _
      by_cases hi0 : i = 0
      · have d0 : decide ((0 : Int) < (i : Int)) = false := by simp; omega
        try simp (maxSteps := 1000000) only [go_skip, go_seq, go_block, go_draws, condK_t]
        refine draw_rule tyOk (by rfl) (by simp only [List.length_cons, List.length_nil, Nat.reduceAdd, Nat.zero_le]) (by kernel_rfl) rfl ?_
        try simp (maxSteps := 1000000) only [go_skip, go_region, go_seq, go_cond, go_block, go_loop, go_ops_nil, go_op, opK_none, contK_some, condK_f, undef, callOf, fstep, fpre, fstep0, fbinA, fbin, fbin0, fpick, St.ev, St.put, List.getD_cons_zero, List.getD_cons_succ, List.set, List.length_cons, List.length_nil, List.append_nil, List.getElem?_cons_zero, List.getElem?_cons_succ, List.replicate, Option.bind_some, List.getElem?_toArray, true_and, Bool.true_and, Bool.false_eq_true, ↓reduceIte, Nat.reduceAdd, Nat.add_zero, Nat.zero_add, newCount, drawR_nil, drawR_op, drawR_guard, drawW_some, drawV_ft, drawP_none, drawQ_some, dstep, isFree, St.app, bump, isNew, d0]
        refine ⟨by kernel_rfl, ?_⟩
        generalize hkk : (M.map Prod.fst).getD i 0 = kk at *
        have hk1 : 0 ≤ scanN l id kk l.length := (hkey kk).1 hkin
        have hk2 : 0 ≤ scanN l (rev l) kk l.length := (key_same l kk).1 hk1
        have hg1 := hget kk hk1
        have hg2 := hgetT kk hk2
        have hfe := first_eq l kk
        skip
        refine loopK_rule tyOk (α := Nat) 2 [0, 3, 4, 6, 7, 8, 9, 10] (fun n => n ≤ l.length)
          (fun n => ⟨[.sl 1 (nums l), .any, .any, .ptr 0 0, .ptr 1 0, .any, .sl 1 (M.map fun p => u64 p.1), i64 i, i64 (scanN l id kk n), i64 (firstN l kk n), i64 n, .any, .any, .any, .any, .any, .any, .any, .any, .any, .any, .any, .any, .any, .any, .any, .any, .any, .any, .any, .any, .any, .any, .any, .any, .any, .any, .any, .any, .any, .any, .any, .any, .any, .any, .any, .any, .any, .any, .any, .any, .any, .any, .any, .any, .any, .any, .any, .any, .any, .any, .any, .any, .any, .any, .any, .any, .any, .any, .any, .any, .any, .any, .any, .any, .any, .any, .any, .any, .any, .any, .any, .any, .any, .any, .any, .any, .any, .any, .any, .any, .any, .any, .any, .any, .any, .any, .any, .any, .any, .any, .any, .any, .any, .any, .any, .any, .any, .any, .any, .any, .any, .any, .any, .any, .any, .any, .any, .any, .any, .any, .any, .any, .any, .any, .any, .any, .any, .any, .any, .any, .any, .any, .any, .any, .any, .any, .any], [nbox M, nbox T']⟩)
          (fun n => l.length - n) 0 (Nat.zero_le _) (Nat.zero_le _) rfl ?_
        intro n hn
        try simp (maxSteps := 1000000) only [go_region, go_seq, go_cond, go_ops_nil, go_op, opK_none, contK_some, callOf, fstep, fpre, fstep0, fbinA, fbin, fbin0, flen, T, St.ev, St.put, List.getD_cons_zero, List.getD_cons_succ, List.set, true_and, Bool.true_and, nums_len]
        (first | refine guardV_split ?_ ?_ | refine condK_split ?_ ?_ | refine drawV_split ?_ ?_ | refine condY_split ?_ ?_ | refine guardY_split ?_ ?_) <;> intro h3
        · have hlt3 : n < l.length := by simpa using h3
          have eg3 := num_idx hlt3
          have ew3 : IntKind.i64.wrap ((n : Int) + 1) = ((n + 1 : Nat) : Int) := by rw [wrap_i64 (by omega) (by omega)]; rfl
          have c3 : (0 : Int) ≤ (n : Int) ∧ Int.toNat (n : Int) < l.length := by omega
          try simp (maxSteps := 1000000) only [go_skip, go_seq, go_block, go_draws, condK_t]
          refine draw_rule tyOk (by rfl) (by simp only [List.length_cons, List.length_nil, Nat.reduceAdd, Nat.zero_le]) (by kernel_rfl) rfl ?_
          try simp (maxSteps := 1000000) only [go_cond, callOf, fstep0, fbinA, fbin, fbin0, fload, fcell, findexAddr, T, TI.isAgg, St.ev, St.put, AV.cells, AV.known, Value.cells, List.getD_cons_zero, List.getD_cons_succ, List.set, List.map_cons, List.map_nil, List.length_cons, List.length_nil, List.headD_cons, List.append_nil, List.replicate, true_and, and_true, Bool.and_true, Bool.true_and, Bool.false_eq_true, ↓reduceIte, Nat.reduceAdd, Nat.reduceLT, Nat.add_zero, Nat.zero_add, newCount, drawR_nil, drawR_op, drawP_none, drawQ_some, dstep, isFree, St.app, bump, isNew, eg3, c3, nums_len, eg, c1, lme]
          refine ⟨by kernel_rfl, ?_⟩
          skip
          (first | refine guardV_split ?_ ?_ | refine condK_split ?_ ?_ | refine drawV_split ?_ ?_ | refine condY_split ?_ ?_ | refine guardY_split ?_ ?_) <;> intro h4
          · have h5 : l.getD n 0 = kk := by simpa using h4
            have en : scanN l id kk (n + 1) = (n : Int) := by rw [scanN, if_pos (by exact h5)]; rfl
            try simp (maxSteps := 1000000) only [go_region, go_seq, go_cond, go_ops_nil, go_op, opK_none, contK_some, condK_t, callOf, fstep, fpre, fstep0, fbinA, fbin, fbin0, St.ev, St.put, List.getD_cons_zero, List.getD_cons_succ, List.set, true_and, Bool.true_and]
            (first | refine guardV_split ?_ ?_ | refine condK_split ?_ ?_ | refine drawV_split ?_ ?_ | refine condY_split ?_ ?_ | refine guardY_split ?_ ?_) <;> intro h6
            · have e6 : firstN l kk (n + 1) = (n : Int) := by rw [firstN, if_pos h5, if_pos (by simpa using h6)]
              try simp (maxSteps := 1000000) only [go_nil, go_region, go_blk, go_ops_nil, go_op, opK_none, contK_some, condK_t, callOf, fstep, fpre, fstep0, fbinA, fbin, fbin0, St.ev, St.put, List.getD_cons_zero, List.getD_cons_succ, List.set, true_and, Bool.true_and, ew3]
              simp only [loopX_normal, St.trunc, St.keep, truncVs, truncV, AB.trunc, keepV, List.elem_cons, List.elem_nil, List.take_succ_cons, List.take_zero, List.map_cons, List.map_nil, Nat.reduceAdd, Nat.reduceBEq, Nat.reduceLeDiff, Nat.zero_add, Bool.false_eq_true, ↓reduceIte]
              exact ⟨n + 1, hlt3, by omega, by rw [en, e6]⟩
            · have e6 : firstN l kk (n + 1) = firstN l kk n := by rw [firstN, if_pos h5, if_neg (by simpa using h6)]
              try simp (maxSteps := 1000000) only [go_nil, go_skip, go_region, go_blk, go_ops_nil, go_op, opK_none, contK_some, condK_f, callOf, fstep, fpre, fstep0, fbinA, fbin, fbin0, St.ev, St.put, List.getD_cons_zero, List.getD_cons_succ, List.set, true_and, Bool.true_and, ew3]
              simp only [loopX_normal, St.trunc, St.keep, truncVs, truncV, AB.trunc, keepV, List.elem_cons, List.elem_nil, List.take_succ_cons, List.take_zero, List.map_cons, List.map_nil, Nat.reduceAdd, Nat.reduceBEq, Nat.reduceLeDiff, Nat.zero_add, Bool.false_eq_true, ↓reduceIte]
              exact ⟨n + 1, hlt3, by omega, by rw [en, e6]⟩
          · have h5 : ¬ l.getD n 0 = kk := by simpa using h4
            have en : scanN l id kk (n + 1) = scanN l id kk n := by rw [scanN, if_neg (by exact h5)]
            have e6 : firstN l kk (n + 1) = firstN l kk n := by rw [firstN, if_neg h5]
            try simp (maxSteps := 1000000) only [go_nil, go_skip, go_region, go_blk, go_ops_nil, go_op, opK_none, contK_some, condK_f, callOf, fstep, fpre, fstep0, fbinA, fbin, fbin0, St.ev, St.put, List.getD_cons_zero, List.getD_cons_succ, List.set, true_and, Bool.true_and, ew3]
            simp only [loopX_normal, St.trunc, St.keep, truncVs, truncV, AB.trunc, keepV, List.elem_cons, List.elem_nil, List.take_succ_cons, List.take_zero, List.map_cons, List.map_nil, Nat.reduceAdd, Nat.reduceBEq, Nat.reduceLeDiff, Nat.zero_add, Bool.false_eq_true, ↓reduceIte]
            exact ⟨n + 1, hlt3, by omega, by rw [en, e6]⟩
        · obtain rfl := at_end hn h3
          rw [hfe]
          try simp (maxSteps := 1000000) only [go_seq, go_exit, go_draws, exitK_code, exitK_blk, exitK_nil, condK_f, ↓reduceIte, loopX_exit]
          refine draw_rule tyOk (by rfl) (by simp only [List.length_cons, List.length_nil, Nat.reduceAdd, Nat.zero_le]) (by kernel_rfl) rfl ?_
          try simp (maxSteps := 1000000) only [callOf, fstep0, newF, fload, fcell, findexAddr, evs, T, TI.isAgg, St.ev, St.put, AV.cells, AV.known, Value.cells, List.getD_cons_zero, List.getD_cons_succ, List.set, List.map_cons, List.map_nil, List.length_cons, List.length_nil, List.drop_zero, List.take_succ_cons, List.take_zero, List.headD_cons, List.append_nil, List.getElem?_cons_zero, List.replicate, true_and, and_true, Bool.and_true, Bool.true_and, Bool.or_false, Bool.false_eq_true, ↓reduceIte, Nat.reduceAdd, Nat.reduceLT, Nat.le_refl, Nat.add_zero, Nat.zero_add, Nat.reduceBEq, newCount, drawR_op, drawP_none, drawP_some, drawQ_some, drawH_fn, dstep, isFree, St.app, bump, isNew, eg, c1, lme]
          refine drawCall_use (get_call_ui M kk hm.1 (by omega)) rfl ?_
          rw [hg1]
          try simp (maxSteps := 1000000) only [go_seq, go_draws, callOf, fstep0, newF, St.ev, St.put, List.getD_cons_zero, List.getD_cons_succ, List.set, List.length_cons, List.length_nil, true_and, Bool.true_and, Bool.or_false, Bool.false_eq_true, ↓reduceIte, Nat.reduceAdd, Nat.reduceLT, Nat.zero_add, Nat.reduceBEq, drawR_nil, drawR_op, drawP_none, drawQ_some, dstep, isFree, St.app, bump, isNew]
          refine ⟨by kernel_rfl, ?_⟩
          skip
          refine draw_rule tyOk (by rfl) (by simp only [List.length_cons, List.length_nil, Nat.reduceAdd, Nat.zero_le]) (by kernel_rfl) rfl ?_
          try simp (maxSteps := 1000000) only [callOf, fstep0, newF, fload, fcell, findexAddr, evs, T, TI.isAgg, St.ev, St.put, AV.cells, AV.known, Value.cells, List.getD_cons_zero, List.getD_cons_succ, List.set, List.map_cons, List.map_nil, List.length_cons, List.length_nil, List.drop_zero, List.take_succ_cons, List.take_zero, List.headD_cons, List.append_nil, List.getElem?_cons_zero, List.getElem?_cons_succ, List.replicate, true_and, and_true, Bool.and_true, Bool.true_and, Bool.or_false, Bool.false_eq_true, ↓reduceIte, Nat.reduceAdd, Nat.reduceLT, Nat.le_refl, Nat.add_zero, Nat.zero_add, Nat.reduceBEq, newCount, drawR_op, drawP_none, drawP_some, drawQ_some, drawH_fn, dstep, isFree, St.app, bump, isNew, eg, c1, lme]
          refine drawCall_use (get_call_ui T' kk ht.1 (by omega)) rfl ?_
          rw [hg2]
          try simp (maxSteps := 1000000) only [go_nil, go_skip, go_region, go_seq, go_cond, go_blk, go_ops_nil, go_op, go_guard, opK_none, contK_some, condK_f, guardK_eq, guardV_ff, callOf, fstep, fpre, fstep0, fbinA, newF, fbin, fbin0, funary, fpick, St.ev, St.put, List.getD_cons_zero, List.getD_cons_succ, List.set, List.length_cons, List.length_nil, List.getElem?_cons_zero, List.getElem?_cons_succ, Option.bind_some, List.getElem?_toArray, true_and, Bool.true_and, Bool.or_false, Bool.not_true, Bool.false_eq_true, ↓reduceIte, Nat.reduceAdd, Nat.reduceLT, Nat.zero_add, Nat.reduceBEq, cond_false, bne_self_eq_false, drawR_nil, drawR_op, drawP_none, drawQ_some, dstep, isFree, St.app, bump, isNew]
          refine ⟨by kernel_rfl, ?_⟩
          try simp (maxSteps := 1000000) only [ew]
          simp only [loopX_normal, St.trunc, St.keep, truncVs, truncV, AB.trunc, keepV, List.elem_cons, List.elem_nil, List.take_succ_cons, List.take_zero, List.map_cons, List.map_nil, Nat.reduceAdd, Nat.reduceBEq, Nat.reduceLeDiff, Nat.zero_add, Bool.false_eq_true, ↓reduceIte]
          exact ⟨i + 1, hlt, by omega, rfl⟩
      · have d0 : decide ((0 : Int) < (i : Int)) = true := by simp; omega
        have ew0 : IntKind.i64.wrap ((i : Int) - 1) = ((i - 1 : Nat) : Int) := by rw [wrap_i64 (by omega) (by omega)]; omega
        have eg0 := keys_get (M := M) (i := i - 1) (by omega)
        have c0 : (0 : Int) ≤ ((i - 1 : Nat) : Int) ∧ Int.toNat ((i - 1 : Nat) : Int) < M.length := by omega
        have dl : decide ((M.map Prod.fst).getD i 0 ≤ (M.map Prod.fst).getD (i - 1) 0) = false := by
          have := List.pairwise_iff_getElem.1 hm.1 (i - 1) i (by simp; omega) (by simpa using hlt) (by omega)
          rw [List.getD_eq_getElem?_getD, List.getD_eq_getElem?_getD, List.getElem?_eq_getElem (by simpa using hlt), List.getElem?_eq_getElem (by simp; omega)]
          simp only [ltI, decide_eq_true_eq] at this
          simp only [Option.getD_some, decide_eq_false_iff_not]
          omega
        try simp (maxSteps := 1000000) only [go_skip, go_seq, go_block, go_draws, condK_t]
        refine draw_rule tyOk (by rfl) (by simp only [List.length_cons, List.length_nil, Nat.reduceAdd, Nat.zero_le]) (by kernel_rfl) rfl ?_
        try simp (maxSteps := 1000000) only [go_skip, go_region, go_seq, go_cond, go_block, go_loop, go_ops_nil, go_op, opK_none, contK_some, condK_f, callOf, fstep, fpre, fstep0, fbinA, fbin, fbin0, fload, fcell, findexAddr, fpick, T, TI.isAgg, St.ev, St.put, AV.cells, AV.known, Value.cells, List.getD_cons_zero, List.getD_cons_succ, List.set, List.map_cons, List.map_nil, List.length_cons, List.length_nil, List.headD_cons, List.append_nil, List.getElem?_cons_zero, List.getElem?_cons_succ, List.replicate, Option.bind_some, List.getElem?_toArray, true_and, and_true, Bool.and_true, Bool.true_and, Bool.false_eq_true, ↓reduceIte, Nat.reduceAdd, Nat.reduceLT, Nat.add_zero, Nat.zero_add, cond_true, newCount, drawR_nil, drawR_op, drawR_guard, drawW_some, drawV_tt, drawP_none, drawQ_some, dstep, isFree, St.app, bump, isNew, d0, eg, c1, lme, ew0, eg0, c0, dl]
        refine ⟨by kernel_rfl, ?_⟩
        generalize hkk : (M.map Prod.fst).getD i 0 = kk at *
        have hk1 : 0 ≤ scanN l id kk l.length := (hkey kk).1 hkin
        have hk2 : 0 ≤ scanN l (rev l) kk l.length := (key_same l kk).1 hk1
        have hg1 := hget kk hk1
        have hg2 := hgetT kk hk2
        have hfe := first_eq l kk
        skip
        refine loopK_rule tyOk (α := Nat) 2 [0, 3, 4, 6, 7, 8, 9, 10] (fun n => n ≤ l.length)
          (fun n => ⟨[.sl 1 (nums l), .any, .any, .ptr 0 0, .ptr 1 0, .any, .sl 1 (M.map fun p => u64 p.1), i64 i, i64 (scanN l id kk n), i64 (firstN l kk n), i64 n, .any, .any, .any, .any, .any, .any, .any, .any, .any, .any, .any, .any, .any, .any, .any, .any, .any, .any, .any, .any, .any, .any, .any, .any, .any, .any, .any, .any, .any, .any, .any, .any, .any, .any, .any, .any, .any, .any, .any, .any, .any, .any, .any, .any, .any, .any, .any, .any, .any, .any, .any, .any, .any, .any, .any, .any, .any, .any, .any, .any, .any, .any, .any, .any, .any, .any, .any, .any, .any, .any, .any, .any, .any, .any, .any, .any, .any, .any, .any, .any, .any, .any, .any, .any, .any, .any, .any, .any, .any, .any, .any, .any, .any, .any, .any, .any, .any, .any, .any, .any, .any, .any, .any, .any, .any, .any, .any, .any, .any, .any, .any, .any, .any, .any, .any, .any, .any, .any, .any, .any, .any, .any, .any, .any, .any, .any, .any], [nbox M, nbox T']⟩)
          (fun n => l.length - n) 0 (Nat.zero_le _) (Nat.zero_le _) rfl ?_
        intro n hn
        try simp (maxSteps := 1000000) only [go_region, go_seq, go_cond, go_ops_nil, go_op, opK_none, contK_some, callOf, fstep, fpre, fstep0, fbinA, fbin, fbin0, flen, T, St.ev, St.put, List.getD_cons_zero, List.getD_cons_succ, List.set, true_and, Bool.true_and, nums_len]
        (first | refine guardV_split ?_ ?_ | refine condK_split ?_ ?_ | refine drawV_split ?_ ?_ | refine condY_split ?_ ?_ | refine guardY_split ?_ ?_) <;> intro h3
        · have hlt3 : n < l.length := by simpa using h3
          have eg3 := num_idx hlt3
          have ew3 : IntKind.i64.wrap ((n : Int) + 1) = ((n + 1 : Nat) : Int) := by rw [wrap_i64 (by omega) (by omega)]; rfl
          have c3 : (0 : Int) ≤ (n : Int) ∧ Int.toNat (n : Int) < l.length := by omega
          try simp (maxSteps := 1000000) only [go_skip, go_seq, go_block, go_draws, condK_t]
          refine draw_rule tyOk (by rfl) (by simp only [List.length_cons, List.length_nil, Nat.reduceAdd, Nat.zero_le]) (by kernel_rfl) rfl ?_
          try simp (maxSteps := 1000000) only [go_cond, callOf, fstep0, fbinA, fbin, fbin0, fload, fcell, findexAddr, T, TI.isAgg, St.ev, St.put, AV.cells, AV.known, Value.cells, List.getD_cons_zero, List.getD_cons_succ, List.set, List.map_cons, List.map_nil, List.length_cons, List.length_nil, List.headD_cons, List.append_nil, List.replicate, true_and, and_true, Bool.and_true, Bool.true_and, Bool.false_eq_true, ↓reduceIte, Nat.reduceAdd, Nat.reduceLT, Nat.add_zero, Nat.zero_add, newCount, drawR_nil, drawR_op, drawP_none, drawQ_some, dstep, isFree, St.app, bump, isNew, eg3, c3, nums_len, eg, c1, lme]
          refine ⟨by kernel_rfl, ?_⟩
          skip
          (first | refine guardV_split ?_ ?_ | refine condK_split ?_ ?_ | refine drawV_split ?_ ?_ | refine condY_split ?_ ?_ | refine guardY_split ?_ ?_) <;> intro h4
          · have h5 : l.getD n 0 = kk := by simpa using h4
            have en : scanN l id kk (n + 1) = (n : Int) := by rw [scanN, if_pos (by exact h5)]; rfl
            try simp (maxSteps := 1000000) only [go_region, go_seq, go_cond, go_ops_nil, go_op, opK_none, contK_some, condK_t, callOf, fstep, fpre, fstep0, fbinA, fbin, fbin0, St.ev, St.put, List.getD_cons_zero, List.getD_cons_succ, List.set, true_and, Bool.true_and]
            (first | refine guardV_split ?_ ?_ | refine condK_split ?_ ?_ | refine drawV_split ?_ ?_ | refine condY_split ?_ ?_ | refine guardY_split ?_ ?_) <;> intro h6
            · have e6 : firstN l kk (n + 1) = (n : Int) := by rw [firstN, if_pos h5, if_pos (by simpa using h6)]
              try simp (maxSteps := 1000000) only [go_nil, go_region, go_blk, go_ops_nil, go_op, opK_none, contK_some, condK_t, callOf, fstep, fpre, fstep0, fbinA, fbin, fbin0, St.ev, St.put, List.getD_cons_zero, List.getD_cons_succ, List.set, true_and, Bool.true_and, ew3]
              simp only [loopX_normal, St.trunc, St.keep, truncVs, truncV, AB.trunc, keepV, List.elem_cons, List.elem_nil, List.take_succ_cons, List.take_zero, List.map_cons, List.map_nil, Nat.reduceAdd, Nat.reduceBEq, Nat.reduceLeDiff, Nat.zero_add, Bool.false_eq_true, ↓reduceIte]
              exact ⟨n + 1, hlt3, by omega, by rw [en, e6]⟩
            · have e6 : firstN l kk (n + 1) = firstN l kk n := by rw [firstN, if_pos h5, if_neg (by simpa using h6)]
              try simp (maxSteps := 1000000) only [go_nil, go_skip, go_region, go_blk, go_ops_nil, go_op, opK_none, contK_some, condK_f, callOf, fstep, fpre, fstep0, fbinA, fbin, fbin0, St.ev, St.put, List.getD_cons_zero, List.getD_cons_succ, List.set, true_and, Bool.true_and, ew3]
              simp only [loopX_normal, St.trunc, St.keep, truncVs, truncV, AB.trunc, keepV, List.elem_cons, List.elem_nil, List.take_succ_cons, List.take_zero, List.map_cons, List.map_nil, Nat.reduceAdd, Nat.reduceBEq, Nat.reduceLeDiff, Nat.zero_add, Bool.false_eq_true, ↓reduceIte]
              exact ⟨n + 1, hlt3, by omega, by rw [en, e6]⟩
          · have h5 : ¬ l.getD n 0 = kk := by simpa using h4
            have en : scanN l id kk (n + 1) = scanN l id kk n := by rw [scanN, if_neg (by exact h5)]
            have e6 : firstN l kk (n + 1) = firstN l kk n := by rw [firstN, if_neg h5]
            try simp (maxSteps := 1000000) only [go_nil, go_skip, go_region, go_blk, go_ops_nil, go_op, opK_none, contK_some, condK_f, callOf, fstep, fpre, fstep0, fbinA, fbin, fbin0, St.ev, St.put, List.getD_cons_zero, List.getD_cons_succ, List.set, true_and, Bool.true_and, ew3]
            simp only [loopX_normal, St.trunc, St.keep, truncVs, truncV, AB.trunc, keepV, List.elem_cons, List.elem_nil, List.take_succ_cons, List.take_zero, List.map_cons, List.map_nil, Nat.reduceAdd, Nat.reduceBEq, Nat.reduceLeDiff, Nat.zero_add, Bool.false_eq_true, ↓reduceIte]
            exact ⟨n + 1, hlt3, by omega, by rw [en, e6]⟩
        · obtain rfl := at_end hn h3
          rw [hfe]
          try simp (maxSteps := 1000000) only [go_seq, go_exit, go_draws, exitK_code, exitK_blk, exitK_nil, condK_f, ↓reduceIte, loopX_exit]
          refine draw_rule tyOk (by rfl) (by simp only [List.length_cons, List.length_nil, Nat.reduceAdd, Nat.zero_le]) (by kernel_rfl) rfl ?_
          try simp (maxSteps := 1000000) only [callOf, fstep0, newF, fload, fcell, findexAddr, evs, T, TI.isAgg, St.ev, St.put, AV.cells, AV.known, Value.cells, List.getD_cons_zero, List.getD_cons_succ, List.set, List.map_cons, List.map_nil, List.length_cons, List.length_nil, List.drop_zero, List.take_succ_cons, List.take_zero, List.headD_cons, List.append_nil, List.getElem?_cons_zero, List.replicate, true_and, and_true, Bool.and_true, Bool.true_and, Bool.or_false, Bool.false_eq_true, ↓reduceIte, Nat.reduceAdd, Nat.reduceLT, Nat.le_refl, Nat.add_zero, Nat.zero_add, Nat.reduceBEq, newCount, drawR_op, drawP_none, drawP_some, drawQ_some, drawH_fn, dstep, isFree, St.app, bump, isNew, eg, c1, lme]
          refine drawCall_use (get_call_ui M kk hm.1 (by omega)) rfl ?_
          rw [hg1]
          try simp (maxSteps := 1000000) only [go_seq, go_draws, callOf, fstep0, newF, St.ev, St.put, List.getD_cons_zero, List.getD_cons_succ, List.set, List.length_cons, List.length_nil, true_and, Bool.true_and, Bool.or_false, Bool.false_eq_true, ↓reduceIte, Nat.reduceAdd, Nat.reduceLT, Nat.zero_add, Nat.reduceBEq, drawR_nil, drawR_op, drawP_none, drawQ_some, dstep, isFree, St.app, bump, isNew]
          refine ⟨by kernel_rfl, ?_⟩
          skip
          refine draw_rule tyOk (by rfl) (by simp only [List.length_cons, List.length_nil, Nat.reduceAdd, Nat.zero_le]) (by kernel_rfl) rfl ?_
          try simp (maxSteps := 1000000) only [callOf, fstep0, newF, fload, fcell, findexAddr, evs, T, TI.isAgg, St.ev, St.put, AV.cells, AV.known, Value.cells, List.getD_cons_zero, List.getD_cons_succ, List.set, List.map_cons, List.map_nil, List.length_cons, List.length_nil, List.drop_zero, List.take_succ_cons, List.take_zero, List.headD_cons, List.append_nil, List.getElem?_cons_zero, List.getElem?_cons_succ, List.replicate, true_and, and_true, Bool.and_true, Bool.true_and, Bool.or_false, Bool.false_eq_true, ↓reduceIte, Nat.reduceAdd, Nat.reduceLT, Nat.le_refl, Nat.add_zero, Nat.zero_add, Nat.reduceBEq, newCount, drawR_op, drawP_none, drawP_some, drawQ_some, drawH_fn, dstep, isFree, St.app, bump, isNew, eg, c1, lme]
          refine drawCall_use (get_call_ui T' kk ht.1 (by omega)) rfl ?_
          rw [hg2]
          try simp (maxSteps := 1000000) only [go_nil, go_skip, go_region, go_seq, go_cond, go_blk, go_ops_nil, go_op, go_guard, opK_none, contK_some, condK_f, guardK_eq, guardV_ff, callOf, fstep, fpre, fstep0, fbinA, newF, fbin, fbin0, funary, fpick, St.ev, St.put, List.getD_cons_zero, List.getD_cons_succ, List.set, List.length_cons, List.length_nil, List.getElem?_cons_zero, List.getElem?_cons_succ, Option.bind_some, List.getElem?_toArray, true_and, Bool.true_and, Bool.or_false, Bool.not_true, Bool.false_eq_true, ↓reduceIte, Nat.reduceAdd, Nat.reduceLT, Nat.zero_add, Nat.reduceBEq, cond_false, bne_self_eq_false, drawR_nil, drawR_op, drawP_none, drawQ_some, dstep, isFree, St.app, bump, isNew]
          refine ⟨by kernel_rfl, ?_⟩
          try simp (maxSteps := 1000000) only [ew]
          simp only [loopX_normal, St.trunc, St.keep, truncVs, truncV, AB.trunc, keepV, List.elem_cons, List.elem_nil, List.take_succ_cons, List.take_zero, List.map_cons, List.map_nil, Nat.reduceAdd, Nat.reduceBEq, Nat.reduceLeDiff, Nat.zero_add, Bool.false_eq_true, ↓reduceIte]
          exact ⟨i + 1, hlt, by omega, rfl⟩
    · have := at_end hi h2
      try simp (maxSteps := 1000000) only [go_region, go_seq, go_exit, exitK_code, exitK_blk, exitK_nil, go_op, opK_none, opK_some, contK_some, condK_f, callOf, callK_eq, callJ_nil, callD_fn, fstep, fpre, fstep0, fload, fcell, evs, T, TI.isAgg, St.ev, St.put, AV.owners, ownersAll, List.getD_cons_zero, List.getD_cons_succ, List.set, List.length_cons, List.length_nil, List.drop_zero, List.take_succ_cons, List.take_zero, List.append_nil, List.getElem?_cons_zero, List.getElem?_cons_succ, true_and, Bool.true_and, ↓reduceIte, Nat.reduceAdd, Nat.le_refl, Nat.zero_add, loopX_exit]
      have hT2 := len_call_ui T'
      rw [hml] at hT2
      have cT : (((M.length : Nat) : Int) == ((M.length : Nat) : Int)) = true := beq_self_eq_true _
      (refine callG_use hT2 rfl ?_; rintro _ rfl)
      try simp (maxSteps := 1000000) only [go_op, go_guard, opK_none, opK_some, contK_some, guardK_eq, guardV_tt, callOf, callK_eq, callJ_nil, callD_fn, fstep, fpre, fstep0, fbinA, fbin, fbin0, fload, fcell, flen, evs, T, TI.isAgg, St.ev, St.put, AV.owners, ownersAll, List.getD_cons_zero, List.getD_cons_succ, List.set, List.length_cons, List.length_nil, List.drop_zero, List.take_succ_cons, List.take_zero, List.append_nil, List.getElem?_cons_zero, List.getElem?_cons_succ, Option.bind_some, List.getElem?_toArray, true_and, Bool.true_and, ↓reduceIte, Nat.reduceAdd, Nat.le_refl, Nat.zero_add, beq_self_eq_true, lme]
      (refine callG_use (len_call_ui M) rfl ?_; rintro _ rfl)
      try simp (maxSteps := 1000000) only [go_ret, go_ops_nil, go_op, go_guard, opK_none, contK_some, guardK_eq, guardV_tt, callOf, fstep, fpre, fstep0, fbinA, fbin, fbin0, flen, fpick, T, St.ev, St.put, List.getD_cons_zero, List.getD_cons_succ, List.set, List.getElem?_cons_zero, List.getElem?_cons_succ, Option.bind_some, List.getElem?_toArray, true_and, Bool.true_and, cond_true, beq_self_eq_true, lme]
      apply hK
      simp only [Try.results6, retK, ares, Bool.and_true, Bool.true_and, AV.ofResults, St.trunc, truncVs, truncV, List.getD_cons_zero, List.getD_cons_succ, List.take_zero, List.map_nil, true_and, and_true, List.cons.injEq, exists_eq_left']
def shapesOmapNumbers : List (Bool × List Lf) := [(false, [.sl 1 false [.int .u64]])]
theorem shapesOmapNumbers_ok : argShapes T 6 [49] = some shapesOmapNumbers := by kernel_rfl
theorem law_OmapNumbers (xs : List AV) (h : argsFit shapesOmapNumbers xs) : PCall P 6 xs (fun x => x = .v (.bool true)) := by
  obtain ⟨_, _, rfl, ⟨_, _, rfl, ⟨ys, rfl, hlen, hys⟩, rfl⟩, rfl⟩ := h
  obtain ⟨l, rfl⟩ := fits_nums hys
  rw [nums_len] at hlen
  exact law_numbers l hlen
end Go.Proofs.Ytfkpjdcjjfpigaa
