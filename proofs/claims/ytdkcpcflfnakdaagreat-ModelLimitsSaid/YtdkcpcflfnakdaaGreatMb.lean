/- The base of the laws of this seat: texts of this session, joined by a program. -/
import Derived.Test.YtdkcpcflfnakdaaGreatMa
namespace Go.Proofs.YtdkcpcflfnakdaaGreat
open Go Go.Proofs.YtdkcpcflfnakdaaGreat.Sym
attribute [-sevalprocAttr] Int.reduceToNat Int.reduceNatCast Int.reduceNatCast' Nat.reduceSubDiff
set_option maxRecDepth 100000
set_option maxHeartbeats 1000000
set_option linter.unusedSimpArgs false
set_option linter.unusedVariables false

def has (l : List Ses) (id : Int) : Bool := l.any (fun s => s.id == id)

def clear (l : List Ses) (id : Int) : List Ses := l.filter (fun s => s.id != id)
def insStep (s : Ses) (o : List Ses × Bool) (r : Ses) : List Ses × Bool := if !o.2 && decide (s.id < r.id) then (o.1 ++ [s] ++ [r], true) else (o.1 ++ [r], o.2)
def insF (s : Ses) (l : List Ses) : List Ses × Bool := l.foldl (insStep s) ([], false)
def ins (s : Ses) (l : List Ses) : List Ses := if (insF s l).2 then (insF s l).1 else (insF s l).1 ++ [s]
def setF (l : List Ses) (s : Ses) (most : Int) : List Ses × Int := if !has l s.id && decide (most ≤ l.length) then (l, 2) else (ins s (clear l s.id), 0)

end Go.Proofs.YtdkcpcflfnakdaaGreat
namespace Go.Proofs.YtdkcpcflfnakdaaGreat
open Go Go.Proofs.YtdkcpcflfnakdaaGreat.Sym
attribute [-sevalprocAttr] Int.reduceToNat Int.reduceNatCast Int.reduceNatCast' Nat.reduceSubDiff
set_option maxRecDepth 100000
set_option maxHeartbeats 1000000
set_option linter.unusedSimpArgs false
set_option linter.unusedVariables false

def cmpF (a b : Int) : Int := if a < b then -1 else if b < a then 1 else 0
theorem cmp_lt (a b : Int) : decide (cmpF a b < 0) = ltI a b := by
  unfold cmpF ltI
  split
  · rename_i h; simp [h]
  · rename_i h
    split <;> simp [h]
theorem cmp_eq (a b : Int) : (cmpF a b == 0) = eqI a b := by
  unfold cmpF eqI
  rw [Bool.eq_iff_iff]
  split
  · simp; omega
  · split
    · simp; omega
    · simp; omega
theorem compare_int (a b : Int) : PCall P 135 [i64 a, i64 b] (fun x => x = i64 (cmpF a b)) := by
  refine q0r tyOk Tryz.func135 rfl rfl ?_
  intro K hK
  simp only [Tryz.ntmps135, List.length_cons, List.length_nil, Nat.reduceAdd, Nat.reduceSub, List.replicate, List.cons_append, List.nil_append]
  try simp (maxSteps := 1000000) only [seval]
  (refine q0g (cmpNaN_int a) rfl ?_; rintro _ rfl)
  try simp (maxSteps := 1000000) only [seval]
  (refine q0g (cmpNaN_int b) rfl ?_; rintro _ rfl)
  try simp (maxSteps := 1000000) only [seval]
  (first | refine q0j ?_ ?_ | refine q0k ?_ ?_ | refine q0l ?_ ?_ | refine q0m ?_ ?_ | refine q0i ?_ ?_) <;> intro h
  · try simp (maxSteps := 1000000) only [seval]
    apply hK
    simp only [Tryz.results135, retK, ares, List.take_nil, Bool.and_true, Bool.true_and, AV.ofResults, St.trunc, q00, q01, List.getD_cons_zero, List.getD_cons_succ, List.map_nil, true_and, and_true, List.cons.injEq, exists_eq_left']
    rw [cmpF, if_pos (by simpa using h)]
  · try simp (maxSteps := 1000000) only [seval]
    (first | refine q0j ?_ ?_ | refine q0k ?_ ?_ | refine q0l ?_ ?_ | refine q0m ?_ ?_ | refine q0i ?_ ?_) <;> intro h2
    · try simp (maxSteps := 1000000) only [seval]
      apply hK
      simp only [Tryz.results135, retK, ares, List.take_nil, Bool.and_true, Bool.true_and, AV.ofResults, St.trunc, q00, q01, List.getD_cons_zero, List.getD_cons_succ, List.map_nil, true_and, and_true, List.cons.injEq, exists_eq_left']
      rw [cmpF, if_neg (by simpa using h), if_pos (by simpa using h2)]
    · try simp (maxSteps := 1000000) only [seval]
      apply hK
      simp only [Tryz.results135, retK, ares, List.take_nil, Bool.and_true, Bool.true_and, AV.ofResults, St.trunc, q00, q01, List.getD_cons_zero, List.getD_cons_succ, List.map_nil, true_and, and_true, List.cons.injEq, exists_eq_left']
      rw [cmpF, if_neg (by simpa using h), if_neg (by simpa using h2)]
theorem find_cmp (s : Ses) (id : Int) : PCall P 134 [s.av, i64 id] (fun x => x = i64 (cmpF s.id id)) := by
  refine q0r tyOk Tryz.func134 rfl rfl ?_
  intro K hK
  simp only [Tryz.ntmps134, List.length_cons, List.length_nil, Nat.reduceAdd, Nat.reduceSub, List.replicate, List.cons_append, List.nil_append]
  try simp (maxSteps := 1000000) only [seval, Ses.av]
  (refine q0g (compare_int s.id id) rfl ?_; rintro _ rfl)
  try simp (maxSteps := 1000000) only [seval]
  apply hK
  simp only [Tryz.results134, retK, ares, Bool.and_true, Bool.true_and, AV.ofResults, St.trunc, q00, q01, List.getD_cons_zero, List.getD_cons_succ, List.take_zero, List.map_nil, true_and, and_true, List.cons.injEq, exists_eq_left']
def ids (l : List Ses) : List Int := l.map Ses.id
theorem ids_len (l : List Ses) : (ids l).length = l.length := by simp [ids]
theorem ids_get {l : List Ses} {i : Nat} (h : i < l.length) : (ids l)[i]'(by rw [ids_len]; exact h) = l[i].id := by simp [ids]
theorem search_ses (l : List Ses) (hr : Rises ltI (ids l)) (k : Int) (hlen : l.length ≤ 1000000) :
    PCall P 133 [.sl 4 (avs l), i64 k, .fn 134 []] (fun x => x = .tup [i64 ((lb ltI (ids l) k : Nat) : Int), bool (hasAt ltI eqI (ids l) k)]) := by
  refine q0r tyOk Tryz.func133 rfl rfl ?_
  intro K hK
  simp only [Tryz.ntmps133, List.length_cons, List.length_nil, Nat.reduceAdd, Nat.reduceSub, List.replicate, List.cons_append, List.nil_append]
  try simp (maxSteps := 1000000) only [seval, q11]
  have hle := lb_le (lt := ltI) (ids l) k
  rw [ids_len] at hle
  refine q1f tyOk (α := Nat × Nat) 0 [0, 1, 2, 6, 7, 8, 9, 10] (fun q => q.1 ≤ lb ltI (ids l) k ∧ lb ltI (ids l) k ≤ q.2 ∧ q.2 ≤ l.length)
    (fun q => ⟨[.sl 4 (avs l), i64 k, .fn 134 [], .any, .any, .any, i64 0, bool false, i64 l.length, i64 q.1, i64 q.2, .any, .any, .any, .any, .any, .any, .any, .any, .any, .any, .any, .any, .any, .any, .any, .any, .any, .any, .any, .any, .any, .any, .any, .any, .any, .any, .any, .any, .any, .any, .any, .any, .any, .any, .any, .any, .any, .any], []⟩)
    (fun q => q.2 - q.1) (0, l.length) (Nat.zero_le _) ⟨Nat.zero_le _, hle, Nat.le_refl _⟩ rfl ?_
  rintro ⟨i, j⟩ ⟨h1, h2, h3⟩
  simp only at h1 h2 h3
  try simp (maxSteps := 1000000) only [seval]
  (first | refine q0j ?_ ?_ | refine q0k ?_ ?_ | refine q0l ?_ ?_ | refine q0m ?_ ?_ | refine q0i ?_ ?_) <;> intro hc <;> try simp (maxSteps := 1000000) only [seval]
  · have hij : i < j := by simpa using hc
    obtain ⟨hh, hlt, ew⟩ := half_idx (i := i) (j := j) (by omega) hij
    have hhn : (i + j) / 2 < l.length := by omega
    have eg := avs_get hhn
    have k1 : (0 : Int) ≤ (((i + j) / 2 : Nat) : Int) ∧ Int.toNat (((i + j) / 2 : Nat) : Int) < l.length := by omega
    have w1 : IntKind.i64.wrap ((((i + j) / 2 : Nat) : Int) + 1) = (((i + j) / 2 + 1 : Nat) : Int) := by rw [wrap_i64 (by omega) (by omega)]; rfl
    have hid := ids_get hhn
    try simp (maxSteps := 1000000) only [seval, ew, eg, k1, q11, Ses.av]
    (refine q0g (find_cmp l[(i + j) / 2] k) rfl ?_; rintro _ rfl)
    try simp (maxSteps := 1000000) only [seval, cmp_lt]
    cases hl : ltI l[(i + j) / 2].id k
    · try simp (maxSteps := 1000000) only [seval]
      simp only [q0n, St.trunc, St.keep, q00, q01, keepV, List.elem_cons, List.elem_nil, List.take_zero, List.map_nil, Nat.reduceAdd, Nat.reduceBEq, Nat.zero_add, Bool.false_eq_true, ↓reduceIte]
      refine ⟨(i, (i + j) / 2), ⟨h1, ?_, by omega⟩, by simp only; omega, rfl⟩
      apply Nat.le_of_not_lt
      intro hb
      have := lb_lt (lt := ltI) hb
      rw [hid, hl] at this; cases this
    · try simp (maxSteps := 1000000) only [seval, w1]
      simp only [q0n, St.trunc, St.keep, q00, q01, keepV, List.elem_cons, List.elem_nil, List.take_zero, List.map_nil, Nat.reduceAdd, Nat.reduceBEq, Nat.zero_add, Bool.false_eq_true, ↓reduceIte]
      refine ⟨((i + j) / 2 + 1, j), ⟨?_, h2, h3⟩, by simp only; omega, rfl⟩
      apply Nat.lt_of_not_le
      intro hb
      have := lb_ge ordI hr (by rw [ids_len]; exact hhn) hb
      rw [hid, hl] at this; cases this
  · have hij : ¬ i < j := by simpa using hc
    obtain rfl : i = lb ltI (ids l) k := by omega
    by_cases hn : lb ltI (ids l) k < l.length
    · have eg := avs_get hn
      have k1 : (0 : Int) ≤ ((lb ltI (ids l) k : Nat) : Int) ∧ Int.toNat ((lb ltI (ids l) k : Nat) : Int) < l.length := by omega
      have d1 : decide (((lb ltI (ids l) k : Nat) : Int) < (l.length : Int)) = true := decide_eq_true (by omega)
      have hh := hasAt_lt (eq := eqI) (show lb ltI (ids l) k < (ids l).length by rw [ids_len]; exact hn)
      rw [ids_get hn] at hh
      rw [hh] at hK
      try simp (maxSteps := 1000000) only [seval, d1, eg, k1, q11, Ses.av]
      (refine q0g (find_cmp l[lb ltI (ids l) k] k) rfl ?_; rintro _ rfl)
      try simp (maxSteps := 1000000) only [seval, cmp_eq]
      apply hK
      simp only [Tryz.results133, retK, ares, List.take_nil, Bool.and_true, Bool.true_and, AV.ofResults, St.trunc, q00, q01, List.getD_cons_zero, List.getD_cons_succ, List.map_nil, true_and, and_true, List.cons.injEq, exists_eq_left']
    · have d1 : decide (((lb ltI (ids l) k : Nat) : Int) < (l.length : Int)) = false := decide_eq_false (by omega)
      rw [hasAt_ge (by rw [ids_len]; omega)] at hK
      try simp (maxSteps := 1000000) only [seval, d1]
      apply hK
      simp only [Tryz.results133, retK, ares, List.take_nil, Bool.and_true, Bool.true_and, AV.ofResults, St.trunc, q00, q01, List.getD_cons_zero, List.getD_cons_succ, List.map_nil, true_and, and_true, List.cons.injEq, exists_eq_left']
theorem find_ses (l : List Ses) (hr : Rises ltI (ids l)) (k : Int) (hlen : l.length ≤ 1000000) :
    PCall P 118 [.sl 4 (avs l), i64 k] (fun x => x = .tup [i64 ((lb ltI (ids l) k : Nat) : Int), bool (hasAt ltI eqI (ids l) k)]) := by
  refine q0r tyOk Tryz.func118 rfl rfl ?_
  intro K hK
  simp only [Tryz.ntmps118, List.length_cons, List.length_nil, Nat.reduceAdd, Nat.reduceSub, List.replicate, List.cons_append, List.nil_append]
  try simp (maxSteps := 1000000) only [seval]
  (refine q0g (search_ses l hr k hlen) rfl ?_; rintro _ rfl)
  try simp (maxSteps := 1000000) only [seval]
  apply hK
  simp only [Tryz.results118, retK, ares, List.take_nil, Bool.and_true, Bool.true_and, AV.ofResults, St.trunc, q00, q01, List.getD_cons_zero, List.getD_cons_succ, List.map_nil, true_and, and_true, List.cons.injEq, exists_eq_left']

theorem has_iff {l : List Ses} {id : Int} : has l id = true ↔ id ∈ ids l := by
  rw [has, List.any_eq_true, ids, List.mem_map]
  constructor
  · rintro ⟨s, h1, h2⟩; exact ⟨s, h1, by simpa using h2⟩
  · rintro ⟨s, h1, rfl⟩; exact ⟨s, h1, by simp⟩
theorem has_at {l : List Ses} (hr : Rises ltI (ids l)) (id : Int) : hasAt ltI eqI (ids l) id = has l id := by
  rw [Bool.eq_iff_iff, hasAt_iff ordI eqI_iff hr, has_iff]
abbrev Up (l : List Ses) : Prop := Rises ltI (ids l)
theorem up_iff {l : List Ses} : Up l ↔ l.Pairwise fun a b => a.id < b.id := by
  rw [Up, Rises, ids, List.pairwise_map]
  simp only [ltI, decide_eq_true_eq]
def put (l : List Ses) (s : Ses) : List Ses := l.filter (fun x => decide (x.id < s.id)) ++ [s] ++ l.filter (fun x => decide (s.id < x.id))
def keyed (l : List Ses) : List (Int × Ses) := l.map fun s => (s.id, s)
theorem keyed_fst (l : List Ses) : (keyed l).map Prod.fst = ids l := by rw [keyed, ids, List.map_map]; rfl
theorem keyed_snd (l : List Ses) : (keyed l).map Prod.snd = l := by rw [keyed, List.map_map]; exact List.map_id _
theorem put_at {l : List Ses} (hr : Up l) (s : Ses) : (if has l s.id = true then l.set (lb ltI (ids l) s.id) s else l.take (lb ltI (ids l) s.id) ++ [s] ++ l.drop (lb ltI (ids l) s.id)) = put l s := by
  have h := congrArg (List.map Prod.snd) (with_eq ordI eqI_iff (m := keyed l) (by rw [RisesM, keyed_fst]; exact hr) s.id s)
  have f : ∀ p : Ses → Bool, ((keyed l).filter fun q => p q.2).map Prod.snd = l.filter p := by
    intro p
    rw [keyed, List.filter_map, List.map_map]
    exact List.map_id _
  have f1 : (keyed l).filter (fun p => ltI p.1 s.id) = (keyed l).filter (fun q => (fun x : Ses => decide (x.id < s.id)) q.2) := by
    rw [keyed, List.filter_map, List.filter_map]; rfl
  have f2 : (keyed l).filter (fun p => ltI s.id p.1) = (keyed l).filter (fun q => (fun x : Ses => decide (s.id < x.id)) q.2) := by
    rw [keyed, List.filter_map, List.filter_map]; rfl
  rw [f1, f2, List.map_append, List.map_append, f (fun x => decide (x.id < s.id)), f (fun x => decide (s.id < x.id))] at h
  unfold withG at h
  rw [keyed_fst, has_at hr] at h
  rw [put]
  refine Eq.trans ?_ h
  split
  · rw [List.map_set, keyed_snd]
  · rw [List.map_append, List.map_append, List.map_take, List.map_drop, keyed_snd]; rfl
theorem put_up {l : List Ses} (hr : Up l) (s : Ses) : Up (put l s) := by
  have h0 := up_iff.1 hr
  refine up_iff.2 ?_
  rw [put, List.append_assoc, List.pairwise_append]
  refine ⟨h0.sublist List.filter_sublist, ?_, ?_⟩
  · rw [List.cons_append, List.nil_append, List.pairwise_cons]
    exact ⟨fun y hy => by simpa using (List.mem_filter.1 hy).2, h0.sublist List.filter_sublist⟩
  · intro a ha b hb
    have ha : a.id < s.id := by simpa using (List.mem_filter.1 ha).2
    rcases List.mem_append.1 hb with hb | hb
    · obtain rfl : b = s := by simpa using hb
      exact ha
    · have hb : s.id < b.id := by simpa using (List.mem_filter.1 hb).2
      omega
theorem clear_up {l : List Ses} (hr : Up l) (id : Int) : Up (clear l id) := up_iff.2 ((up_iff.1 hr).sublist List.filter_sublist)
theorem lives_up {l : List Ses} (hr : Up l) (now : Int) : Up (lives now l) := up_iff.2 ((up_iff.1 hr).sublist List.filter_sublist)
theorem insF_put (s : Ses) (l : List Ses) : ∀ out, l.foldl (insStep s) (out, true) = (out ++ l, true) := by
  induction l with
  | nil => intro out; simp
  | cons x xs ih =>
    intro out
    have e : insStep s (out, true) x = (out ++ [x], true) := by simp [insStep]
    rw [List.foldl_cons, e, ih]
    simp
theorem insF_eq (s : Ses) (l : List Ses) (hr : Up l) (hn : ∀ x ∈ l, x.id ≠ s.id) : ∀ out, (fun o : List Ses × Bool => if o.2 = true then o.1 else o.1 ++ [s]) (l.foldl (insStep s) (out, false)) = out ++ put l s := by
  induction l with
  | nil => intro out; simp [put]
  | cons x xs ih =>
    intro out
    have hp := List.pairwise_cons.1 (up_iff.1 hr)
    have hx := hn x List.mem_cons_self
    by_cases hsx : s.id < x.id
    · have e : insStep s (out, false) x = (out ++ [s] ++ [x], true) := by simp [insStep, hsx]
      have f1 : xs.filter (fun y => decide (y.id < s.id)) = [] := List.filter_eq_nil_iff.2 fun y hy => by have := hp.1 y hy; simp; omega
      have f2 : xs.filter (fun y => decide (s.id < y.id)) = xs := List.filter_eq_self.2 fun y hy => by have := hp.1 y hy; simp; omega
      have d1 : decide (x.id < s.id) = false := by simp; omega
      have d2 : decide (s.id < x.id) = true := by simp; omega
      rw [List.foldl_cons, e, insF_put, put, List.filter_cons, List.filter_cons, d1, d2, f1, f2]
      simp
    · have e : insStep s (out, false) x = (out ++ [x], false) := by simp [insStep, hsx]
      have d1 : decide (x.id < s.id) = true := by simp; omega
      have d2 : decide (s.id < x.id) = false := by simp; omega
      rw [List.foldl_cons, e, ih (up_iff.2 hp.2) (fun y hy => hn y (List.mem_cons_of_mem _ hy)), put, put, List.filter_cons, List.filter_cons, d1, d2]
      simp
theorem ins_eq {l : List Ses} (hr : Up l) (s : Ses) : ins s (clear l s.id) = put l s := by
  have h := insF_eq s (clear l s.id) (clear_up hr _) (fun x hx => by simpa [clear] using (List.mem_filter.1 hx).2) []
  have e : put (clear l s.id) s = put l s := by
    rw [put, put, clear, List.filter_filter, List.filter_filter]
    congr 1
    · congr 1
      refine List.filter_congr fun x _ => ?_
      rw [Bool.eq_iff_iff]; simp; omega
    · refine List.filter_congr fun x _ => ?_
      rw [Bool.eq_iff_iff]; simp; omega
  rw [List.nil_append, e] at h
  rw [← h, ins, insF]
end Go.Proofs.YtdkcpcflfnakdaaGreat
namespace Go.Proofs.YtdkcpcflfnakdaaGreat
open Go Go.Proofs.YtdkcpcflfnakdaaGreat.Sym
attribute [-sevalprocAttr] Int.reduceToNat Int.reduceNatCast Int.reduceNatCast' Nat.reduceSubDiff
set_option maxRecDepth 100000
set_option maxHeartbeats 1000000
set_option linter.unusedSimpArgs false
set_option linter.unusedVariables false

theorem purge_late (now : Int) (s : Ses) (row : List AV) : ACall P 116 [.box [u64 now], .row 151 4 row] [s.av, .ptr 0 0] (fun x m' => x = bool (decide (s.un ≤ now)) ∧ m' = [.box [u64 now], .row 151 4 row]) := by
  refine q37 tyOk Tryz.func116 rfl rfl ?_
  intro K hK
  simp only [Tryz.ntmps116, List.length_cons, List.length_nil, Nat.reduceAdd, Nat.reduceSub, List.replicate, List.cons_append, List.nil_append]
  try simp (maxSteps := 1000000) only [seval, Ses.av]
  (refine q0g (tick_Late now s.un) rfl ?_; rintro _ rfl)
  try simp (maxSteps := 1000000) only [seval]
  apply hK
  simp only [Tryz.results116, retK, ares, Bool.and_true, AV.ofResults, St.trunc, q00, q01, AB.trunc, List.getD_cons_zero, List.getD_cons_succ, List.take_zero, List.take_succ_cons, List.map_nil, List.map_cons, List.length_cons, List.length_nil, Nat.reduceAdd, and_true, List.cons.injEq, exists_eq_left']
theorem index_dead (now : Int) (l : List Ses) (hlen : l.length ≤ 1000000) : ACall P 132 [.box [u64 now], .row 151 4 (avs l)] [.own 1 4 0 l.length, .fn 116 [.ptr 0 0]]
    (fun x m' => (∃ i : Int, x = i64 i ∧ ((i = -1 ∧ lives now l = l) ∨ ∃ d : Nat, i = d ∧ ∃ h : d < l.length, (l[d]).lives now = false ∧ lives now (l.take d) = l.take d)) ∧ m' = [.box [u64 now], .row 151 4 (avs l)]) := by
  refine q37 tyOk Tryz.func132 rfl rfl ?_
  intro K hK
  simp only [Tryz.ntmps132, List.length_cons, List.length_nil, Nat.reduceAdd, Nat.reduceSub, List.replicate, List.cons_append, List.nil_append]
  try simp (maxSteps := 1000000) only [seval]
  refine q1f tyOk (α := Nat) 2 [0, 1, 7, 8] (fun i => i ≤ l.length ∧ lives now (l.take i) = l.take i)
    (fun i => ⟨[.own 1 4 0 l.length, .fn 116 [.ptr 0 0], .any, .any, .any, .any, .any, i64 l.length, i64 i, .any, .any, .any, .any, .any, .any, .any, .any, .any, .any], [.box [u64 now], .row 151 4 (avs l)]⟩)
    (fun i => l.length - i) 0 (by first | exact Nat.zero_le _ | decide) ⟨Nat.zero_le _, rfl⟩ rfl ?_
  rintro i ⟨hi, hl⟩
  try simp (maxSteps := 1000000) only [seval]
  (first | refine q0j ?_ ?_ | refine q0k ?_ ?_ | refine q0l ?_ ?_ | refine q0m ?_ ?_ | refine q0i ?_ ?_) <;> intro h
  · obtain ⟨hlt, eg, ew, c1⟩ := at_idx (by omega) h
    try simp (maxSteps := 1000000) only [seval, eg, c1, q11]
    (refine q54 (purge_late now l[i] (avs l)) [0, 1] (by decide) rfl rfl rfl rfl ?_; rintro _ _ ⟨rfl, rfl⟩; refine ⟨rfl, ?_⟩)
    try simp (maxSteps := 1000000) only [seval]
    (first | refine q0j ?_ ?_ | refine q0k ?_ ?_ | refine q0l ?_ ?_ | refine q0m ?_ ?_ | refine q0i ?_ ?_) <;> intro h2
    · have hd : (l[i]).lives now = false := by
        have : l[i].un ≤ now := by simpa using h2
        simp only [Ses.lives, Bool.not_eq_false', decide_eq_true_eq]; exact this
      try simp (maxSteps := 1000000) only [seval]
      apply hK
      simp only [Tryz.results132, retK, ares, List.take_nil, Bool.and_true, AV.ofResults, St.trunc, q00, q01, AB.trunc, List.getD_cons_zero, List.getD_cons_succ, List.take_succ_cons, List.map_nil, List.map_cons, List.length_cons, List.length_nil, Nat.reduceAdd, and_true, List.cons.injEq, exists_eq_left']
      exact ⟨(i : Int), rfl, .inr ⟨i, rfl, hlt, hd, hl⟩⟩
    · have hd : (l[i]).lives now = true := by
        have : ¬ l[i].un ≤ now := by simpa using h2
        simp only [Ses.lives, Bool.not_eq_true', decide_eq_false_iff_not]; exact this
      try simp (maxSteps := 1000000) only [seval, ew]
      simp only [q0n, St.trunc, St.keep, q00, q01, AB.trunc, keepV, List.elem_cons, List.elem_nil, List.take_succ_cons, List.take_zero, List.map_cons, List.map_nil, Nat.reduceAdd, Nat.reduceBEq, Nat.reduceLeDiff, Nat.zero_add, Bool.false_eq_true, ↓reduceIte]
      exact ⟨i + 1, ⟨hlt, by rw [lives_take_in hlt hd, hl, ← q24 hlt]⟩, by omega, rfl⟩
  · obtain rfl := at_end hi h
    rw [List.take_length] at hl
    try simp (maxSteps := 1000000) only [seval]
    apply hK
    simp only [Tryz.results132, retK, ares, List.take_nil, Bool.and_true, AV.ofResults, St.trunc, q00, q01, AB.trunc, List.getD_cons_zero, List.getD_cons_succ, List.take_succ_cons, List.map_nil, List.map_cons, List.length_cons, List.length_nil, Nat.reduceAdd, and_true, List.cons.injEq, exists_eq_left']
    exact ⟨-1, rfl, .inl ⟨rfl, hl⟩⟩

theorem set_mid {α : Type} {a g b : List α} {x y : α} : (a ++ (x :: g) ++ b).set a.length y = a ++ (y :: g) ++ b := by
  induction a with
  | nil => rfl
  | cons z a ih => simp
theorem avs_set (l : List Ses) (i : Nat) (s : Ses) : (avs l).set i s.av = avs (l.set i s) := by rw [avs, avs, List.map_set]
abbrev zses : AV := .agg [i64 0, i64 0, i64 0, u64 0]
theorem delete_dead (now : Int) (l : List Ses) (hlen : l.length ≤ 1000000) : ACall P 114 [.box [u64 now], .row 151 4 (avs l)] [.own 1 4 0 l.length, .fn 116 [.ptr 0 0]]
    (fun x m' => x = .own 1 4 0 (lives now l).length ∧ ∃ g, m' = [.box [u64 now], .row 151 4 (avs (lives now l) ++ g)]) := by
  refine q37 tyOk Tryz.func114 rfl rfl ?_
  intro K hK
  simp only [Tryz.ntmps114, List.length_cons, List.length_nil, Nat.reduceAdd, Nat.reduceSub, List.replicate, List.cons_append, List.nil_append]
  try simp (maxSteps := 1000000) only [seval]
  refine q3f ?_
  try simp (maxSteps := 1000000) only [seval]
  refine q54 (index_dead now l hlen) [0, 1] (by decide) rfl rfl rfl rfl ?_
  rintro _ _ ⟨⟨i, rfl, hi⟩, rfl⟩
  refine ⟨rfl, ?_⟩
  try simp (maxSteps := 1000000) only [seval]
  rcases hi with ⟨rfl, hl⟩ | ⟨d, rfl, hd, hdead, hl⟩
  · try simp (maxSteps := 1000000) only [seval]
    apply hK
    simp only [Tryz.results114, retK, ares, List.take_nil, Bool.and_true, Bool.true_and, AV.ofResults, St.trunc, q00, q01, AB.trunc, List.getD_cons_zero, List.getD_cons_succ, List.take_succ_cons, List.map_nil, List.map_cons, List.length_cons, List.length_nil, Nat.reduceAdd, Nat.reduceLeDiff, true_and, and_true, ↓reduceIte, List.cons.injEq, exists_eq_left']
    rw [hl]
    exact ⟨rfl, [], by rw [List.append_nil]⟩
  · have e0 : ((d : Int) == -1) = false := by rw [beq_eq_false_iff_ne]; omega
    have ew0 : IntKind.i64.wrap ((d : Int) + 1) = ((d + 1 : Nat) : Int) := by rw [wrap_i64 (by omega) (by omega)]; rfl
    have hl1 : lives now (l.take (d + 1)) = l.take d := by rw [q5g hd hdead, hl]
    have hdl : (l.take d).length = d := by rw [List.length_take]; omega
    try simp (maxSteps := 1000000) only [seval, e0, ew0]
    refine q1f tyOk (α := Nat × List Ses) 2 [0, 1, 5, 6] (fun p => p.1 ≤ l.length ∧ 0 < p.2.length ∧ (lives now (l.take p.1)).length + p.2.length = p.1)
      (fun p => ⟨[.own 1 4 0 l.length, .fn 116 [.ptr 0 0], .any, .any, .any, i64 (lives now (l.take p.1)).length, i64 p.1, .any, .any, .any, .any, .any, .any, .any, .any, .any, .any, .any, .any, .any, .any, .any, .any, .any, .any, .any, .any, .any, .any, .any, .any, .any, .any, .any, .any, .any, .any, .any, .any, .any, .any, .any], [.box [u64 now], .row 151 4 (avs (lives now (l.take p.1) ++ p.2 ++ l.drop p.1))]⟩)
      (fun p => l.length - p.1) (d + 1, [l[d]]) (by first | exact Nat.zero_le _ | decide) ⟨hd, by simp, by simp only [List.length_singleton]; rw [hl1, hdl]⟩ ?_ ?_
    · have e1 : l.take d ++ [l[d]] ++ l.drop (d + 1) = l := by
        rw [← q24 hd, List.take_append_drop]
      simp only [hl1, hdl, e1]
      rfl
    rintro ⟨j, g⟩ ⟨hj, hg, hjg⟩
    simp only at hj hg hjg
    obtain ⟨A, hA⟩ : ∃ A, lives now (l.take j) = A := ⟨_, rfl⟩
    rw [hA] at hjg
    simp only [hA]
    obtain ⟨R, hR⟩ : ∃ R, A ++ g ++ l.drop j = R := ⟨_, rfl⟩
    have eR : R.length = l.length := by rw [← hR]; simp; omega
    try simp (maxSteps := 1000000) only [seval]
    (first | refine q0j ?_ ?_ | refine q0k ?_ ?_ | refine q0l ?_ ?_ | refine q0m ?_ ?_ | refine q0i ?_ ?_) <;> intro h
    · obtain ⟨hlt, eg, ew, c1⟩ := at_idx (by omega) h
      have hdr : l.drop j = l[j] :: l.drop (j + 1) := List.drop_eq_getElem_cons hlt
      have hRj : R[j]'(by omega) = l[j] := by
        simp only [← hR]
        rw [List.getElem_append_right (by simp; omega)]
        simp only [hdr]
        have : j - (A ++ g).length = 0 := by simp; omega
        simp only [this, List.getElem_cons_zero]
      have eg2 := avs_get (l := R) (i := j) (by omega)
      rw [hRj] at eg2
      have eg3 := avs_get (l := R) (i := A.length) (by omega)
      have c3 : (0 : Int) ≤ ((A.length : Nat) : Int) ∧ Int.toNat ((A.length : Nat) : Int) < l.length := by omega
      have ew2 : IntKind.i64.wrap ((A.length : Int) + 1) = ((A.length + 1 : Nat) : Int) := by rw [wrap_i64 (by omega) (by omega)]; rfl
      rw [hR]
      try simp (maxSteps := 1000000) only [seval, eg2, c1, q11, eR, Ses.av]
      (refine q54 (purge_late now l[j] (avs R)) [0, 1] (by decide) rfl rfl rfl rfl ?_; rintro _ _ ⟨rfl, rfl⟩; refine ⟨rfl, ?_⟩)
      try simp (maxSteps := 1000000) only [seval]
      cases hdv : (l[j]).lives now with
      | true =>
        have d1 : decide (l[j].un ≤ now) = false := by
          simp only [Ses.lives, Bool.not_eq_true'] at hdv; exact hdv
        have hA2 : lives now (l.take (j + 1)) = A ++ [l[j]] := by rw [lives_take_in hlt hdv, hA]
        try simp (maxSteps := 1000000) only [seval, d1, c3, eR, ew2, ew, eg3, q11, Ses.av]
        simp only [q0n, St.trunc, St.keep, q00, q01, AB.trunc, keepV, q14, AV.pure, Bool.and_self, List.drop_zero, List.elem_cons, List.elem_nil, List.take_succ_cons, List.take_zero, List.map_cons, List.map_nil, List.getElem?_cons_zero, List.getElem?_cons_succ, Nat.reduceAdd, Nat.reduceBEq, Nat.reduceLeDiff, Nat.le_refl, Nat.zero_add, Bool.false_eq_true, ↓reduceIte]
        obtain ⟨x, g', rfl⟩ : ∃ x g', g = x :: g' := by
          cases g with
          | nil => simp at hg
          | cons x g' => exact ⟨x, g', rfl⟩
        refine ⟨(j + 1, g' ++ [l[j]]), ⟨hlt, by simp, by simp only [hA2, List.length_append, List.length_cons, List.length_nil] at hjg ⊢; omega⟩, by simp only; omega, ?_⟩
        simp only [hA2, Int.toNat_natCast]
        have e5 : (avs R).set A.length (.agg [i64 l[j].id, i64 l[j].st, i64 l[j].pr, u64 l[j].un]) = avs (A ++ [l[j]] ++ (g' ++ [l[j]]) ++ l.drop (j + 1)) := by
          have := avs_set R A.length l[j]
          rw [← hR, set_mid, hdr] at this
          rw [← hR, hdr]
          refine this.trans ?_
          simp
        rw [e5, List.length_append]
        rfl
      | false =>
        have d1 : decide (l[j].un ≤ now) = true := by
          simp only [Ses.lives, Bool.not_eq_false'] at hdv; exact hdv
        have hA2 : lives now (l.take (j + 1)) = A := by rw [q5g hlt hdv, hA]
        try simp (maxSteps := 1000000) only [seval, d1, ew]
        simp only [q0n, St.trunc, St.keep, q00, q01, AB.trunc, keepV, q14, AV.pure, Bool.and_self, List.drop_zero, List.elem_cons, List.elem_nil, List.take_succ_cons, List.take_zero, List.map_cons, List.map_nil, List.getElem?_cons_zero, List.getElem?_cons_succ, Nat.reduceAdd, Nat.reduceBEq, Nat.reduceLeDiff, Nat.le_refl, Nat.zero_add, Bool.false_eq_true, ↓reduceIte]
        refine ⟨(j + 1, g ++ [l[j]]), ⟨hlt, by simp, by simp only [hA2, List.length_append, List.length_singleton]; omega⟩, by simp only; omega, ?_⟩
        simp only [hA2]
        have e5 : R = A ++ (g ++ [l[j]]) ++ l.drop (j + 1) := by rw [← hR, hdr]; simp
        rw [e5]
    · obtain rfl := at_end hj h
      rw [hR]
      rw [List.take_length] at hA
      have c3 : (0 : Int) ≤ ((A.length : Nat) : Int) ∧ Int.toNat ((A.length : Nat) : Int) ≤ l.length := by omega
      have hne : ¬ Int.toNat ((A.length : Nat) : Int) = l.length := by omega
      try simp (maxSteps := 1000000) only [seval, c3, eR, hne, q11]
      refine ⟨by omega, ?_⟩
      have e6 : (avs R).take (Int.toNat ((A.length : Nat) : Int)) = avs (lives now l) := by
        rw [Int.toNat_natCast, ← hR, hA, avs, ← List.map_take, List.append_assoc, List.take_append_of_le_length (Nat.le_refl _), List.take_length, avs]
      rw [e6]
      apply hK
      simp only [Tryz.results114, retK, ares, List.take_nil, Bool.and_true, Bool.true_and, AV.ofResults, St.trunc, q00, q01, AB.trunc, List.getD_cons_zero, List.getD_cons_succ, List.take_succ_cons, List.map_nil, List.map_cons, List.length_cons, List.length_nil, Nat.reduceAdd, Nat.reduceLeDiff, true_and, and_true, ↓reduceIte, List.cons.injEq, exists_eq_left']
      exact ⟨by rw [hA, Int.toNat_natCast], _, by rw [List.append_assoc]⟩

theorem sess_Purge (l : List Ses) (now : Int) (hlen : l.length ≤ 1000000) : PCall P 92 [.sl 4 (avs l), u64 now] (fun x => x = .sl 4 (avs (lives now l))) := by
  refine q0r tyOk Tryz.func92 rfl rfl ?_
  intro K hK
  simp only [Tryz.ntmps92, List.length_cons, List.length_nil, Nat.reduceAdd, Nat.reduceSub, List.replicate, List.cons_append, List.nil_append]
  try simp (maxSteps := 1000000) only [seval]
  refine callG_new rfl (by first | exact Nat.zero_le _ | decide | simp) (ACallR.new (clone_ses _ (by rw [q11]; exact hlen)) rfl (by first | decide | simp)) ?_
  try simp (maxSteps := 1000000) only [seval, q11]
  refine q3f ?_
  try simp (maxSteps := 1000000) only [seval]
  refine q54 (delete_dead now l hlen) [0, 1] (by decide) rfl rfl rfl rfl ?_
  rintro _ _ ⟨rfl, g, rfl⟩
  refine ⟨rfl, ?_⟩
  try simp (maxSteps := 1000000) only [seval]
  apply hK
  simp only [Tryz.results92, retK, ares, Bool.and_true, Bool.true_and, AV.ofResults, St.trunc, q00, q01, List.getD_cons_zero, List.getD_cons_succ, List.take_zero, List.drop_zero, List.map_nil, List.getElem?_cons_zero, List.getElem?_cons_succ, Nat.reduceLeDiff, true_and, and_true, ↓reduceIte, List.cons.injEq, exists_eq_left']
  rw [if_pos (by simp [q11]), List.take_append_of_le_length (by rw [q11]; exact Nat.le_refl _), List.take_of_length_le (by rw [q11]; exact Nat.le_refl _)]

theorem at_lt {l : List Ses} (hr : Up l) {id : Int} (h : has l id = true) : lb ltI (ids l) id < l.length := by
  apply Nat.lt_of_not_le
  intro hc
  rw [← has_at hr, hasAt_ge (by rw [ids_len]; omega)] at h
  cases h
theorem at_id {l : List Ses} (hr : Up l) {id : Int} (h : has l id = true) : (l[lb ltI (ids l) id]'(at_lt hr h)).id = id := by
  have h1 := h
  rw [← has_at hr, hasAt_lt (by rw [ids_len]; exact at_lt hr h)] at h1
  exact (ids_get (at_lt hr h)).symm.trans ((eqI_iff _ _).1 h1)
theorem set_has {l : List Ses} (hr : Up l) {s : Ses} (most : Int) (h : has l s.id = true) : setF l s most = (l.set (lb ltI (ids l) s.id) s, 0) := by
  have hput := put_at hr s
  rw [if_pos h] at hput
  rw [setF, if_neg (by rw [h]; simp), ins_eq hr, ← hput]
theorem set_full {l : List Ses} {s : Ses} {most : Int} (h : has l s.id = false) (h2 : decide (most ≤ l.length) = true) : setF l s most = (l, 2) := by
  rw [setF, if_pos (by rw [h, h2]; rfl)]
theorem set_new {l : List Ses} (hr : Up l) {s : Ses} {most : Int} (h : has l s.id = false) (h2 : decide (most ≤ l.length) = false) : setF l s most = (l.take (lb ltI (ids l) s.id) ++ [s] ++ l.drop (lb ltI (ids l) s.id), 0) := by
  have hput := put_at hr s
  rw [if_neg (by rw [h]; decide)] at hput
  rw [setF, if_neg (by rw [h, h2]; simp), ins_eq hr, ← hput]
theorem clear_at {l : List Ses} (hr : Up l) (id : Int) : (if has l id = true then l.take (lb ltI (ids l) id) ++ l.drop (lb ltI (ids l) id + 1) else l) = clear l id := by
  have h := congrArg (List.map Prod.snd) (without_eq ordI eqI_iff (m := keyed l) (by rw [RisesM, keyed_fst]; exact hr) id)
  have f1 : ((keyed l).filter (fun p => !eqI p.1 id)).map Prod.snd = clear l id := by
    rw [keyed, List.filter_map, List.map_map]
    exact List.map_id _
  rw [f1] at h
  unfold q21 at h
  rw [keyed_fst, has_at hr] at h
  refine Eq.trans ?_ h
  split
  · rw [List.map_append, List.map_take, List.map_drop, keyed_snd]
  · rw [keyed_snd]

theorem sess_Set (l : List Ses) (s : Ses) (most : Int) (hr : Up l) (hlen : l.length ≤ 900000) :
    PCall P 95 [.sl 4 (avs l), s.av, i64 most] (fun x => x = .tup [.sl 4 (avs (setF l s most).1), i64 (setF l s most).2]) := by
  refine q0r tyOk Tryz.func95 rfl rfl ?_
  intro K hK
  simp only [Tryz.ntmps95, List.length_cons, List.length_nil, Nat.reduceAdd, Nat.reduceSub, List.replicate, List.cons_append, List.nil_append]
  try simp (maxSteps := 1000000) only [seval, Ses.av]
  refine callG_new rfl (by first | exact Nat.zero_le _ | decide | simp) (ACallR.new (clone_ses _ (by rw [q11]; omega)) rfl (by first | decide | simp)) ?_
  try simp (maxSteps := 1000000) only [seval, q11, Ses.av]
  refine q3f ?_
  try simp (maxSteps := 1000000) only [seval]
  refine callG_lend (find_ses l hr s.id (by omega)) ?_ rfl ?_
  · simp only [q00]
    rw [truncV_own (xs := avs l) rfl (q11 l)]
    rfl
  rw [has_at hr]
  try simp (maxSteps := 1000000) only [seval]
  (first | refine q0j ?_ ?_ | refine q0k ?_ ?_ | refine q0l ?_ ?_ | refine q0m ?_ ?_ | refine q0i ?_ ?_) <;> intro h
  · have hlt := at_lt hr h
    have eg := avs_get hlt
    have c1 : (0 : Int) ≤ ((lb ltI (ids l) s.id : Nat) : Int) ∧ Int.toNat ((lb ltI (ids l) s.id : Nat) : Int) < l.length := by omega
    rw [set_has hr most h] at hK
    try simp (maxSteps := 1000000) only [seval, eg, c1, q11, Ses.av]
    apply hK
    simp only [Tryz.results95, retK, ares, Bool.and_true, Bool.true_and, AV.ofResults, St.trunc, q00, q01, List.getD_cons_zero, List.getD_cons_succ, List.take_zero, List.drop_zero, List.map_nil, List.getElem?_cons_zero, List.getElem?_cons_succ, Nat.reduceLeDiff, true_and, and_true, ↓reduceIte, List.cons.injEq, exists_eq_left']
    have e1 := avs_set l (lb ltI (ids l) s.id) s
    simp only [Ses.av] at e1
    rw [Int.toNat_natCast, e1, q2l (by rw [q11, List.length_set])]
  · have h : has l s.id = false := h
    try simp (maxSteps := 1000000) only [seval, q11]
    (first | refine q0j ?_ ?_ | refine q0k ?_ ?_ | refine q0l ?_ ?_ | refine q0m ?_ ?_ | refine q0i ?_ ?_) <;> intro h2
    · rw [set_full h h2] at hK
      try simp (maxSteps := 1000000) only [seval]
      apply hK
      simp only [Tryz.results95, retK, ares, Bool.and_true, Bool.true_and, AV.ofResults, St.trunc, q00, q01, List.getD_cons_zero, List.getD_cons_succ, List.take_zero, List.drop_zero, List.map_nil, List.getElem?_cons_zero, List.getElem?_cons_succ, Nat.reduceLeDiff, true_and, and_true, ↓reduceIte, List.cons.injEq, exists_eq_left']
      rw [q2l (q11 l)]
    · have h2 : decide (most ≤ l.length) = false := h2
      rw [set_new hr h h2] at hK
      have hins := insert_ses (avs l) s.av (lb ltI (ids l) s.id) (by rw [q11]; have := lb_le (lt := ltI) (ids l) s.id; rwa [ids_len] at this) (by rw [q11]; omega)
      rw [q11] at hins
      have hle : lb ltI (ids l) s.id ≤ l.length := by have := lb_le (lt := ltI) (ids l) s.id; rwa [ids_len] at this
      try simp (maxSteps := 1000000) only [seval]
      refine callO_some [2] rfl ?_
      try simp (maxSteps := 1000000) only [seval]
      refine callG_R (b := 1) (by decide) (q16.toR hins rfl rfl rfl rfl rfl) ?_
      try simp (maxSteps := 1000000) only [seval]
      apply hK
      simp only [Tryz.results95, retK, ares, Bool.and_true, Bool.true_and, AV.ofResults, St.trunc, q00, q01, List.getD_cons_zero, List.getD_cons_succ, List.take_zero, List.drop_zero, List.map_nil, List.getElem?_cons_zero, List.getElem?_cons_succ, Nat.reduceLeDiff, true_and, and_true, ↓reduceIte, List.cons.injEq, exists_eq_left']
      rw [q2l (by simp [q11]; omega)]
      simp only [avs, List.map_append, List.map_take, List.map_drop, List.map_cons, List.map_nil]

theorem sess_Clear (l : List Ses) (id : Int) (hr : Up l) (hlen : l.length ≤ 900000) :
    PCall P 97 [.sl 4 (avs l), i64 id] (fun x => x = .tup [.sl 4 (avs (clear l id)), i64 (if has l id = true then 0 else 3)]) := by
  refine q0r tyOk Tryz.func97 rfl rfl ?_
  intro K hK
  simp only [Tryz.ntmps97, List.length_cons, List.length_nil, Nat.reduceAdd, Nat.reduceSub, List.replicate, List.cons_append, List.nil_append]
  try simp (maxSteps := 1000000) only [seval]
  refine callG_new rfl (by first | exact Nat.zero_le _ | decide | simp) (ACallR.new (clone_ses _ (by rw [q11]; omega)) rfl (by first | decide | simp)) ?_
  try simp (maxSteps := 1000000) only [seval, q11]
  refine q3f ?_
  try simp (maxSteps := 1000000) only [seval]
  refine callG_lend (find_ses l hr id (by omega)) ?_ rfl ?_
  · simp only [q00]
    rw [truncV_own (xs := avs l) rfl (q11 l)]
    rfl
  rw [has_at hr]
  have hc := clear_at hr id
  try simp (maxSteps := 1000000) only [seval]
  cases h : has l id
  · rw [h, if_neg (by decide)] at hc
    rw [h, ← hc] at hK
    try simp (maxSteps := 1000000) only [seval]
    apply hK
    simp only [Tryz.results97, retK, ares, Bool.and_true, Bool.true_and, AV.ofResults, St.trunc, q00, q01, List.getD_cons_zero, List.getD_cons_succ, List.take_zero, List.drop_zero, List.map_nil, List.getElem?_cons_zero, Nat.le_refl, true_and, and_true, ↓reduceIte, Bool.false_eq_true, List.cons.injEq, exists_eq_left']
    rw [q2l (q11 l)]
  · have hlt := at_lt hr h
    have ew : IntKind.i64.wrap (((lb ltI (ids l) id : Nat) : Int) + 1) = ((lb ltI (ids l) id + 1 : Nat) : Int) := by rw [wrap_i64 (by omega) (by omega)]; rfl
    rw [h, if_pos (by rfl)] at hc
    rw [h, ← hc] at hK
    try simp (maxSteps := 1000000) only [seval, ew]
    refine q3f ?_
    try simp (maxSteps := 1000000) only [seval]
    have hdel := delete_ses (avs l) (lb ltI (ids l) id) (by rw [q11]; exact hlt) (by rw [q11]; omega)
    rw [q11] at hdel
    (refine q54 hdel [0] (by decide) rfl rfl rfl rfl ?_; rintro _ _ ⟨rfl, rfl⟩; refine ⟨rfl, ?_⟩)
    try simp (maxSteps := 1000000) only [seval]
    apply hK
    simp only [Tryz.results97, retK, ares, Bool.and_true, Bool.true_and, AV.ofResults, St.trunc, q00, q01, List.getD_cons_zero, List.getD_cons_succ, List.take_zero, List.drop_zero, List.map_nil, List.getElem?_cons_zero, Nat.le_refl, true_and, and_true, ↓reduceIte, List.cons.injEq, exists_eq_left']
    have e := cut_last (sz := 4) (f := zses) (xs := avs l) (i := lb ltI (ids l) id) (by rw [q11]; exact hlt)
    rw [q11] at e
    rw [e]
    simp only [avs, List.map_append, List.map_take, List.map_drop]

def bmpS (id until_ : Int) (s : Ses) : Ses := if (s.id == id && decide (s.un < until_)) = true then { s with un := until_ } else s
def beatF (l : List Ses) (id until_ : Int) : List Ses × Int := if has l id = true then (l.map (bmpS id until_), 0) else (l, 3)
theorem bmpS_ne {s : Ses} {id u : Int} (h : s.id ≠ id) : bmpS id u s = s := by
  unfold bmpS; rw [if_neg (by simp [h])]
theorem bmpS_at2 {l : List Ses} (hr : Up l) {id : Int} (u : Int) {i : Nat} (hlt : i < l.length) (hid : l[i].id = id) : l.set i (bmpS id u l[i]) = l.map (bmpS id u) := by
  apply List.ext_getElem (by simp)
  intro j h1 h2
  rw [List.getElem_map, List.getElem_set]
  split
  · rename_i e; subst e; rfl
  · rename_i hne
    have hj : j < l.length := by simpa using h2
    have hne2 : l[j].id ≠ id := by
      have hp := List.pairwise_iff_getElem.1 (up_iff.1 hr)
      rcases Nat.lt_or_gt_of_ne hne with h3 | h3
      · have := hp i j hlt hj h3; omega
      · have := hp j i hj hlt h3; omega
    exact (bmpS_ne hne2).symm
theorem bmpS_at {l : List Ses} (hr : Up l) {id : Int} (u : Int) (h : has l id = true) : l.set (lb ltI (ids l) id) (bmpS id u (l[lb ltI (ids l) id]'(at_lt hr h))) = l.map (bmpS id u) :=
  bmpS_at2 hr u (at_lt hr h) (at_id hr h)
theorem bmpS_av {s : Ses} {id u : Int} (h : s.id = id) : AV.agg [i64 s.id, i64 s.st, i64 s.pr, .v (.int .u64 (if u > s.un then u else s.un))] = (bmpS id u s).av := by
  by_cases hc : u > s.un
  · have : bmpS id u s = { s with un := u } := by unfold bmpS; rw [if_pos (by simp [h]; exact hc)]
    rw [this, if_pos hc]; rfl
  · have : bmpS id u s = s := by unfold bmpS; rw [if_neg (by simp [h]; omega)]
    rw [this, if_neg hc]; rfl
theorem sess_Beat (l : List Ses) (id u : Int) (hr : Up l) (hlen : l.length ≤ 900000) :
    PCall P 96 [.sl 4 (avs l), i64 id, u64 u] (fun x => x = .tup [.sl 4 (avs (beatF l id u).1), i64 (beatF l id u).2]) := by
  refine q0r tyOk Tryz.func96 rfl rfl ?_
  intro K hK
  simp only [Tryz.ntmps96, List.length_cons, List.length_nil, Nat.reduceAdd, Nat.reduceSub, List.replicate, List.cons_append, List.nil_append]
  try simp (maxSteps := 1000000) only [seval]
  refine callG_new rfl (by first | exact Nat.zero_le _ | decide | simp) (ACallR.new (clone_ses _ (by rw [q11]; omega)) rfl (by first | decide | simp)) ?_
  try simp (maxSteps := 1000000) only [seval, q11]
  refine q3f ?_
  try simp (maxSteps := 1000000) only [seval]
  refine callG_lend (find_ses l hr id (by omega)) ?_ rfl ?_
  · simp only [q00]
    rw [truncV_own (xs := avs l) rfl (q11 l)]
    rfl
  rw [has_at hr]
  unfold beatF at hK
  try simp (maxSteps := 1000000) only [seval]
  cases h : has l id
  · rw [h, if_neg (by decide)] at hK
    try simp (maxSteps := 1000000) only [seval]
    apply hK
    simp only [Tryz.results96, retK, ares, Bool.and_true, Bool.true_and, AV.ofResults, St.trunc, q00, q01, List.getD_cons_zero, List.getD_cons_succ, List.take_zero, List.drop_zero, List.map_nil, List.getElem?_cons_zero, Nat.le_refl, true_and, and_true, ↓reduceIte, List.cons.injEq, exists_eq_left']
    rw [q2l (q11 l)]
  · have hlt := at_lt hr h
    have hid := at_id hr h
    have hb := bmpS_at hr u h
    have eg := avs_get hlt
    have c1 : (0 : Int) ≤ ((lb ltI (ids l) id : Nat) : Int) ∧ Int.toNat ((lb ltI (ids l) id : Nat) : Int) < l.length := by omega
    rw [h, if_pos rfl] at hK
    generalize l[lb ltI (ids l) id] = s at hid hb eg
    try simp (maxSteps := 1000000) only [seval, eg, c1, q11, Ses.av]
    apply hK
    simp only [Tryz.results96, retK, ares, Bool.and_true, Bool.true_and, AV.ofResults, St.trunc, q00, q01, List.getD_cons_zero, List.getD_cons_succ, List.take_zero, List.drop_zero, List.map_nil, List.getElem?_cons_zero, Nat.le_refl, true_and, and_true, ↓reduceIte, List.cons.injEq, exists_eq_left']
    rw [bmpS_av hid, Int.toNat_natCast, avs_set, hb, q2l (by rw [q11, List.length_map])]
end Go.Proofs.YtdkcpcflfnakdaaGreat
namespace Go.Proofs.YtdkcpcflfnakdaaGreat
open Go Go.Proofs.YtdkcpcflfnakdaaGreat.Sym
attribute [-sevalprocAttr] Int.reduceToNat Int.reduceNatCast Int.reduceNatCast' Nat.reduceSubDiff
set_option maxRecDepth 100000
set_option maxHeartbeats 1000000
set_option linter.unusedSimpArgs false
set_option linter.unusedVariables false

def yields (l : List Ses) : List (List AV) := l.map fun s => [s.av]

theorem aggr_Live (xs : List AV) (now : Int) : PCall P 109 [.sl 4 xs, u64 now] (fun x => x = .fn 128 [.rp [.sl 4 xs], .rp [u64 now]]) := by
  refine q0r tyOk Tryz.func109 rfl rfl ?_
  intro K hK
  simp only [Tryz.ntmps109, List.length_cons, List.length_nil, Nat.reduceAdd, Nat.reduceSub, List.replicate, List.cons_append, List.nil_append]
  try simp (maxSteps := 1000000) only [seval]
  apply hK
  simp only [Tryz.results109, retK, ares, q14, AV.pure, Bool.and_self, Bool.and_true, Bool.true_and, AV.ofResults, St.trunc, q00, q01, List.getD_cons_zero, List.getD_cons_succ, List.take_zero, List.drop_zero, List.map_nil, List.getElem?_cons_zero, List.getElem?_cons_succ, Nat.reduceLeDiff, Nat.le_refl, true_and, and_true, ↓reduceIte, List.cons.injEq, exists_eq_left']

theorem q5d {now : Int} {l : List Ses} (i : Nat) : yields (lives now (l.take i)) <+: yields (lives now l) :=
  ((List.take_prefix i l).filter _).map _

theorem aggr_Live_seq (l : List Ses) (now : Int) (hlen : l.length < 9223372036854775807) : ICall P 128 [.rp [.sl 4 (avs l)], .rp [u64 now]] (yields (lives now l)) := by
  refine icall_goY tyOk Tryz.func128 rfl rfl rfl ?_
  intro y K hK
  simp only [Tryz.ntmps128, List.length_cons, List.length_nil, Nat.reduceAdd, Nat.reduceSub, List.replicate, List.cons_append, List.nil_append]
  try simp (maxSteps := 1000000) only [seval]
  refine loopY_rule tyOk (α := Nat) 0 [0, 1, 2, 6, 7, 8] (fun i => i ≤ l.length)
    (fun i => ⟨[.v y, .rp [.sl 4 (avs l)], .rp [u64 now], .any, .any, .any, .sl 4 (avs l), i64 l.length, i64 i] ++ List.replicate 15 .any, []⟩)
    (fun i => (yields (lives now (l.take i)), false)) (fun i => l.length - i) 0 (Nat.le_refl _) (Nat.zero_le _) (by rw [q11]; rfl) rfl ?_
  intro i hi
  try simp (maxSteps := 1000000) only [seval]
  (first | refine q0j ?_ ?_ | refine q0k ?_ ?_ | refine q0l ?_ ?_ | refine q0m ?_ ?_ | refine q0i ?_ ?_) <;> intro h <;> try simp (maxSteps := 1000000) only [seval]
  · have hlt : i < l.length := by simpa using h
    have eg := avs_get hlt
    have ew : IntKind.i64.wrap ((i : Int) + 1) = ((i + 1 : Nat) : Int) := by rw [wrap_i64 (by omega) (by omega)]; rfl
    have c1 : (0 : Int) ≤ (i : Int) ∧ Int.toNat (i : Int) < (avs l).length := by rw [q11]; omega
    try simp (maxSteps := 1000000) only [seval, eg, c1, Ses.av]
    (refine callY_use (tick_Late _ _) rfl rfl rfl rfl ?_; rintro _ rfl)
    try simp (maxSteps := 1000000) only [seval]
    cases hl : (l[i]).lives now with
    | false =>
      have e1 : (!decide ((l[i]).un ≤ now)) = false := hl
      try simp (maxSteps := 1000000) only [seval, e1, ew]
      simp only [q47, St.trunc, St.keep, q00, q01, keepV, q14, AV.pure, Bool.and_self, List.drop_zero, List.drop_succ_cons, List.elem_cons, List.elem_nil, List.take_zero, List.map_nil, List.getElem?_cons_zero, Nat.reduceAdd, Nat.reduceBEq, Nat.le_refl, Nat.zero_add, Bool.false_eq_true, ↓reduceIte]
      exact ⟨i + 1, hlt, by omega, rfl, by rw [q5g hlt hl]⟩
    | true =>
      have e1 : (!decide ((l[i]).un ≤ now)) = true := hl
      try simp (maxSteps := 1000000) only [seval, e1]
      have e2 : yields (lives now (l.take i)) ++ [[sess (l[i]).id (l[i]).st (l[i]).pr (l[i]).un]] = yields (lives now (l.take (i + 1))) := by
        rw [lives_take_in hlt hl]; simp [yields]; rfl
      refine ⟨⟨by rw [e2]; exact q5d _, rfl⟩, ?_⟩
      intro b
      cases b with
      | true =>
        try simp (maxSteps := 1000000) only [seval, ew]
        simp only [q47, St.trunc, St.keep, q00, q01, keepV, q14, AV.pure, Bool.and_self, List.drop_zero, List.drop_succ_cons, List.elem_cons, List.elem_nil, List.take_zero, List.map_nil, List.getElem?_cons_zero, Nat.reduceAdd, Nat.reduceBEq, Nat.le_refl, Nat.zero_add, Bool.false_eq_true, ↓reduceIte]
        exact ⟨i + 1, hlt, by omega, rfl, by rw [e2]⟩
      | false =>
        try simp (maxSteps := 1000000) only [seval]
        exact hK _ _ _ (itK_ret ⟨by rw [e2]; exact q5d _, fun h => by cases h⟩)
  · have hge : i = l.length := by have : ¬ ((i : Int) < (l.length : Int)) := by simpa using h
                                  omega
    subst hge
    refine hK _ _ _ (itK_normal ⟨q5d _, fun _ => by rw [List.take_length]⟩)

def better (p1 i1 p2 i2 : Int) : Bool := decide (p2 < p1) || (p1 == p2 && decide (i1 < i2))

theorem aggr_Better (i1 s1 p1 u1 i2 s2 p2 u2 : Int) : PCall P 110 [sess i1 s1 p1 u1, sess i2 s2 p2 u2] (fun x => x = bool (better p1 i1 p2 i2)) := by
  refine q0r tyOk Tryz.func110 rfl rfl ?_
  intro K hK
  simp only [Tryz.ntmps110, List.length_cons, List.length_nil, Nat.reduceAdd, Nat.reduceSub, List.replicate, List.cons_append, List.nil_append]
  try simp (maxSteps := 1000000) only [seval]
  (first | refine q0j ?_ ?_ | refine q0k ?_ ?_ | refine q0l ?_ ?_ | refine q0m ?_ ?_ | refine q0i ?_ ?_) <;> intro h <;> try simp (maxSteps := 1000000) only [seval]
  · apply hK
    simp only [Tryz.results110, retK, ares, Bool.and_true, Bool.true_and, AV.ofResults, St.trunc, q00, q01, List.getD_cons_zero, List.getD_cons_succ, List.take_zero, List.map_nil, true_and, and_true, List.cons.injEq, exists_eq_left']
    rw [better, h]
    rfl
  · (first | refine q0j ?_ ?_ | refine q0k ?_ ?_ | refine q0l ?_ ?_ | refine q0m ?_ ?_ | refine q0i ?_ ?_) <;> intro h2 <;> try simp (maxSteps := 1000000) only [seval]
    · apply hK
      simp only [Tryz.results110, retK, ares, Bool.and_true, Bool.true_and, AV.ofResults, St.trunc, q00, q01, List.getD_cons_zero, List.getD_cons_succ, List.take_zero, List.map_nil, true_and, and_true, List.cons.injEq, exists_eq_left']
      rw [better, h, h2]
      rfl
    · apply hK
      simp only [Tryz.results110, retK, ares, Bool.and_true, Bool.true_and, AV.ofResults, St.trunc, q00, q01, List.getD_cons_zero, List.getD_cons_succ, List.take_zero, List.map_nil, true_and, and_true, List.cons.injEq, exists_eq_left']
      rw [better, h, h2]
      rfl

def bestStep (b : Ses × Int) (s : Ses) : Ses × Int := (if b.2 == 0 || better s.pr s.id b.1.pr b.1.id then s else b.1, b.2 + 1)
def bestF (l : List Ses) : Ses × Int := l.foldl bestStep (⟨0, 0, 0, 0⟩, 0)
theorem bestF_next {l : List Ses} {i : Nat} (h : i < l.length) : bestF (l.take (i + 1)) = bestStep (bestF (l.take i)) l[i] := by
  rw [q24 h, bestF, List.foldl_append]; rfl
theorem bestF_count (l : List Ses) : (bestF l).2 = l.length := by
  have : ∀ (l : List Ses) (b : Ses × Int), (l.foldl bestStep b).2 = b.2 + l.length := by
    intro l
    induction l with
    | nil => simp
    | cons s l ih => intro b; simp only [List.foldl_cons, ih, bestStep, List.length_cons]; omega
  rw [bestF, this]; simp
abbrev pres (st pr n : Int) : AV := .agg [i64 st, i64 pr, i64 n]
def ofMem (b : Ses × Int) : List AB := [.box [i64 0, i64 0, i64 0], .box [i64 b.1.id, i64 b.1.st, i64 b.1.pr, u64 b.1.un], .box [i64 b.2]]

theorem aggr_Of (l : List Ses) (now : Int) (hlen : l.length < 9223372036854775807) :
    PCall P 79 [.sl 4 (avs l), u64 now] (fun x => x = pres (bestF (lives now l)).1.st (bestF (lives now l)).1.pr (bestF (lives now l)).2) := by
  refine pcall_goY tyOk Tryz.func79 rfl rfl ?_
  intro K hK
  simp only [Tryz.ntmps79, List.length_cons, List.length_nil, Nat.reduceAdd, Nat.reduceSub, List.replicate, List.cons_append, List.nil_append]
  try simp (maxSteps := 1000000) only [seval]
  (refine q0g (aggr_Live _ _) rfl ?_; rintro _ rfl)
  try simp (maxSteps := 1000000) only [seval]
  have hll : (lives now l).length ≤ l.length := List.length_filter_le _ _
  refine range_rule tyOk (aggr_Live_seq l now hlen) (α := Nat) 3 3 [4, 5, 6] ([.any, .any, .any, .any, .ptr 0 0, .ptr 1 0, .ptr 2 0] ++ List.replicate 21 .any) (fun xs i => i = xs.length) (fun i => ofMem (bestF ((lives now l).take i))) 0 rfl rfl
    (fun x hx => by simp only [yields, List.mem_map] at hx; obtain ⟨s, _, rfl⟩ := hx; rfl) (Nat.zero_le _) (Nat.le_refl _) (by rfl) rfl rfl ?_ ?_
  · rintro xs x _ hpre rfl
    obtain ⟨hi, _, rfl⟩ := q50 hpre
    have hb := bestF_next hi
    have hc := bestF_count ((lives now l).take xs.length)
    generalize (lives now l)[xs.length] = s at hb
    generalize bestF ((lives now l).take xs.length) = b at hb hc
    try simp (maxSteps := 1000000) only [seval, ofMem, Ses.av]
    have hw : IntKind.i64.wrap (b.2 + 1) = b.2 + 1 := by
      rw [wrap_i64 (by omega) (by rw [hc, List.length_take]; omega)]
    (first | refine q0j ?_ ?_ | refine q0k ?_ ?_ | refine q0l ?_ ?_ | refine q0m ?_ ?_ | refine q0i ?_ ?_) <;> intro h
    · try simp (maxSteps := 1000000) only [seval, hw]
      simp only [q31, St.trunc, q00, q01, AB.trunc, q14, AV.pure, Bool.and_self, List.drop_zero, List.take_succ_cons, List.take_zero, List.map_cons, List.map_nil, List.getElem?_cons_zero, List.getElem?_cons_succ, Nat.reduceLeDiff, Nat.le_refl, ↓reduceIte]
      exact ⟨_, rfl, by rw [hb]; simp only [bestStep, h, Bool.true_or, if_true]⟩
    · try simp (maxSteps := 1000000) only [seval]
      (refine q0g (aggr_Better _ _ _ _ _ _ _ _) rfl ?_; rintro _ rfl)
      try simp (maxSteps := 1000000) only [seval]
      (first | refine q0j ?_ ?_ | refine q0k ?_ ?_ | refine q0l ?_ ?_ | refine q0m ?_ ?_ | refine q0i ?_ ?_) <;> intro h2 <;> try simp (maxSteps := 1000000) only [seval, hw] <;> simp only [q31, St.trunc, q00, q01, AB.trunc, q14, AV.pure, Bool.and_self, List.drop_zero, List.take_succ_cons, List.take_zero, List.map_cons, List.map_nil, List.getElem?_cons_zero, List.getElem?_cons_succ, Nat.reduceLeDiff, Nat.le_refl, ↓reduceIte]
      · exact ⟨_, rfl, by rw [hb]; simp only [bestStep, h, h2, Bool.false_or, if_true]⟩
      · exact ⟨_, rfl, by rw [hb]; simp only [bestStep, h, h2, Bool.false_or, Bool.false_eq_true, if_false]⟩
  · rintro _ rfl
    have e1 : (lives now l).take (yields (lives now l)).length = lives now l := by rw [yields, List.length_map, List.take_length]
    try simp (maxSteps := 1000000) only [seval, ofMem, e1]
    apply hK
    simp only [Tryz.results79, retK, ares, List.take_nil, Bool.and_true, Bool.true_and, AV.ofResults, St.trunc, q00, q01, aload, acell, T, TI.isAgg, List.getD_cons_zero, List.getD_cons_succ, List.take_zero, List.take_succ_cons, List.drop_zero, List.map_nil, List.getElem?_cons_zero, List.length_cons, List.length_nil, Nat.reduceAdd, Nat.le_refl, true_and, and_true, ↓reduceIte, List.cons.injEq, exists_eq_left']
end Go.Proofs.YtdkcpcflfnakdaaGreat
