/- The base of the laws of this seat: texts of this session, joined by a program. -/
import Derived.Test.YtdkcpcflfnakdaaGreatMb
import Derived.Test.YtdkcpcflfnakdaaGreatMa
namespace Go.Proofs.YtdkcpcflfnakdaaGreat
open Go Go.Proofs.YtdkcpcflfnakdaaGreat.Sym
attribute [-sevalprocAttr] Int.reduceToNat Int.reduceNatCast Int.reduceNatCast' Nat.reduceSubDiff
set_option maxRecDepth 100000
set_option maxHeartbeats 1000000
set_option linter.unusedSimpArgs false
set_option linter.unusedVariables false

theorem purge_late (now : Int) (s : Ses) (row : List AV) : ACall P 116 [.box [u64 now], .row 151 4 row] [s.av, .ptr 0 0] (fun x m' => x = bool (decide (s.un ≤ now)) ∧ m' = [.box [u64 now], .row 151 4 row]) := by
  refine q39 tyOk Tryz.func116 rfl rfl ?_
  intro K hK
  simp only [Tryz.ntmps116, List.length_cons, List.length_nil, Nat.reduceAdd, Nat.reduceSub, List.replicate, List.cons_append, List.nil_append]
  try simp (maxSteps := 1000000) only [seval, Ses.av]
  (refine q07 (tick_Late now s.un) rfl ?_; rintro _ rfl)
  try simp (maxSteps := 1000000) only [seval]
  apply hK
  simp only [Tryz.results116, retK, ares, Bool.and_true, AV.ofResults, St.trunc, q00, q01, AB.trunc, List.getD_cons_zero, List.getD_cons_succ, List.take_zero, List.take_succ_cons, List.map_nil, List.map_cons, List.length_cons, List.length_nil, Nat.reduceAdd, and_true, List.cons.injEq, exists_eq_left']
theorem index_dead (now : Int) (l : List Ses) (hlen : l.length ≤ 1000000) : ACall P 132 [.box [u64 now], .row 151 4 (avs l)] [.own 1 4 0 l.length, .fn 116 [.ptr 0 0]]
    (fun x m' => (∃ i : Int, x = i64 i ∧ ((i = -1 ∧ lives now l = l) ∨ ∃ d : Nat, i = d ∧ ∃ h : d < l.length, (l[d]).lives now = false ∧ lives now (l.take d) = l.take d)) ∧ m' = [.box [u64 now], .row 151 4 (avs l)]) := by
  refine q39 tyOk Tryz.func132 rfl rfl ?_
  intro K hK
  simp only [Tryz.ntmps132, List.length_cons, List.length_nil, Nat.reduceAdd, Nat.reduceSub, List.replicate, List.cons_append, List.nil_append]
  try simp (maxSteps := 1000000) only [seval]
  refine q1h tyOk (α := Nat) 2 [0, 1, 7, 8] (fun i => i ≤ l.length ∧ lives now (l.take i) = l.take i)
    (fun i => ⟨[.own 1 4 0 l.length, .fn 116 [.ptr 0 0], .any, .any, .any, .any, .any, i64 l.length, i64 i, .any, .any, .any, .any, .any, .any, .any, .any, .any, .any], [.box [u64 now], .row 151 4 (avs l)]⟩)
    (fun i => l.length - i) 0 (by first | exact Nat.zero_le _ | decide) ⟨Nat.zero_le _, rfl⟩ rfl ?_
  rintro i ⟨hi, hl⟩
  try simp (maxSteps := 1000000) only [seval]
  (first | refine q0g ?_ ?_ | refine q0k ?_ ?_ | refine q0l ?_ ?_ | refine q0m ?_ ?_ | refine q0h ?_ ?_) <;> intro h
  · obtain ⟨hlt, eg, ew, c1⟩ := at_idx (by omega) h
    try simp (maxSteps := 1000000) only [seval, eg, c1, q12]
    (refine q53 (purge_late now l[i] (avs l)) [0, 1] (by decide) rfl rfl rfl rfl ?_; rintro _ _ ⟨rfl, rfl⟩; refine ⟨rfl, ?_⟩)
    try simp (maxSteps := 1000000) only [seval]
    (first | refine q0g ?_ ?_ | refine q0k ?_ ?_ | refine q0l ?_ ?_ | refine q0m ?_ ?_ | refine q0h ?_ ?_) <;> intro h2
    · have hd : (l[i]).lives now = false := by
        have : l[i].un ≤ now := by simpa using h2
        simp only [Ses.lives, Bool.not_eq_false', decide_eq_true_eq]; exact this
      try simp (maxSteps := 1000000) only [seval]
      apply hK
      simp only [Tryz.results132, retK, ares, List.take_nil, Bool.and_true, AV.ofResults, St.trunc, q00, q01, AB.trunc, List.getD_cons_zero, List.getD_cons_succ, List.take_succ_cons, List.map_nil, List.map_cons, List.length_cons, List.length_nil, Nat.reduceAdd, and_true, List.cons.injEq, exists_eq_left']
      exact ⟨(i : Int), rfl, .inr ⟨i, rfl, hlt, hd, hl⟩⟩
    · have hd : (l[i]).lives now = true := by
        have : ¬ l[i].un ≤ now := by simpa using h2
        simp only [Ses.lives, Bool.not_eq_true', decide_eq_false_iff_not]; exact this
      try simp (maxSteps := 1000000) only [seval, ew]
      simp only [q0p, St.trunc, St.keep, q00, q01, AB.trunc, keepV, List.elem_cons, List.elem_nil, List.take_succ_cons, List.take_zero, List.map_cons, List.map_nil, Nat.reduceAdd, Nat.reduceBEq, Nat.reduceLeDiff, Nat.zero_add, Bool.false_eq_true, ↓reduceIte]
      exact ⟨i + 1, ⟨hlt, by rw [lives_take_in hlt hd, hl, ← q23 hlt]⟩, by omega, rfl⟩
  · obtain rfl := at_end hi h
    rw [List.take_length] at hl
    try simp (maxSteps := 1000000) only [seval]
    apply hK
    simp only [Tryz.results132, retK, ares, List.take_nil, Bool.and_true, AV.ofResults, St.trunc, q00, q01, AB.trunc, List.getD_cons_zero, List.getD_cons_succ, List.take_succ_cons, List.map_nil, List.map_cons, List.length_cons, List.length_nil, Nat.reduceAdd, and_true, List.cons.injEq, exists_eq_left']
    exact ⟨-1, rfl, .inl ⟨rfl, hl⟩⟩

theorem set_mid {α : Type} {a g b : List α} {x y : α} : (a ++ (x :: g) ++ b).set a.length y = a ++ (y :: g) ++ b := by
  induction a with
  | nil => rfl
  | cons z a ih => simp
theorem avs_set (l : List Ses) (i : Nat) (s : Ses) : (avs l).set i s.av = avs (l.set i s) := by rw [avs, avs, List.map_set]
abbrev zses : AV := .agg [i64 0, i64 0, i64 0, u64 0]
theorem delete_dead (now : Int) (l : List Ses) (hlen : l.length ≤ 1000000) : ACall P 114 [.box [u64 now], .row 151 4 (avs l)] [.own 1 4 0 l.length, .fn 116 [.ptr 0 0]]
    (fun x m' => x = .own 1 4 0 (lives now l).length ∧ ∃ g, m' = [.box [u64 now], .row 151 4 (avs (lives now l) ++ g)]) := by
  refine q39 tyOk Tryz.func114 rfl rfl ?_
  intro K hK
  simp only [Tryz.ntmps114, List.length_cons, List.length_nil, Nat.reduceAdd, Nat.reduceSub, List.replicate, List.cons_append, List.nil_append]
  try simp (maxSteps := 1000000) only [seval]
  refine q3b ?_
  try simp (maxSteps := 1000000) only [seval]
  refine q53 (index_dead now l hlen) [0, 1] (by decide) rfl rfl rfl rfl ?_
  rintro _ _ ⟨⟨i, rfl, hi⟩, rfl⟩
  refine ⟨rfl, ?_⟩
  try simp (maxSteps := 1000000) only [seval]
  rcases hi with ⟨rfl, hl⟩ | ⟨d, rfl, hd, hdead, hl⟩
  · try simp (maxSteps := 1000000) only [seval]
    apply hK
    simp only [Tryz.results114, retK, ares, List.take_nil, Bool.and_true, Bool.true_and, AV.ofResults, St.trunc, q00, q01, AB.trunc, List.getD_cons_zero, List.getD_cons_succ, List.take_succ_cons, List.map_nil, List.map_cons, List.length_cons, List.length_nil, Nat.reduceAdd, Nat.reduceLeDiff, true_and, and_true, ↓reduceIte, List.cons.injEq, exists_eq_left']
    rw [hl]
    exact ⟨rfl, [], by rw [List.append_nil]⟩
  · have e0 : ((d : Int) == -1) = false := by rw [beq_eq_false_iff_ne]; omega
    have ew0 : IntKind.i64.wrap ((d : Int) + 1) = ((d + 1 : Nat) : Int) := by rw [wrap_i64 (by omega) (by omega)]; rfl
    have hl1 : lives now (l.take (d + 1)) = l.take d := by rw [q5h hd hdead, hl]
    have hdl : (l.take d).length = d := by rw [List.length_take]; omega
    try simp (maxSteps := 1000000) only [seval, e0, ew0]
    refine q1h tyOk (α := Nat × List Ses) 2 [0, 1, 5, 6] (fun p => p.1 ≤ l.length ∧ 0 < p.2.length ∧ (lives now (l.take p.1)).length + p.2.length = p.1)
      (fun p => ⟨[.own 1 4 0 l.length, .fn 116 [.ptr 0 0], .any, .any, .any, i64 (lives now (l.take p.1)).length, i64 p.1, .any, .any, .any, .any, .any, .any, .any, .any, .any, .any, .any, .any, .any, .any, .any, .any, .any, .any, .any, .any, .any, .any, .any, .any, .any, .any, .any, .any, .any, .any, .any, .any, .any, .any, .any], [.box [u64 now], .row 151 4 (avs (lives now (l.take p.1) ++ p.2 ++ l.drop p.1))]⟩)
      (fun p => l.length - p.1) (d + 1, [l[d]]) (by first | exact Nat.zero_le _ | decide) ⟨hd, by simp, by simp only [List.length_singleton]; rw [hl1, hdl]⟩ ?_ ?_
    · have e1 : l.take d ++ [l[d]] ++ l.drop (d + 1) = l := by
        rw [← q23 hd, List.take_append_drop]
      simp only [hl1, hdl, e1]
      rfl
    rintro ⟨j, g⟩ ⟨hj, hg, hjg⟩
    simp only at hj hg hjg
    obtain ⟨A, hA⟩ : ∃ A, lives now (l.take j) = A := ⟨_, rfl⟩
    rw [hA] at hjg
    simp only [hA]
    obtain ⟨R, hR⟩ : ∃ R, A ++ g ++ l.drop j = R := ⟨_, rfl⟩
    have eR : R.length = l.length := by rw [← hR]; simp; omega
    try simp (maxSteps := 1000000) only [seval]
    (first | refine q0g ?_ ?_ | refine q0k ?_ ?_ | refine q0l ?_ ?_ | refine q0m ?_ ?_ | refine q0h ?_ ?_) <;> intro h
    · obtain ⟨hlt, eg, ew, c1⟩ := at_idx (by omega) h
      have hdr : l.drop j = l[j] :: l.drop (j + 1) := List.drop_eq_getElem_cons hlt
      have hRj : R[j]'(by omega) = l[j] := by
        simp only [← hR]
        rw [List.getElem_append_right (by simp; omega)]
        simp only [hdr]
        have : j - (A ++ g).length = 0 := by simp; omega
        simp only [this, List.getElem_cons_zero]
      have eg2 := avs_get (l := R) (i := j) (by omega)
      rw [hRj] at eg2
      have eg3 := avs_get (l := R) (i := A.length) (by omega)
      have c3 : (0 : Int) ≤ ((A.length : Nat) : Int) ∧ Int.toNat ((A.length : Nat) : Int) < l.length := by omega
      have ew2 : IntKind.i64.wrap ((A.length : Int) + 1) = ((A.length + 1 : Nat) : Int) := by rw [wrap_i64 (by omega) (by omega)]; rfl
      rw [hR]
      try simp (maxSteps := 1000000) only [seval, eg2, c1, q12, eR, Ses.av]
      (refine q53 (purge_late now l[j] (avs R)) [0, 1] (by decide) rfl rfl rfl rfl ?_; rintro _ _ ⟨rfl, rfl⟩; refine ⟨rfl, ?_⟩)
      try simp (maxSteps := 1000000) only [seval]
      cases hdv : (l[j]).lives now with
      | true =>
        have d1 : decide (l[j].un ≤ now) = false := by
          simp only [Ses.lives, Bool.not_eq_true'] at hdv; exact hdv
        have hA2 : lives now (l.take (j + 1)) = A ++ [l[j]] := by rw [lives_take_in hlt hdv, hA]
        try simp (maxSteps := 1000000) only [seval, d1, c3, eR, ew2, ew, eg3, q12, Ses.av]
        simp only [q0p, St.trunc, St.keep, q00, q01, AB.trunc, keepV, q15, AV.pure, Bool.and_self, List.drop_zero, List.elem_cons, List.elem_nil, List.take_succ_cons, List.take_zero, List.map_cons, List.map_nil, List.getElem?_cons_zero, List.getElem?_cons_succ, Nat.reduceAdd, Nat.reduceBEq, Nat.reduceLeDiff, Nat.le_refl, Nat.zero_add, Bool.false_eq_true, ↓reduceIte]
        obtain ⟨x, g', rfl⟩ : ∃ x g', g = x :: g' := by
          cases g with
          | nil => simp at hg
          | cons x g' => exact ⟨x, g', rfl⟩
        refine ⟨(j + 1, g' ++ [l[j]]), ⟨hlt, by simp, by simp only [hA2, List.length_append, List.length_cons, List.length_nil] at hjg ⊢; omega⟩, by simp only; omega, ?_⟩
        simp only [hA2, Int.toNat_natCast]
        have e5 : (avs R).set A.length (.agg [i64 l[j].id, i64 l[j].st, i64 l[j].pr, u64 l[j].un]) = avs (A ++ [l[j]] ++ (g' ++ [l[j]]) ++ l.drop (j + 1)) := by
          have := avs_set R A.length l[j]
          rw [← hR, set_mid, hdr] at this
          rw [← hR, hdr]
          refine this.trans ?_
          simp
        rw [e5, List.length_append]
        rfl
      | false =>
        have d1 : decide (l[j].un ≤ now) = true := by
          simp only [Ses.lives, Bool.not_eq_false'] at hdv; exact hdv
        have hA2 : lives now (l.take (j + 1)) = A := by rw [q5h hlt hdv, hA]
        try simp (maxSteps := 1000000) only [seval, d1, ew]
        simp only [q0p, St.trunc, St.keep, q00, q01, AB.trunc, keepV, q15, AV.pure, Bool.and_self, List.drop_zero, List.elem_cons, List.elem_nil, List.take_succ_cons, List.take_zero, List.map_cons, List.map_nil, List.getElem?_cons_zero, List.getElem?_cons_succ, Nat.reduceAdd, Nat.reduceBEq, Nat.reduceLeDiff, Nat.le_refl, Nat.zero_add, Bool.false_eq_true, ↓reduceIte]
        refine ⟨(j + 1, g ++ [l[j]]), ⟨hlt, by simp, by simp only [hA2, List.length_append, List.length_singleton]; omega⟩, by simp only; omega, ?_⟩
        simp only [hA2]
        have e5 : R = A ++ (g ++ [l[j]]) ++ l.drop (j + 1) := by rw [← hR, hdr]; simp
        rw [e5]
    · obtain rfl := at_end hj h
      rw [hR]
      rw [List.take_length] at hA
      have c3 : (0 : Int) ≤ ((A.length : Nat) : Int) ∧ Int.toNat ((A.length : Nat) : Int) ≤ l.length := by omega
      have hne : ¬ Int.toNat ((A.length : Nat) : Int) = l.length := by omega
      try simp (maxSteps := 1000000) only [seval, c3, eR, hne, q12]
      refine ⟨by omega, ?_⟩
      have e6 : (avs R).take (Int.toNat ((A.length : Nat) : Int)) = avs (lives now l) := by
        rw [Int.toNat_natCast, ← hR, hA, avs, ← List.map_take, List.append_assoc, List.take_append_of_le_length (Nat.le_refl _), List.take_length, avs]
      rw [e6]
      apply hK
      simp only [Tryz.results114, retK, ares, List.take_nil, Bool.and_true, Bool.true_and, AV.ofResults, St.trunc, q00, q01, AB.trunc, List.getD_cons_zero, List.getD_cons_succ, List.take_succ_cons, List.map_nil, List.map_cons, List.length_cons, List.length_nil, Nat.reduceAdd, Nat.reduceLeDiff, true_and, and_true, ↓reduceIte, List.cons.injEq, exists_eq_left']
      exact ⟨by rw [hA, Int.toNat_natCast], _, by rw [List.append_assoc]⟩

theorem sess_Purge (l : List Ses) (now : Int) (hlen : l.length ≤ 1000000) : PCall P 92 [.sl 4 (avs l), u64 now] (fun x => x = .sl 4 (avs (lives now l))) := by
  refine q0r tyOk Tryz.func92 rfl rfl ?_
  intro K hK
  simp only [Tryz.ntmps92, List.length_cons, List.length_nil, Nat.reduceAdd, Nat.reduceSub, List.replicate, List.cons_append, List.nil_append]
  try simp (maxSteps := 1000000) only [seval]
  refine callG_new rfl (by first | exact Nat.zero_le _ | decide | simp) (ACallR.new (clone_ses _ (by rw [q12]; exact hlen)) rfl (by first | decide | simp)) ?_
  try simp (maxSteps := 1000000) only [seval, q12]
  refine q3b ?_
  try simp (maxSteps := 1000000) only [seval]
  refine q53 (delete_dead now l hlen) [0, 1] (by decide) rfl rfl rfl rfl ?_
  rintro _ _ ⟨rfl, g, rfl⟩
  refine ⟨rfl, ?_⟩
  try simp (maxSteps := 1000000) only [seval]
  apply hK
  simp only [Tryz.results92, retK, ares, Bool.and_true, Bool.true_and, AV.ofResults, St.trunc, q00, q01, List.getD_cons_zero, List.getD_cons_succ, List.take_zero, List.drop_zero, List.map_nil, List.getElem?_cons_zero, List.getElem?_cons_succ, Nat.reduceLeDiff, true_and, and_true, ↓reduceIte, List.cons.injEq, exists_eq_left']
  rw [if_pos (by simp [q12]), List.take_append_of_le_length (by rw [q12]; exact Nat.le_refl _), List.take_of_length_le (by rw [q12]; exact Nat.le_refl _)]

theorem at_lt {l : List Ses} (hr : Up l) {id : Int} (h : has l id = true) : lb ltI (ids l) id < l.length := by
  apply Nat.lt_of_not_le
  intro hc
  rw [← has_at hr, hasAt_ge (by rw [ids_len]; omega)] at h
  cases h
theorem at_id {l : List Ses} (hr : Up l) {id : Int} (h : has l id = true) : (l[lb ltI (ids l) id]'(at_lt hr h)).id = id := by
  have h1 := h
  rw [← has_at hr, hasAt_lt (by rw [ids_len]; exact at_lt hr h)] at h1
  exact (ids_get (at_lt hr h)).symm.trans ((eqI_iff _ _).1 h1)
theorem set_has {l : List Ses} (hr : Up l) {s : Ses} (most : Int) (h : has l s.id = true) : setF l s most = (l.set (lb ltI (ids l) s.id) s, 0) := by
  have hput := put_at hr s
  rw [if_pos h] at hput
  rw [setF, if_neg (by rw [h]; simp), ins_eq hr, ← hput]
theorem set_full {l : List Ses} {s : Ses} {most : Int} (h : has l s.id = false) (h2 : decide (most ≤ l.length) = true) : setF l s most = (l, 2) := by
  rw [setF, if_pos (by rw [h, h2]; rfl)]
theorem set_new {l : List Ses} (hr : Up l) {s : Ses} {most : Int} (h : has l s.id = false) (h2 : decide (most ≤ l.length) = false) : setF l s most = (l.take (lb ltI (ids l) s.id) ++ [s] ++ l.drop (lb ltI (ids l) s.id), 0) := by
  have hput := put_at hr s
  rw [if_neg (by rw [h]; decide)] at hput
  rw [setF, if_neg (by rw [h, h2]; simp), ins_eq hr, ← hput]
theorem clear_at {l : List Ses} (hr : Up l) (id : Int) : (if has l id = true then l.take (lb ltI (ids l) id) ++ l.drop (lb ltI (ids l) id + 1) else l) = clear l id := by
  have h := congrArg (List.map Prod.snd) (q3n ordI eqI_iff (m := keyed l) (by rw [q2r, keyed_fst]; exact hr) id)
  have f1 : ((keyed l).filter (fun p => !eqI p.1 id)).map Prod.snd = clear l id := by
    rw [keyed, List.filter_map, List.map_map]
    exact List.map_id _
  rw [f1] at h
  unfold q1x at h
  rw [keyed_fst, has_at hr] at h
  refine Eq.trans ?_ h
  split
  · rw [List.map_append, List.map_take, List.map_drop, keyed_snd]
  · rw [keyed_snd]

theorem sess_Set (l : List Ses) (s : Ses) (most : Int) (hr : Up l) (hlen : l.length ≤ 900000) :
    PCall P 95 [.sl 4 (avs l), s.av, i64 most] (fun x => x = .tup [.sl 4 (avs (setF l s most).1), i64 (setF l s most).2]) := by
  refine q0r tyOk Tryz.func95 rfl rfl ?_
  intro K hK
  simp only [Tryz.ntmps95, List.length_cons, List.length_nil, Nat.reduceAdd, Nat.reduceSub, List.replicate, List.cons_append, List.nil_append]
  try simp (maxSteps := 1000000) only [seval, Ses.av]
  refine callG_new rfl (by first | exact Nat.zero_le _ | decide | simp) (ACallR.new (clone_ses _ (by rw [q12]; omega)) rfl (by first | decide | simp)) ?_
  try simp (maxSteps := 1000000) only [seval, q12, Ses.av]
  refine q3b ?_
  try simp (maxSteps := 1000000) only [seval]
  refine callG_lend (find_ses l hr s.id (by omega)) ?_ rfl ?_
  · simp only [q00]
    rw [truncV_own (xs := avs l) rfl (q12 l)]
    rfl
  rw [has_at hr]
  try simp (maxSteps := 1000000) only [seval]
  (first | refine q0g ?_ ?_ | refine q0k ?_ ?_ | refine q0l ?_ ?_ | refine q0m ?_ ?_ | refine q0h ?_ ?_) <;> intro h
  · have hlt := at_lt hr h
    have eg := avs_get hlt
    have c1 : (0 : Int) ≤ ((lb ltI (ids l) s.id : Nat) : Int) ∧ Int.toNat ((lb ltI (ids l) s.id : Nat) : Int) < l.length := by omega
    rw [set_has hr most h] at hK
    try simp (maxSteps := 1000000) only [seval, eg, c1, q12, Ses.av]
    apply hK
    simp only [Tryz.results95, retK, ares, Bool.and_true, Bool.true_and, AV.ofResults, St.trunc, q00, q01, List.getD_cons_zero, List.getD_cons_succ, List.take_zero, List.drop_zero, List.map_nil, List.getElem?_cons_zero, List.getElem?_cons_succ, Nat.reduceLeDiff, true_and, and_true, ↓reduceIte, List.cons.injEq, exists_eq_left']
    have e1 := avs_set l (lb ltI (ids l) s.id) s
    simp only [Ses.av] at e1
    rw [Int.toNat_natCast, e1, q2h (by rw [q12, List.length_set])]
  · have h : has l s.id = false := h
    try simp (maxSteps := 1000000) only [seval, q12]
    (first | refine q0g ?_ ?_ | refine q0k ?_ ?_ | refine q0l ?_ ?_ | refine q0m ?_ ?_ | refine q0h ?_ ?_) <;> intro h2
    · rw [set_full h h2] at hK
      try simp (maxSteps := 1000000) only [seval]
      apply hK
      simp only [Tryz.results95, retK, ares, Bool.and_true, Bool.true_and, AV.ofResults, St.trunc, q00, q01, List.getD_cons_zero, List.getD_cons_succ, List.take_zero, List.drop_zero, List.map_nil, List.getElem?_cons_zero, List.getElem?_cons_succ, Nat.reduceLeDiff, true_and, and_true, ↓reduceIte, List.cons.injEq, exists_eq_left']
      rw [q2h (q12 l)]
    · have h2 : decide (most ≤ l.length) = false := h2
      rw [set_new hr h h2] at hK
      have hins := insert_ses (avs l) s.av (lb ltI (ids l) s.id) (by rw [q12]; have := lb_le (lt := ltI) (ids l) s.id; rwa [ids_len] at this) (by rw [q12]; omega)
      rw [q12] at hins
      have hle : lb ltI (ids l) s.id ≤ l.length := by have := lb_le (lt := ltI) (ids l) s.id; rwa [ids_len] at this
      try simp (maxSteps := 1000000) only [seval]
      refine callO_some [2] rfl ?_
      try simp (maxSteps := 1000000) only [seval]
      refine callG_R (b := 1) (by decide) (q17.toR hins rfl rfl rfl rfl rfl) ?_
      try simp (maxSteps := 1000000) only [seval]
      apply hK
      simp only [Tryz.results95, retK, ares, Bool.and_true, Bool.true_and, AV.ofResults, St.trunc, q00, q01, List.getD_cons_zero, List.getD_cons_succ, List.take_zero, List.drop_zero, List.map_nil, List.getElem?_cons_zero, List.getElem?_cons_succ, Nat.reduceLeDiff, true_and, and_true, ↓reduceIte, List.cons.injEq, exists_eq_left']
      rw [q2h (by simp [q12]; omega)]
      simp only [avs, List.map_append, List.map_take, List.map_drop, List.map_cons, List.map_nil]

theorem sess_Clear (l : List Ses) (id : Int) (hr : Up l) (hlen : l.length ≤ 900000) :
    PCall P 97 [.sl 4 (avs l), i64 id] (fun x => x = .tup [.sl 4 (avs (clear l id)), i64 (if has l id = true then 0 else 3)]) := by
  refine q0r tyOk Tryz.func97 rfl rfl ?_
  intro K hK
  simp only [Tryz.ntmps97, List.length_cons, List.length_nil, Nat.reduceAdd, Nat.reduceSub, List.replicate, List.cons_append, List.nil_append]
  try simp (maxSteps := 1000000) only [seval]
  refine callG_new rfl (by first | exact Nat.zero_le _ | decide | simp) (ACallR.new (clone_ses _ (by rw [q12]; omega)) rfl (by first | decide | simp)) ?_
  try simp (maxSteps := 1000000) only [seval, q12]
  refine q3b ?_
  try simp (maxSteps := 1000000) only [seval]
  refine callG_lend (find_ses l hr id (by omega)) ?_ rfl ?_
  · simp only [q00]
    rw [truncV_own (xs := avs l) rfl (q12 l)]
    rfl
  rw [has_at hr]
  have hc := clear_at hr id
  try simp (maxSteps := 1000000) only [seval]
  cases h : has l id
  · rw [h, if_neg (by decide)] at hc
    rw [h, ← hc] at hK
    try simp (maxSteps := 1000000) only [seval]
    apply hK
    simp only [Tryz.results97, retK, ares, Bool.and_true, Bool.true_and, AV.ofResults, St.trunc, q00, q01, List.getD_cons_zero, List.getD_cons_succ, List.take_zero, List.drop_zero, List.map_nil, List.getElem?_cons_zero, Nat.le_refl, true_and, and_true, ↓reduceIte, Bool.false_eq_true, List.cons.injEq, exists_eq_left']
    rw [q2h (q12 l)]
  · have hlt := at_lt hr h
    have ew : IntKind.i64.wrap (((lb ltI (ids l) id : Nat) : Int) + 1) = ((lb ltI (ids l) id + 1 : Nat) : Int) := by rw [wrap_i64 (by omega) (by omega)]; rfl
    rw [h, if_pos (by rfl)] at hc
    rw [h, ← hc] at hK
    try simp (maxSteps := 1000000) only [seval, ew]
    refine q3b ?_
    try simp (maxSteps := 1000000) only [seval]
    have hdel := delete_ses (avs l) (lb ltI (ids l) id) (by rw [q12]; exact hlt) (by rw [q12]; omega)
    rw [q12] at hdel
    (refine q53 hdel [0] (by decide) rfl rfl rfl rfl ?_; rintro _ _ ⟨rfl, rfl⟩; refine ⟨rfl, ?_⟩)
    try simp (maxSteps := 1000000) only [seval]
    apply hK
    simp only [Tryz.results97, retK, ares, Bool.and_true, Bool.true_and, AV.ofResults, St.trunc, q00, q01, List.getD_cons_zero, List.getD_cons_succ, List.take_zero, List.drop_zero, List.map_nil, List.getElem?_cons_zero, Nat.le_refl, true_and, and_true, ↓reduceIte, List.cons.injEq, exists_eq_left']
    have e := cut_last (sz := 4) (f := zses) (xs := avs l) (i := lb ltI (ids l) id) (by rw [q12]; exact hlt)
    rw [q12] at e
    rw [e]
    simp only [avs, List.map_append, List.map_take, List.map_drop]

def bmpS (id until_ : Int) (s : Ses) : Ses := if (s.id == id && decide (s.un < until_)) = true then { s with un := until_ } else s
def beatF (l : List Ses) (id until_ : Int) : List Ses × Int := if has l id = true then (l.map (bmpS id until_), 0) else (l, 3)
theorem bmpS_ne {s : Ses} {id u : Int} (h : s.id ≠ id) : bmpS id u s = s := by
  unfold bmpS; rw [if_neg (by simp [h])]
theorem bmpS_at2 {l : List Ses} (hr : Up l) {id : Int} (u : Int) {i : Nat} (hlt : i < l.length) (hid : l[i].id = id) : l.set i (bmpS id u l[i]) = l.map (bmpS id u) := by
  apply List.ext_getElem (by simp)
  intro j h1 h2
  rw [List.getElem_map, List.getElem_set]
  split
  · rename_i e; subst e; rfl
  · rename_i hne
    have hj : j < l.length := by simpa using h2
    have hne2 : l[j].id ≠ id := by
      have hp := List.pairwise_iff_getElem.1 (up_iff.1 hr)
      rcases Nat.lt_or_gt_of_ne hne with h3 | h3
      · have := hp i j hlt hj h3; omega
      · have := hp j i hj hlt h3; omega
    exact (bmpS_ne hne2).symm
theorem bmpS_at {l : List Ses} (hr : Up l) {id : Int} (u : Int) (h : has l id = true) : l.set (lb ltI (ids l) id) (bmpS id u (l[lb ltI (ids l) id]'(at_lt hr h))) = l.map (bmpS id u) :=
  bmpS_at2 hr u (at_lt hr h) (at_id hr h)
theorem bmpS_av {s : Ses} {id u : Int} (h : s.id = id) : AV.agg [i64 s.id, i64 s.st, i64 s.pr, .v (.int .u64 (if u > s.un then u else s.un))] = (bmpS id u s).av := by
  by_cases hc : u > s.un
  · have : bmpS id u s = { s with un := u } := by unfold bmpS; rw [if_pos (by simp [h]; exact hc)]
    rw [this, if_pos hc]; rfl
  · have : bmpS id u s = s := by unfold bmpS; rw [if_neg (by simp [h]; omega)]
    rw [this, if_neg hc]; rfl
theorem sess_Beat (l : List Ses) (id u : Int) (hr : Up l) (hlen : l.length ≤ 900000) :
    PCall P 96 [.sl 4 (avs l), i64 id, u64 u] (fun x => x = .tup [.sl 4 (avs (beatF l id u).1), i64 (beatF l id u).2]) := by
  refine q0r tyOk Tryz.func96 rfl rfl ?_
  intro K hK
  simp only [Tryz.ntmps96, List.length_cons, List.length_nil, Nat.reduceAdd, Nat.reduceSub, List.replicate, List.cons_append, List.nil_append]
  try simp (maxSteps := 1000000) only [seval]
  refine callG_new rfl (by first | exact Nat.zero_le _ | decide | simp) (ACallR.new (clone_ses _ (by rw [q12]; omega)) rfl (by first | decide | simp)) ?_
  try simp (maxSteps := 1000000) only [seval, q12]
  refine q3b ?_
  try simp (maxSteps := 1000000) only [seval]
  refine callG_lend (find_ses l hr id (by omega)) ?_ rfl ?_
  · simp only [q00]
    rw [truncV_own (xs := avs l) rfl (q12 l)]
    rfl
  rw [has_at hr]
  unfold beatF at hK
  try simp (maxSteps := 1000000) only [seval]
  cases h : has l id
  · rw [h, if_neg (by decide)] at hK
    try simp (maxSteps := 1000000) only [seval]
    apply hK
    simp only [Tryz.results96, retK, ares, Bool.and_true, Bool.true_and, AV.ofResults, St.trunc, q00, q01, List.getD_cons_zero, List.getD_cons_succ, List.take_zero, List.drop_zero, List.map_nil, List.getElem?_cons_zero, Nat.le_refl, true_and, and_true, ↓reduceIte, List.cons.injEq, exists_eq_left']
    rw [q2h (q12 l)]
  · have hlt := at_lt hr h
    have hid := at_id hr h
    have hb := bmpS_at hr u h
    have eg := avs_get hlt
    have c1 : (0 : Int) ≤ ((lb ltI (ids l) id : Nat) : Int) ∧ Int.toNat ((lb ltI (ids l) id : Nat) : Int) < l.length := by omega
    rw [h, if_pos rfl] at hK
    generalize l[lb ltI (ids l) id] = s at hid hb eg
    try simp (maxSteps := 1000000) only [seval, eg, c1, q12, Ses.av]
    apply hK
    simp only [Tryz.results96, retK, ares, Bool.and_true, Bool.true_and, AV.ofResults, St.trunc, q00, q01, List.getD_cons_zero, List.getD_cons_succ, List.take_zero, List.drop_zero, List.map_nil, List.getElem?_cons_zero, Nat.le_refl, true_and, and_true, ↓reduceIte, List.cons.injEq, exists_eq_left']
    rw [bmpS_av hid, Int.toNat_natCast, avs_set, hb, q2h (by rw [q12, List.length_map])]
end Go.Proofs.YtdkcpcflfnakdaaGreat
namespace Go.Proofs.YtdkcpcflfnakdaaGreat
open Go Go.Proofs.YtdkcpcflfnakdaaGreat.Sym
attribute [-sevalprocAttr] Int.reduceToNat Int.reduceNatCast Int.reduceNatCast' Nat.reduceSubDiff
set_option maxRecDepth 100000
set_option maxHeartbeats 1000000
set_option linter.unusedSimpArgs false
set_option linter.unusedVariables false

def yields (l : List Ses) : List (List AV) := l.map fun s => [s.av]

theorem aggr_Live (xs : List AV) (now : Int) : PCall P 109 [.sl 4 xs, u64 now] (fun x => x = .fn 128 [.rp [.sl 4 xs], .rp [u64 now]]) := by
  refine q0r tyOk Tryz.func109 rfl rfl ?_
  intro K hK
  simp only [Tryz.ntmps109, List.length_cons, List.length_nil, Nat.reduceAdd, Nat.reduceSub, List.replicate, List.cons_append, List.nil_append]
  try simp (maxSteps := 1000000) only [seval]
  apply hK
  simp only [Tryz.results109, retK, ares, q15, AV.pure, Bool.and_self, Bool.and_true, Bool.true_and, AV.ofResults, St.trunc, q00, q01, List.getD_cons_zero, List.getD_cons_succ, List.take_zero, List.drop_zero, List.map_nil, List.getElem?_cons_zero, List.getElem?_cons_succ, Nat.reduceLeDiff, Nat.le_refl, true_and, and_true, ↓reduceIte, List.cons.injEq, exists_eq_left']

theorem q5m {now : Int} {l : List Ses} (i : Nat) : yields (lives now (l.take i)) <+: yields (lives now l) :=
  ((List.take_prefix i l).filter _).map _

theorem aggr_Live_seq (l : List Ses) (now : Int) (hlen : l.length < 9223372036854775807) : ICall P 128 [.rp [.sl 4 (avs l)], .rp [u64 now]] (yields (lives now l)) := by
  refine icall_goY tyOk Tryz.func128 rfl rfl rfl ?_
  intro y K hK
  simp only [Tryz.ntmps128, List.length_cons, List.length_nil, Nat.reduceAdd, Nat.reduceSub, List.replicate, List.cons_append, List.nil_append]
  try simp (maxSteps := 1000000) only [seval]
  refine loopY_rule tyOk (α := Nat) 0 [0, 1, 2, 6, 7, 8] (fun i => i ≤ l.length)
    (fun i => ⟨[.v y, .rp [.sl 4 (avs l)], .rp [u64 now], .any, .any, .any, .sl 4 (avs l), i64 l.length, i64 i] ++ List.replicate 15 .any, []⟩)
    (fun i => (yields (lives now (l.take i)), false)) (fun i => l.length - i) 0 (Nat.le_refl _) (Nat.zero_le _) (by rw [q12]; rfl) rfl ?_
  intro i hi
  try simp (maxSteps := 1000000) only [seval]
  (first | refine q0g ?_ ?_ | refine q0k ?_ ?_ | refine q0l ?_ ?_ | refine q0m ?_ ?_ | refine q0h ?_ ?_) <;> intro h <;> try simp (maxSteps := 1000000) only [seval]
  · have hlt : i < l.length := by simpa using h
    have eg := avs_get hlt
    have ew : IntKind.i64.wrap ((i : Int) + 1) = ((i + 1 : Nat) : Int) := by rw [wrap_i64 (by omega) (by omega)]; rfl
    have c1 : (0 : Int) ≤ (i : Int) ∧ Int.toNat (i : Int) < (avs l).length := by rw [q12]; omega
    try simp (maxSteps := 1000000) only [seval, eg, c1, Ses.av]
    (refine callY_use (tick_Late _ _) rfl rfl rfl rfl ?_; rintro _ rfl)
    try simp (maxSteps := 1000000) only [seval]
    cases hl : (l[i]).lives now with
    | false =>
      have e1 : (!decide ((l[i]).un ≤ now)) = false := hl
      try simp (maxSteps := 1000000) only [seval, e1, ew]
      simp only [q4b, St.trunc, St.keep, q00, q01, keepV, q15, AV.pure, Bool.and_self, List.drop_zero, List.drop_succ_cons, List.elem_cons, List.elem_nil, List.take_zero, List.map_nil, List.getElem?_cons_zero, Nat.reduceAdd, Nat.reduceBEq, Nat.le_refl, Nat.zero_add, Bool.false_eq_true, ↓reduceIte]
      exact ⟨i + 1, hlt, by omega, rfl, by rw [q5h hlt hl]⟩
    | true =>
      have e1 : (!decide ((l[i]).un ≤ now)) = true := hl
      try simp (maxSteps := 1000000) only [seval, e1]
      have e2 : yields (lives now (l.take i)) ++ [[sess (l[i]).id (l[i]).st (l[i]).pr (l[i]).un]] = yields (lives now (l.take (i + 1))) := by
        rw [lives_take_in hlt hl]; simp [yields]; rfl
      refine ⟨⟨by rw [e2]; exact q5m _, rfl⟩, ?_⟩
      intro b
      cases b with
      | true =>
        try simp (maxSteps := 1000000) only [seval, ew]
        simp only [q4b, St.trunc, St.keep, q00, q01, keepV, q15, AV.pure, Bool.and_self, List.drop_zero, List.drop_succ_cons, List.elem_cons, List.elem_nil, List.take_zero, List.map_nil, List.getElem?_cons_zero, Nat.reduceAdd, Nat.reduceBEq, Nat.le_refl, Nat.zero_add, Bool.false_eq_true, ↓reduceIte]
        exact ⟨i + 1, hlt, by omega, rfl, by rw [e2]⟩
      | false =>
        try simp (maxSteps := 1000000) only [seval]
        exact hK _ _ _ (itK_ret ⟨by rw [e2]; exact q5m _, fun h => by cases h⟩)
  · have hge : i = l.length := by have : ¬ ((i : Int) < (l.length : Int)) := by simpa using h
                                  omega
    subst hge
    refine hK _ _ _ (itK_normal ⟨q5m _, fun _ => by rw [List.take_length]⟩)

def better (p1 i1 p2 i2 : Int) : Bool := decide (p2 < p1) || (p1 == p2 && decide (i1 < i2))

theorem aggr_Better (i1 s1 p1 u1 i2 s2 p2 u2 : Int) : PCall P 110 [sess i1 s1 p1 u1, sess i2 s2 p2 u2] (fun x => x = bool (better p1 i1 p2 i2)) := by
  refine q0r tyOk Tryz.func110 rfl rfl ?_
  intro K hK
  simp only [Tryz.ntmps110, List.length_cons, List.length_nil, Nat.reduceAdd, Nat.reduceSub, List.replicate, List.cons_append, List.nil_append]
  try simp (maxSteps := 1000000) only [seval]
  (first | refine q0g ?_ ?_ | refine q0k ?_ ?_ | refine q0l ?_ ?_ | refine q0m ?_ ?_ | refine q0h ?_ ?_) <;> intro h <;> try simp (maxSteps := 1000000) only [seval]
  · apply hK
    simp only [Tryz.results110, retK, ares, Bool.and_true, Bool.true_and, AV.ofResults, St.trunc, q00, q01, List.getD_cons_zero, List.getD_cons_succ, List.take_zero, List.map_nil, true_and, and_true, List.cons.injEq, exists_eq_left']
    rw [better, h]
    rfl
  · (first | refine q0g ?_ ?_ | refine q0k ?_ ?_ | refine q0l ?_ ?_ | refine q0m ?_ ?_ | refine q0h ?_ ?_) <;> intro h2 <;> try simp (maxSteps := 1000000) only [seval]
    · apply hK
      simp only [Tryz.results110, retK, ares, Bool.and_true, Bool.true_and, AV.ofResults, St.trunc, q00, q01, List.getD_cons_zero, List.getD_cons_succ, List.take_zero, List.map_nil, true_and, and_true, List.cons.injEq, exists_eq_left']
      rw [better, h, h2]
      rfl
    · apply hK
      simp only [Tryz.results110, retK, ares, Bool.and_true, Bool.true_and, AV.ofResults, St.trunc, q00, q01, List.getD_cons_zero, List.getD_cons_succ, List.take_zero, List.map_nil, true_and, and_true, List.cons.injEq, exists_eq_left']
      rw [better, h, h2]
      rfl

def bestStep (b : Ses × Int) (s : Ses) : Ses × Int := (if b.2 == 0 || better s.pr s.id b.1.pr b.1.id then s else b.1, b.2 + 1)
def bestF (l : List Ses) : Ses × Int := l.foldl bestStep (⟨0, 0, 0, 0⟩, 0)
theorem bestF_next {l : List Ses} {i : Nat} (h : i < l.length) : bestF (l.take (i + 1)) = bestStep (bestF (l.take i)) l[i] := by
  rw [q23 h, bestF, List.foldl_append]; rfl
theorem bestF_count (l : List Ses) : (bestF l).2 = l.length := by
  have : ∀ (l : List Ses) (b : Ses × Int), (l.foldl bestStep b).2 = b.2 + l.length := by
    intro l
    induction l with
    | nil => simp
    | cons s l ih => intro b; simp only [List.foldl_cons, ih, bestStep, List.length_cons]; omega
  rw [bestF, this]; simp
abbrev pres (st pr n : Int) : AV := .agg [i64 st, i64 pr, i64 n]
def ofMem (b : Ses × Int) : List AB := [.box [i64 0, i64 0, i64 0], .box [i64 b.1.id, i64 b.1.st, i64 b.1.pr, u64 b.1.un], .box [i64 b.2]]

theorem aggr_Of (l : List Ses) (now : Int) (hlen : l.length < 9223372036854775807) :
    PCall P 79 [.sl 4 (avs l), u64 now] (fun x => x = pres (bestF (lives now l)).1.st (bestF (lives now l)).1.pr (bestF (lives now l)).2) := by
  refine pcall_goY tyOk Tryz.func79 rfl rfl ?_
  intro K hK
  simp only [Tryz.ntmps79, List.length_cons, List.length_nil, Nat.reduceAdd, Nat.reduceSub, List.replicate, List.cons_append, List.nil_append]
  try simp (maxSteps := 1000000) only [seval]
  (refine q07 (aggr_Live _ _) rfl ?_; rintro _ rfl)
  try simp (maxSteps := 1000000) only [seval]
  have hll : (lives now l).length ≤ l.length := List.length_filter_le _ _
  refine range_rule tyOk (aggr_Live_seq l now hlen) (α := Nat) 3 3 [4, 5, 6] ([.any, .any, .any, .any, .ptr 0 0, .ptr 1 0, .ptr 2 0] ++ List.replicate 21 .any) (fun xs i => i = xs.length) (fun i => ofMem (bestF ((lives now l).take i))) 0 rfl rfl
    (fun x hx => by simp only [yields, List.mem_map] at hx; obtain ⟨s, _, rfl⟩ := hx; rfl) (Nat.zero_le _) (Nat.le_refl _) (by rfl) rfl rfl ?_ ?_
  · rintro xs x _ hpre rfl
    obtain ⟨hi, _, rfl⟩ := q55 hpre
    have hb := bestF_next hi
    have hc := bestF_count ((lives now l).take xs.length)
    generalize (lives now l)[xs.length] = s at hb
    generalize bestF ((lives now l).take xs.length) = b at hb hc
    try simp (maxSteps := 1000000) only [seval, ofMem, Ses.av]
    have hw : IntKind.i64.wrap (b.2 + 1) = b.2 + 1 := by
      rw [wrap_i64 (by omega) (by rw [hc, List.length_take]; omega)]
    (first | refine q0g ?_ ?_ | refine q0k ?_ ?_ | refine q0l ?_ ?_ | refine q0m ?_ ?_ | refine q0h ?_ ?_) <;> intro h
    · try simp (maxSteps := 1000000) only [seval, hw]
      simp only [q2z, St.trunc, q00, q01, AB.trunc, q15, AV.pure, Bool.and_self, List.drop_zero, List.take_succ_cons, List.take_zero, List.map_cons, List.map_nil, List.getElem?_cons_zero, List.getElem?_cons_succ, Nat.reduceLeDiff, Nat.le_refl, ↓reduceIte]
      exact ⟨_, rfl, by rw [hb]; simp only [bestStep, h, Bool.true_or, if_true]⟩
    · try simp (maxSteps := 1000000) only [seval]
      (refine q07 (aggr_Better _ _ _ _ _ _ _ _) rfl ?_; rintro _ rfl)
      try simp (maxSteps := 1000000) only [seval]
      (first | refine q0g ?_ ?_ | refine q0k ?_ ?_ | refine q0l ?_ ?_ | refine q0m ?_ ?_ | refine q0h ?_ ?_) <;> intro h2 <;> try simp (maxSteps := 1000000) only [seval, hw] <;> simp only [q2z, St.trunc, q00, q01, AB.trunc, q15, AV.pure, Bool.and_self, List.drop_zero, List.take_succ_cons, List.take_zero, List.map_cons, List.map_nil, List.getElem?_cons_zero, List.getElem?_cons_succ, Nat.reduceLeDiff, Nat.le_refl, ↓reduceIte]
      · exact ⟨_, rfl, by rw [hb]; simp only [bestStep, h, h2, Bool.false_or, if_true]⟩
      · exact ⟨_, rfl, by rw [hb]; simp only [bestStep, h, h2, Bool.false_or, Bool.false_eq_true, if_false]⟩
  · rintro _ rfl
    have e1 : (lives now l).take (yields (lives now l)).length = lives now l := by rw [yields, List.length_map, List.take_length]
    try simp (maxSteps := 1000000) only [seval, ofMem, e1]
    apply hK
    simp only [Tryz.results79, retK, ares, List.take_nil, Bool.and_true, Bool.true_and, AV.ofResults, St.trunc, q00, q01, aload, acell, T, TI.isAgg, List.getD_cons_zero, List.getD_cons_succ, List.take_zero, List.take_succ_cons, List.drop_zero, List.map_nil, List.getElem?_cons_zero, List.length_cons, List.length_nil, Nat.reduceAdd, Nat.le_refl, true_and, and_true, ↓reduceIte, List.cons.injEq, exists_eq_left']
end Go.Proofs.YtdkcpcflfnakdaaGreat
namespace Go.Proofs.YtdkcpcflfnakdaaGreat
open Go Go.Proofs.YtdkcpcflfnakdaaGreat.Sym
attribute [-sevalprocAttr] Int.reduceToNat Int.reduceNatCast Int.reduceNatCast' Nat.reduceSubDiff
set_option maxRecDepth 100000
set_option maxHeartbeats 1000000
set_option linter.unusedSimpArgs false
set_option linter.unusedVariables false

structure En where
  l : List Ses
  t : Pr
  deriving DecidableEq
def En.av (e : En) : AV := .agg [.sl 4 (avs e.l), i64 e.t.st, i64 e.t.pr, i64 e.t.n]
def nilEn : En := ⟨[], ⟨0, 0, 0⟩⟩
abbrev rawNil : AV := .agg [.v (.slice none 0 0), i64 0, i64 0, i64 0]
theorem weak_en : weak rawNil (En.av nilEn) := .inr ⟨_, rfl, _, _, rfl, weak_nil 4, _, _, rfl, q1f _, _, _, rfl, q1f _, _, _, rfl, q1f _, rfl⟩
theorem clone_ent (xs : List AV) (hlen : xs.length ≤ 1000000) :
    ACall P 130 [] [.sl 4 xs] (fun x m' => x = .own 0 4 0 xs.length ∧ m' = [.row 138 4 xs]) := by
  have hm : xs.length ≤ maxLen := by simp only [maxLen]; omega
  have hby : xs.length * 48 ≤ 140737488355328 := by omega
  by_cases h0 : xs = []
  · subst h0
    refine ACall.empty fun a cap => ?_
    cases a with
    | none =>
      refine ACall.weaken (K := fun x m' => x = .v (.slice none 0 0) ∧ m' = []) (q0s.toA (q1z tyOk Tryz.func130 rfl rfl (N := 0) (M := 1) (Nat.zero_le _) (by simp) ?_)) ?_
      · intro K hK
        simp only [Tryz.ntmps130, List.length_cons, List.length_nil, Nat.reduceAdd, Nat.reduceSub, List.replicate, List.cons_append, List.nil_append]
        try simp (maxSteps := 1000000) only [seval]
        apply hK
        simp only [Tryz.results130, retK, ares, List.take_nil, Bool.and_true, AV.ofResults, St.trunc, q00, q01, List.getD_cons_zero, List.getD_cons_succ, List.map_nil, and_true, List.cons.injEq, exists_eq_left']
      · rintro x m' ⟨rfl, rfl⟩
        exact ⟨_, _, Turns.adopt (i := 0) 138 4 rfl, rfl, rfl⟩
    | some a =>
      refine q0s.toA (q1z tyOk Tryz.func130 rfl rfl (N := 0) (M := 1) (Nat.zero_le _) (by simp) ?_)
      intro K hK
      simp only [Tryz.ntmps130, List.length_cons, List.length_nil, Nat.reduceAdd, Nat.reduceSub, List.replicate, List.cons_append, List.nil_append]
      try simp (maxSteps := 1000000) only [seval]
      apply hK
      simp only [Tryz.results130, retK, ares, List.take_nil, Bool.and_true, AV.ofResults, St.trunc, q00, q01, AB.trunc, List.getD_cons_zero, List.getD_cons_succ, List.take_succ_cons, List.map_nil, List.map_cons, List.length_nil, Nat.reduceLeDiff, and_true, ↓reduceIte, List.cons.injEq, exists_eq_left']
  · have hpos : 0 < xs.length := List.length_pos_iff.2 h0
    refine q0s.toA (q1z tyOk Tryz.func130 rfl rfl (N := 0) (M := 1) (Nat.zero_le _) (by simp) ?_)
    intro K hK
    simp only [Tryz.ntmps130, List.length_cons, List.length_nil, Nat.reduceAdd, Nat.reduceSub, List.replicate, List.cons_append, List.nil_append]
    try simp (maxSteps := 1000000) only [seval, hpos]
    refine ⟨⟨hm, hby⟩, ?_⟩
    try simp (maxSteps := 1000000) only [seval]
    apply hK
    simp only [Tryz.results130, retK, ares, List.take_nil, Bool.and_true, AV.ofResults, St.trunc, q00, q01, AB.trunc, List.getD_cons_zero, List.getD_cons_succ, List.take_succ_cons, List.map_nil, List.map_cons, Nat.reduceLeDiff, and_true, ↓reduceIte, List.cons.injEq, exists_eq_left']

theorem delete_ent (xs : List AV) (i : Nat) (hi : i < xs.length) (hlen : xs.length ≤ 1000000) :
    ACall P 129 [.row 138 4 xs] [.own 0 4 0 xs.length, i64 (i : Int), i64 ((i + 1 : Nat) : Int)] (fun x m' => x = .own 0 4 0 (xs.length - 1) ∧ m' = [.row 138 4 (xs.take i ++ xs.drop (i + 1) ++ [rawNil])]) := by
  refine ACall.weaken (K := fun x m' => x = .own 0 4 0 (xs.length - 1) ∧ ∃ N, m' = [.rowc 138 4 (xs.take i ++ xs.drop (i + 1) ++ [rawNil]) N]) (q0s.toA (m := [_]) (q0s.room (by decide) fun N hN _ => ?_)) ?_
  · refine q2y tyOk Tryz.func129 rfl rfl (by simp) ?_
    intro K hK
    simp only [Tryz.ntmps129, List.length_cons, List.length_nil, Nat.reduceAdd, Nat.reduceSub, List.replicate, List.cons_append, List.nil_append]
    have f1 : ((i : Int) == ((i + 1 : Nat) : Int)) = false := by simp; omega
    try simp (maxSteps := 1000000) only [seval, Int.toNat_natCast, f1]
    refine ⟨by omega, ?_⟩
    by_cases he : i + 1 = xs.length
    · have e1 : (xs.take i ++ xs.drop i).length = xs.length := by rw [List.take_append_drop]
      have e2 : ((xs.take i ++ xs.drop i).take i ++ List.replicate (xs.length - i) (rawNil)) ++ (xs.take i ++ xs.drop i).drop (i + (xs.length - i)) = xs.take i ++ xs.drop (i + 1) ++ [rawNil] := by
        rw [List.take_append_drop, List.drop_of_length_le (by omega), List.drop_of_length_le (by omega), show xs.length - i = 1 by omega, List.append_nil, List.append_nil]
        rfl
      have hni : ¬ i = xs.length := by omega
      refine q0w tyOk (by rfl) (by simp only [List.length_cons, List.length_nil, Nat.reduceAdd, Nat.le_refl]) (by kernel_rfl) rfl ?_
      try simp (maxSteps := 1000000) only [seval, Int.toNat_natCast, he]
      refine ⟨by omega, by omega, by omega, ?_⟩
      refine ⟨by kernel_rfl, ?_⟩
      try simp (maxSteps := 1000000) only [seval, Int.toNat_natCast, hni, e1]
      refine ⟨by omega, by omega, ?_⟩
      apply hK
      simp only [Tryz.results129, retK, ares, List.take_nil, Bool.and_true, AV.ofResults, St.trunc, q00, q01, AB.trunc, List.getD_cons_zero, List.getD_cons_succ, List.take_succ_cons, List.map_nil, List.map_cons, List.length_cons, List.length_nil, Nat.reduceAdd, Nat.reduceLeDiff, and_true, ↓reduceIte, List.cons.injEq, exists_eq_left']
      simp only [e2]
      exact ⟨by congr 1; omega, N, rfl⟩
    · have hd : (xs.drop (i + 1)).length = xs.length - (i + 1) := by simp
      have ht : (xs.drop (i + 1)).take (xs.length - (i + 1)) = xs.drop (i + 1) := List.take_of_length_le (by simp)
      have hni : ¬ i + (xs.length - (i + 1)) = xs.length := by omega
      have e1 : (xs.take i ++ xs.drop (i + 1) ++ xs.drop (i + (xs.length - (i + 1)))).length = xs.length := by simp; omega
      have e2 : (xs.take i ++ xs.drop (i + 1) ++ xs.drop (i + (xs.length - (i + 1)))).take (i + (xs.length - (i + 1))) ++ List.replicate (xs.length - (i + (xs.length - (i + 1)))) (rawNil) ++
          (xs.take i ++ xs.drop (i + 1) ++ xs.drop (i + (xs.length - (i + 1)))).drop (i + (xs.length - (i + 1)) + (xs.length - (i + (xs.length - (i + 1))))) = xs.take i ++ xs.drop (i + 1) ++ [rawNil] := by
        rw [show xs.length - (i + (xs.length - (i + 1))) = 1 by omega, List.drop_of_length_le (l := xs.take i ++ xs.drop (i + 1) ++ xs.drop (i + (xs.length - (i + 1)))) (by rw [e1]; omega), List.append_nil,
          List.take_append_of_le_length (by simp; omega), List.take_of_length_le (by simp; omega)]
        rfl
      refine q0w tyOk (by rfl) (by simp only [List.length_cons, List.length_nil, Nat.reduceAdd, Nat.le_refl]) (by kernel_rfl) rfl ?_
      try simp (maxSteps := 1000000) only [seval, Int.toNat_natCast, he, ht, hd]
      refine ⟨by omega, by omega, by omega, ?_⟩
      refine ⟨by kernel_rfl, ?_⟩
      try simp (maxSteps := 1000000) only [seval, Int.toNat_natCast, hni, e1]
      refine ⟨by omega, by omega, ?_⟩
      apply hK
      simp only [Tryz.results129, retK, ares, List.take_nil, Bool.and_true, AV.ofResults, St.trunc, q00, q01, AB.trunc, List.getD_cons_zero, List.getD_cons_succ, List.take_succ_cons, List.map_nil, List.map_cons, List.length_cons, List.length_nil, Nat.reduceAdd, Nat.reduceLeDiff, and_true, ↓reduceIte, List.cons.injEq, exists_eq_left']
      simp only [e2]
      exact ⟨by congr 1; omega, N, rfl⟩
  · rintro x m' ⟨rfl, N, rfl⟩
    exact ⟨_, _, Turns.unroom, rfl, rfl⟩

theorem insert_ent (xs : List AV) (v : AV) (i : Nat) (hi : i ≤ xs.length) (hlen : xs.length ≤ 1000000) :
    q17 P (fun _ => false) 131 [.row 138 4 xs] [.own 0 4 0 xs.length, i64 (i : Int), .sl 4 [v]] (fun x m' => x = .own 0 4 0 (xs.length + 1) ∧ m' = [.row 138 4 (xs.take i ++ [v] ++ xs.drop i)]) := by
  refine q0s.relocate (q0s.room (by decide) fun N hN _ => q1z tyOk Tryz.func131 rfl rfl (N := 0) (M := 2) (Nat.zero_le _) (by simp) ?_)
  intro K hK
  simp only [Tryz.ntmps131, List.length_cons, List.length_nil, Nat.reduceAdd, Nat.reduceSub, List.replicate, List.cons_append, List.nil_append]
  have w1 : IntKind.i64.wrap ((xs.length : Int) + ((1 : Nat) : Int)) = ((xs.length + 1 : Nat) : Int) := by rw [wrap_i64 (by omega) (by omega)]; rfl
  have w2 : IntKind.i64.wrap ((i : Int) + ((1 : Nat) : Int)) = ((i + 1 : Nat) : Int) := by rw [wrap_i64 (by omega) (by omega)]; rfl
  have w3 : IntKind.i64.wrap (((xs.length + 1 : Nat) : Int) - (i : Int)) = ((xs.length + 1 - i : Nat) : Int) := by rw [wrap_i64 (by omega) (by omega)]; omega
  have c1 : (((1 : Nat) : Int) == 0) = false := by decide
  by_cases hin : i = xs.length
  · subst hin
    try simp (maxSteps := 1000000) only [seval, Int.toNat_natCast, c1]
    refine ⟨by omega, ?_⟩
    by_cases hr : xs.length + 1 ≤ N
    · try simp (maxSteps := 1000000) only [seval, hr]
      apply hK
      simp only [Tryz.results131, retK, ares, List.take_nil, Bool.and_true, Bool.true_and, AV.ofResults, St.trunc, q00, q01, AB.trunc, List.getD_cons_zero, List.getD_cons_succ, List.take_succ_cons, List.map_nil, List.map_cons, Nat.reduceLeDiff, true_and, and_true, ↓reduceIte, List.cons.injEq, exists_eq_left']
      exact .inl ⟨N, [], by simp⟩
    · try simp (maxSteps := 1000000) only [seval, hr]
      refine ⟨⟨by simp only [maxLen]; omega, by omega⟩, ?_⟩
      try simp (maxSteps := 1000000) only [seval]
      apply hK
      simp only [Tryz.results131, retK, ares, List.take_nil, Bool.and_true, Bool.true_and, AV.ofResults, St.trunc, q00, q01, AB.trunc, List.getD_cons_zero, List.getD_cons_succ, List.take_succ_cons, List.map_nil, List.map_cons, Nat.reduceLeDiff, true_and, and_true, ↓reduceIte, List.cons.injEq, exists_eq_left']
      exact .inr (by simp)
  · have hlt : i < xs.length := by omega
    have c2 : ((i : Int) == (xs.length : Int)) = false := by simp; omega
    by_cases hr : xs.length + 1 ≤ N
    · have d1 : decide ((N : Int) < ((xs.length + 1 : Nat) : Int)) = false := decide_eq_false (by omega)
      have n1 : ¬ i + 1 = xs.length + 1 := by omega
      have n2 : ¬ i = xs.length + 1 := by omega
      try simp (maxSteps := 1000000) only [seval, Int.toNat_natCast, c1, c2, w1, w2, Nat.sub_zero, d1, hin, n1, n2]
      refine ⟨by omega, by omega, by omega, ?_⟩
      refine q3b ?_
      try simp (maxSteps := 1000000) only [seval]
      refine callG_ext (q4w (tS := 85) (tR := 4) (e := 138) tyOk Tryz.func143 rfl rfl (by kernel_rfl) (by kernel_rfl) rfl rfl rfl (by decide) rfl rfl) ?_
      try simp (maxSteps := 1000000) only [seval]
      have ek : (xs.drop i).take (min (xs.length + 1 - (i + 1)) (xs.length + 1 - i)) = xs.drop i := List.take_of_length_le (by simp; omega)
      refine q0w tyOk (by rfl) (by simp only [List.length_cons, List.length_nil, Nat.reduceAdd, Nat.zero_le]) (by kernel_rfl) rfl ?_
      try simp (maxSteps := 1000000) only [seval, Int.toNat_natCast, w2, n1, n2, ek]
      refine ⟨by omega, by omega, by omega, ?_⟩
      refine ⟨by kernel_rfl, ?_⟩
      have es : List.take (xs.length + 1 - i) [v] = [v] := List.take_of_length_le (by simp; omega)
      have e3 : (xs.take (i + 1) ++ xs.drop i ++ xs.drop (i + 1 + (xs.drop i).length)).take i ++ [v] ++ (xs.take (i + 1) ++ xs.drop i ++ xs.drop (i + 1 + (xs.drop i).length)).drop (i + 1) = xs.take i ++ [v] ++ xs.drop i := by
        have hl : (xs.take (i + 1)).length = i + 1 := by simp; omega
        have hd : xs.drop (i + 1 + (xs.drop i).length) = [] := List.drop_of_length_le (by simp; omega)
        rw [hd, List.append_nil, List.take_append_of_le_length (by omega), List.take_take, Nat.min_eq_left (by omega),
          List.drop_append_of_le_length (by omega), List.drop_of_length_le (by omega), List.nil_append]
      try simp (maxSteps := 1000000) only [seval, Int.toNat_natCast, n2, es]
      refine ⟨by omega, ⟨by omega, by simp; omega⟩, ?_⟩
      apply hK
      simp only [Tryz.results131, retK, ares, List.take_nil, Bool.and_true, Bool.true_and, AV.ofResults, St.trunc, q00, q01, AB.trunc, List.getD_cons_zero, List.getD_cons_succ, List.take_succ_cons, List.map_nil, List.map_cons, Nat.reduceLeDiff, true_and, and_true, ↓reduceIte, List.cons.injEq, exists_eq_left']
      exact .inl ⟨N, [], by rw [e3, List.append_nil]⟩
    · have d1 : decide ((N : Int) < ((xs.length + 1 : Nat) : Int)) = true := decide_eq_true (by omega)
      have g1 : ¬ i + (xs.length + 1 - i) ≤ N := by omega
      have g2 : ¬ i = i + (xs.length + 1 - i) := by omega
      have g3 : ¬ i + 1 = i + (xs.length + 1 - i) := by omega
      have g4 : List.take (i + (xs.length + 1 - i) - i) [v] = [v] := List.take_of_length_le (by simp; omega)
      have g5 : (xs.drop i).take (min (i + (xs.length + 1 - i) - (i + 1)) (xs.length - i)) = xs.drop i := List.take_of_length_le (by simp; omega)
      try simp (maxSteps := 1000000) only [seval, Int.toNat_natCast, c1, c2, w1, w2, w3, Nat.sub_zero, d1, hin, g1, g2, g4]
      refine ⟨by omega, by omega, ⟨by omega, by omega, by omega, by omega, by simp only [maxLen]; omega, by omega⟩, by omega, ⟨by omega, by simp; omega⟩, ?_⟩
      refine q0w tyOk (by rfl) (by simp only [List.length_cons, List.length_nil, Nat.reduceAdd, Nat.zero_le]) (by kernel_rfl) rfl ?_
      try simp (maxSteps := 1000000) only [seval, Int.toNat_natCast, w2, g3, g5, hin]
      have hB : (xs.take i ++ List.replicate (xs.length + 1 - i) (rawNil)).take i = xs.take i := by
        rw [List.take_append_of_le_length (by simp; omega), List.take_take, Nat.min_self]
      have hli : (xs.take i).length = i := by simp; omega
      rw [hB]
      refine ⟨by omega, by omega, ⟨by omega, by omega, by simp; omega⟩, ?_⟩
      refine ⟨by kernel_rfl, ?_⟩
      try simp (maxSteps := 1000000) only [seval, hB]
      apply hK
      simp only [Tryz.results131, retK, ares, List.take_nil, Bool.and_true, AV.ofResults, St.trunc, q00, q01, AB.trunc, List.getD_cons_zero, List.getD_cons_succ, List.take_succ_cons, List.map_nil, List.map_cons, Nat.reduceLeDiff, and_true, ↓reduceIte, List.cons.injEq, exists_eq_left']
      have e4 : ∀ D : List AV, (xs.take i ++ [v] ++ D).take (i + 1) = xs.take i ++ [v] := fun D => by
        rw [List.take_append_of_le_length (by simp; omega), List.take_of_length_le (by simp; omega)]
      have e5 : (xs.take i ++ [v] ++ (xs.take i ++ List.replicate (xs.length + 1 - i) (rawNil)).drop (i + 1)).drop (i + 1 + (xs.drop i).length) = [] := List.drop_of_length_le (by simp; omega)
      refine .inr ?_
      rw [e4, e5, List.append_nil]
      exact ⟨by congr 1; omega, rfl⟩

end Go.Proofs.YtdkcpcflfnakdaaGreat
namespace Go.Proofs.YtdkcpcflfnakdaaGreat
open Go Go.Proofs.YtdkcpcflfnakdaaGreat.Sym
attribute [-sevalprocAttr] Int.reduceToNat Int.reduceNatCast Int.reduceNatCast' Nat.reduceSubDiff
set_option maxRecDepth 100000
set_option maxHeartbeats 1000000
set_option linter.unusedSimpArgs false
set_option linter.unusedVariables false

theorem avs_refs (l : List Ses) : q0c (avs l) = [] := by
  induction l with
  | nil => rfl
  | cons s l ih => simp only [avs, List.map_cons, q0c] at ih ⊢; rw [ih]; rfl
theorem en_refs (k : ByteArray) (e : En) : q0c [.v (.string k), .agg [.sl 4 (avs e.l), i64 e.t.st, i64 e.t.pr, i64 e.t.n]] = [] := by
  simp [q0c, AV.refs, avs_refs]
def q10 (m : List (ByteArray × En)) : AV := .agg [.sl 1 (m.map fun p => str p.1), .sl 4 (m.map fun p => En.av p.2)]
abbrev q1w (m : List (ByteArray × En)) : Prop := q2r ltS m
theorem find_se (m : List (ByteArray × En)) (k : ByteArray) (hr : q1w m) (hlen : m.length ≤ 1000000) :
    PCall P 108 [q10 m, str k] (fun x => x = .tup [i64 ((lb ltS (m.map Prod.fst) k : Nat) : Int), bool (hasAt ltS eqS (m.map Prod.fst) k)]) := by
  refine q0r tyOk Tryz.func108 rfl rfl ?_
  intro K hK
  simp only [Tryz.ntmps108, List.length_cons, List.length_nil, Nat.reduceAdd, Nat.reduceSub, List.replicate, List.cons_append, List.nil_append]
  have em : (m.map fun p => str p.1) = (m.map Prod.fst).map fun x => str x := by rw [List.map_map]; rfl
  try simp (maxSteps := 1000000) only [seval, q10, em]
  (refine q07 (search_str (m.map Prod.fst) hr k (by rw [List.length_map]; exact hlen)) rfl ?_; rintro _ rfl)
  try simp (maxSteps := 1000000) only [seval]
  apply hK
  simp only [Tryz.results108, retK, ares, Bool.and_true, Bool.true_and, AV.ofResults, St.trunc, q00, q01, List.getD_cons_zero, List.getD_cons_succ, List.take_zero, List.map_nil, true_and, and_true, List.cons.injEq, exists_eq_left']
theorem lb_len_se {m : List (ByteArray × En)} {k : ByteArray} (h : hasAt ltS eqS (m.map Prod.fst) k = true) : lb ltS (m.map Prod.fst) k < m.length := by
  apply Nat.lt_of_not_le
  intro hc
  rw [hasAt_ge (by rw [List.length_map]; omega)] at h
  cases h
theorem with_call_se (m : List (ByteArray × En)) (k : ByteArray) (v : En) (hr : q1w m) (hlen : m.length ≤ 900000) :
    PCall P 113 [q10 m, str k, En.av v] (fun x => x = q10 (withG ltS eqS m k v)) := by
  refine q0r tyOk Tryz.func113 rfl rfl ?_
  intro K hK
  simp only [Tryz.ntmps113, List.length_cons, List.length_nil, Nat.reduceAdd, Nat.reduceSub, List.replicate, List.cons_append, List.nil_append]
  have ev0 : En.av v = .agg [.sl 4 (avs v.l), i64 v.t.st, i64 v.t.pr, i64 v.t.n] := rfl
  have hfind := find_se m k hr (by omega)
  unfold q10 at hfind
  try simp (maxSteps := 1000000) only [seval, q10, ev0]
  (refine q07 hfind rfl ?_; rintro _ rfl)
  unfold withG at hK
  have lm1 : (m.map fun p => str p.1).length ≤ 1000000 := by rw [List.length_map]; omega
  have lm2 : (m.map fun p => En.av p.2).length ≤ 1000000 := by rw [List.length_map]; omega
  have hle : lb ltS (m.map Prod.fst) k ≤ m.length := by have := lb_le (lt := ltS) (m.map Prod.fst) k; rwa [List.length_map] at this
  cases hh : hasAt ltS eqS (m.map Prod.fst) k
  · rw [hh] at hK
    try simp (maxSteps := 1000000) only [seval]
    refine q0w tyOk (by rfl) (by simp only [List.length_cons, List.length_nil, Nat.reduceAdd, Nat.zero_le]) (by kernel_rfl) rfl ?_
    try simp (maxSteps := 1000000) only [seval]
    refine q2k (clone_str _ lm1) rfl rfl ?_
    try simp (maxSteps := 1000000) only [seval]
    refine q5l (insert_str _ (str k) (lb ltS (m.map Prod.fst) k) (by rw [List.length_map]; exact hle) lm1) 3 (by decide) rfl rfl rfl rfl ?_
    try simp (maxSteps := 1000000) only [seval]
    refine q2k (clone_ent _ lm2) rfl rfl ?_
    try simp (maxSteps := 1000000) only [seval]
    refine q5l (insert_ent _ (En.av v) (lb ltS (m.map Prod.fst) k) (by rw [List.length_map]; exact hle) lm2) 4 (by decide) rfl rfl rfl rfl ?_
    try simp (maxSteps := 1000000) only [seval]
    refine ⟨by kernel_rfl, ?_⟩
    try simp (maxSteps := 1000000) only [seval]
    apply hK
    simp only [Tryz.results113, retK, ares, List.take_nil, Bool.and_true, Bool.true_and, AV.ofResults, St.trunc, q00, q01, aload, acell, T, TI.isAgg, List.getD_cons_zero, List.getD_cons_succ, List.take_zero, List.take_succ_cons, List.drop_zero, List.map_nil, List.getElem?_cons_zero, List.getElem?_cons_succ, List.length_cons, List.length_nil, Nat.reduceAdd, Nat.reduceLeDiff, Nat.le_refl, true_and, and_true, ↓reduceIte, Bool.false_eq_true, List.cons.injEq, exists_eq_left']
    rw [q2h (by simp; omega), q2h (by simp; omega)]
    simp only [q10, List.map_append, List.map_take, List.map_drop, List.map_cons, List.map_nil]
  · rw [hh] at hK
    have hl := lb_len_se hh
    have eg : (m.map fun p => En.av p.2).getD (Int.toNat ((lb ltS (m.map Prod.fst) k : Nat) : Int)) .any = En.av m[lb ltS (m.map Prod.fst) k].2 := at_map hl
    have k1 : (0 : Int) ≤ ((lb ltS (m.map Prod.fst) k : Nat) : Int) ∧ Int.toNat ((lb ltS (m.map Prod.fst) k : Nat) : Int) < m.length := by omega
    try simp (maxSteps := 1000000) only [seval]
    refine q0w tyOk (by rfl) (by simp only [List.length_cons, List.length_nil, Nat.reduceAdd, Nat.zero_le]) (by kernel_rfl) rfl ?_
    try simp (maxSteps := 1000000) only [seval]
    refine q2k (clone_ent _ lm2) rfl rfl ?_
    try simp (maxSteps := 1000000) only [seval]
    refine ⟨by kernel_rfl, ?_⟩
    have eg' : (m.map fun p => En.av p.2).getD (Int.toNat ((lb ltS (m.map Prod.fst) k : Nat) : Int)) .any = .agg [.sl 4 (avs (m[lb ltS (m.map Prod.fst) k].2).l), i64 (m[lb ltS (m.map Prod.fst) k].2).t.st, i64 (m[lb ltS (m.map Prod.fst) k].2).t.pr, i64 (m[lb ltS (m.map Prod.fst) k].2).t.n] := eg
    try simp (maxSteps := 1000000) only [seval, eg', k1, List.length_map, ev0]
    apply hK
    simp only [Tryz.results113, retK, ares, List.take_nil, Bool.and_true, Bool.true_and, AV.ofResults, St.trunc, q00, q01, aload, acell, T, TI.isAgg, List.getD_cons_zero, List.getD_cons_succ, List.take_zero, List.take_succ_cons, List.drop_zero, List.map_nil, List.getElem?_cons_zero, List.getElem?_cons_succ, List.length_cons, List.length_nil, Nat.reduceAdd, Nat.reduceLeDiff, Nat.le_refl, true_and, and_true, ↓reduceIte, List.cons.injEq, exists_eq_left']
    rw [← ev0]
    have he : m[lb ltS (m.map Prod.fst) k].1 = k := by
      have h1 := hh
      rw [hasAt_lt (by rw [List.length_map]; exact hl)] at h1
      have h2 := (q0x _ _).1 h1
      simpa using h2
    rw [q2h (by simp)]
    simp only [q10, List.map_set, Int.toNat_natCast]
    congr 2
    congr 1
    refine (set_same_map (f := fun p : ByteArray × En => str p.1) hl ?_).symm
    simp only [he]
theorem all_call_se (m : List (ByteArray × En)) : PCall P 89 [q10 m] (fun x => x = .fn 111 [.rp [.sl 1 (m.map fun p => str p.1), .sl 4 (m.map fun p => En.av p.2)]]) := by
  refine q0r tyOk Tryz.func89 rfl rfl ?_
  intro K hK
  simp only [Tryz.ntmps89, List.length_cons, List.length_nil, Nat.reduceAdd, Nat.reduceSub, List.replicate, List.cons_append, List.nil_append]
  try simp (maxSteps := 1000000) only [seval, q10]
  apply hK
  simp only [Tryz.results89, retK, ares, q15, AV.pure, Bool.and_self, Bool.and_true, Bool.true_and, AV.ofResults, St.trunc, q00, q01, List.getD_cons_zero, List.getD_cons_succ, List.take_zero, List.drop_zero, List.map_nil, List.getElem?_cons_zero, Nat.le_refl, true_and, and_true, ↓reduceIte, List.cons.injEq, exists_eq_left']
def q33 (m : List (ByteArray × En)) : List (List AV) := m.map fun p => [str p.1, En.av p.2]
theorem pairs_pre_se {m : List (ByteArray × En)} (i : Nat) : q33 (m.take i) <+: q33 m := (List.take_prefix i m).map _
theorem seq_se (m : List (ByteArray × En)) (hlen : m.length ≤ 1000000) : ICall P 111 [.rp [.sl 1 (m.map fun p => str p.1), .sl 4 (m.map fun p => En.av p.2)]] (q33 m) := by
  refine icall_goY tyOk Tryz.func111 rfl rfl rfl ?_
  intro y K hK
  simp only [Tryz.ntmps111, List.length_cons, List.length_nil, Nat.reduceAdd, Nat.reduceSub, List.replicate, List.cons_append, List.nil_append]
  try simp (maxSteps := 1000000) only [seval, List.length_map]
  refine loopY_rule tyOk (α := Nat) 0 [0, 1, 6, 7, 8] (fun i => i ≤ m.length)
    (fun i => ⟨[.v y, .rp [.sl 1 (m.map fun p => str p.1), .sl 4 (m.map fun p => En.av p.2)], .any, .any, .any, .any, .sl 1 (m.map fun p => str p.1), i64 m.length, i64 i, .any, .any, .any, .any, .any, .any, .any, .any, .any, .any, .any, .any, .any, .any], []⟩)
    (fun i => (q33 (m.take i), false)) (fun i => m.length - i) 0 (Nat.le_refl _) (Nat.zero_le _) rfl rfl ?_
  intro i hi
  try simp (maxSteps := 1000000) only [seval]
  (first | refine q0g ?_ ?_ | refine q0k ?_ ?_ | refine q0l ?_ ?_ | refine q0m ?_ ?_ | refine q0h ?_ ?_) <;> intro h <;> try simp (maxSteps := 1000000) only [seval]
  · have hlt : i < m.length := by simpa using h
    have e1 := at_map (f := fun p : ByteArray × En => str p.1) hlt
    have e2 := at_map (f := fun p : ByteArray × En => En.av p.2) hlt
    have c1 : (0 : Int) ≤ (i : Int) ∧ Int.toNat (i : Int) < m.length := by omega
    have ew : IntKind.i64.wrap ((i : Int) + 1) = ((i + 1 : Nat) : Int) := by rw [wrap_i64 (by omega) (by omega)]; rfl
    have e3 : q33 (m.take i) ++ [[str m[i].1, En.av m[i].2]] = q33 (m.take (i + 1)) := by
      rw [q23 hlt]; simp only [q33, List.map_append, List.map_cons, List.map_nil]
    simp only [En.av] at e3
    have e2' : (m.map fun p => En.av p.2).getD (Int.toNat (i : Int)) .any = .agg [.sl 4 (avs m[i].2.l), i64 m[i].2.t.st, i64 m[i].2.t.pr, i64 m[i].2.t.n] := e2
    try simp (maxSteps := 1000000) only [seval, e1, e2', c1, List.length_map]
    refine ⟨⟨by rw [e3]; exact pairs_pre_se _, en_refs _ _⟩, ?_⟩
    intro b
    cases b with
    | true =>
      try simp (maxSteps := 1000000) only [seval, ew]
      simp only [q4b, St.trunc, St.keep, q00, q01, keepV, List.elem_cons, List.elem_nil, List.take_zero, List.map_nil, Nat.reduceAdd, Nat.reduceBEq, Nat.zero_add, Bool.false_eq_true, ↓reduceIte]
      exact ⟨i + 1, hlt, by omega, rfl, by rw [e3]⟩
    | false =>
      try simp (maxSteps := 1000000) only [seval]
      exact hK _ _ _ (itK_ret ⟨by rw [e3]; exact pairs_pre_se _, fun h => by cases h⟩)
  · have hge : i = m.length := by have : ¬ ((i : Int) < (m.length : Int)) := by simpa using h
                                  omega
    subst hge
    refine hK _ _ _ (itK_normal ⟨pairs_pre_se _, fun _ => by rw [List.take_length]⟩)
theorem get_raw_se (m : List (ByteArray × En)) (k : ByteArray) (hr : q1w m) (hlen : m.length ≤ 1000000) :
    PCall P 78 [q10 m, str k] (fun x => x = .tup [if hasAt ltS eqS (m.map Prod.fst) k = true then En.av (getG ltS eqS nilEn m k).1 else rawNil, bool (getG ltS eqS nilEn m k).2]) := by
  refine q0r tyOk Tryz.func78 rfl rfl ?_
  intro K hK
  simp only [Tryz.ntmps78, List.length_cons, List.length_nil, Nat.reduceAdd, Nat.reduceSub, List.replicate, List.cons_append, List.nil_append]
  have hfind := find_se m k hr hlen
  unfold q10 at hfind
  try simp (maxSteps := 1000000) only [seval, q10]
  (refine q07 hfind rfl ?_; rintro _ rfl)
  unfold getG at hK
  cases hh : hasAt ltS eqS (m.map Prod.fst) k
  · rw [hh] at hK
    try simp (maxSteps := 1000000) only [seval]
    apply hK
    simp only [Tryz.results78, retK, ares, List.take_nil, Bool.and_true, Bool.true_and, AV.ofResults, St.trunc, q00, q01, aload, acell, T, TI.isAgg, List.getD_cons_zero, List.getD_cons_succ, List.take_zero, List.take_succ_cons, List.drop_zero, List.map_nil, List.getElem?_cons_zero, List.getElem?_cons_succ, List.length_cons, List.length_nil, Nat.reduceAdd, Nat.le_refl, true_and, and_true, ↓reduceIte, Bool.false_eq_true, List.cons.injEq, exists_eq_left']
  · rw [hh] at hK
    have hl := lb_len_se hh
    have eg : (m.map fun p => En.av p.2).getD (Int.toNat ((lb ltS (m.map Prod.fst) k : Nat) : Int)) .any = En.av ((m.map Prod.snd).getD (lb ltS (m.map Prod.fst) k) nilEn) := by
      rw [at_map hl, List.getD_eq_getElem?_getD, List.getElem?_map, List.getElem?_eq_getElem hl]; rfl
    have k1 : (0 : Int) ≤ ((lb ltS (m.map Prod.fst) k : Nat) : Int) ∧ Int.toNat ((lb ltS (m.map Prod.fst) k : Nat) : Int) < m.length := by omega
    obtain ⟨en, hen⟩ : ∃ en, (m.map Prod.snd).getD (lb ltS (m.map Prod.fst) k) nilEn = en := ⟨_, rfl⟩
    rw [hen] at eg hK
    have eg' : (m.map fun p => En.av p.2).getD (Int.toNat ((lb ltS (m.map Prod.fst) k : Nat) : Int)) .any = .agg [.sl 4 (avs en.l), i64 en.t.st, i64 en.t.pr, i64 en.t.n] := eg
    try simp (maxSteps := 1000000) only [seval, eg', k1, List.length_map]
    apply hK
    simp only [Tryz.results78, retK, ares, List.take_nil, Bool.and_true, Bool.true_and, AV.ofResults, St.trunc, q00, q01, aload, acell, T, TI.isAgg, List.getD_cons_zero, List.getD_cons_succ, List.take_zero, List.take_succ_cons, List.drop_zero, List.map_nil, List.getElem?_cons_zero, List.getElem?_cons_succ, List.length_cons, List.length_nil, Nat.reduceAdd, Nat.le_refl, true_and, and_true, ↓reduceIte, List.cons.injEq, exists_eq_left']
    rfl
theorem get_call_se (m : List (ByteArray × En)) (k : ByteArray) (hr : q1w m) (hlen : m.length ≤ 1000000) :
    PCall P 78 [q10 m, str k] (fun x => x = .tup [En.av (getG ltS eqS nilEn m k).1, bool (getG ltS eqS nilEn m k).2]) := by
  refine (get_raw_se m k hr hlen).weaken (.inr ⟨_, rfl, _, _, rfl, ?_, _, _, rfl, q1f _, rfl⟩)
  unfold getG
  split
  · exact q1f _
  · exact weak_en
theorem without_call_se (m : List (ByteArray × En)) (k : ByteArray) (hr : q1w m) (hlen : m.length ≤ 900000) :
    PCall P 112 [q10 m, str k] (fun x => x = q10 (q1x ltS eqS m k)) := by
  refine q0r tyOk Tryz.func112 rfl rfl ?_
  intro K hK
  simp only [Tryz.ntmps112, List.length_cons, List.length_nil, Nat.reduceAdd, Nat.reduceSub, List.replicate, List.cons_append, List.nil_append]
  have hfind := find_se m k hr (by omega)
  unfold q10 at hfind
  try simp (maxSteps := 1000000) only [seval, q10]
  (refine q07 hfind rfl ?_; rintro _ rfl)
  unfold q1x at hK
  have lm1 : (m.map fun p => str p.1).length ≤ 1000000 := by rw [List.length_map]; omega
  have lm2 : (m.map fun p => En.av p.2).length ≤ 1000000 := by rw [List.length_map]; omega
  cases hh : hasAt ltS eqS (m.map Prod.fst) k
  · rw [hh] at hK
    try simp (maxSteps := 1000000) only [seval]
    apply hK
    simp only [Tryz.results112, retK, ares, List.take_nil, Bool.and_true, Bool.true_and, AV.ofResults, St.trunc, q00, q01, aload, acell, T, TI.isAgg, List.getD_cons_zero, List.getD_cons_succ, List.take_zero, List.take_succ_cons, List.drop_zero, List.map_nil, List.getElem?_cons_zero, List.getElem?_cons_succ, List.length_cons, List.length_nil, Nat.reduceAdd, Nat.le_refl, true_and, and_true, ↓reduceIte, Bool.false_eq_true, List.cons.injEq, exists_eq_left']
    rfl
  · rw [hh] at hK
    have hl := lb_len_se hh
    have w1 : IntKind.i64.wrap (((lb ltS (m.map Prod.fst) k : Nat) : Int) + 1) = ((lb ltS (m.map Prod.fst) k + 1 : Nat) : Int) := by rw [wrap_i64 (by omega) (by omega)]; rfl
    try simp (maxSteps := 1000000) only [seval]
    refine q0w tyOk (by rfl) (by simp only [List.length_cons, List.length_nil, Nat.reduceAdd, Nat.zero_le]) (by kernel_rfl) rfl ?_
    try simp (maxSteps := 1000000) only [seval, w1]
    refine q2k (clone_str _ lm1) rfl rfl ?_
    try simp (maxSteps := 1000000) only [seval, w1]
    refine drawCall_on (delete_str _ (lb ltS (m.map Prod.fst) k) (by rw [List.length_map]; exact hl) lm1) 2 rfl rfl rfl rfl rfl ?_
    try simp (maxSteps := 1000000) only [seval, w1]
    refine q2k (clone_ent _ lm2) rfl rfl ?_
    try simp (maxSteps := 1000000) only [seval, w1]
    refine drawCall_on (delete_ent _ (lb ltS (m.map Prod.fst) k) (by rw [List.length_map]; exact hl) lm2) 3 rfl rfl rfl rfl rfl ?_
    try simp (maxSteps := 1000000) only [seval, w1]
    refine ⟨by kernel_rfl, ?_⟩
    try simp (maxSteps := 1000000) only [seval]
    apply hK
    simp only [Tryz.results112, retK, ares, List.take_nil, Bool.and_true, Bool.true_and, AV.ofResults, St.trunc, q00, q01, aload, acell, T, TI.isAgg, List.getD_cons_zero, List.getD_cons_succ, List.take_zero, List.take_succ_cons, List.drop_zero, List.map_nil, List.getElem?_cons_zero, List.getElem?_cons_succ, List.length_cons, List.length_nil, Nat.reduceAdd, Nat.reduceLeDiff, Nat.le_refl, true_and, and_true, ↓reduceIte, List.cons.injEq, exists_eq_left']
    rw [cut_last (by rw [List.length_map]; exact hl), cut_last (by rw [List.length_map]; exact hl)]
    simp only [q10, List.map_append, List.map_take, List.map_drop]
end Go.Proofs.YtdkcpcflfnakdaaGreat
namespace Go.Proofs.YtdkcpcflfnakdaaGreat
open Go Go.Proofs.YtdkcpcflfnakdaaGreat.Sym
attribute [-sevalprocAttr] Int.reduceToNat Int.reduceNatCast Int.reduceNatCast' Nat.reduceSubDiff
set_option maxRecDepth 100000
set_option maxHeartbeats 1000000
set_option linter.unusedSimpArgs false
set_option linter.unusedVariables false

def addW (a b : Int) : Int := if IntKind.u64.wrap (18446744073709551615 - a) < b then 18446744073709551615 else IntKind.u64.wrap (a + b)
theorem tick_Add (a b : Int) : PCall P 94 [u64 a, u64 b] (fun x => x = u64 (addW a b)) := by
  refine q0r tyOk Tryz.func94 rfl rfl ?_
  intro K hK
  simp only [Tryz.ntmps94, List.length_cons, List.length_nil, Nat.reduceAdd, Nat.reduceSub, List.replicate, List.cons_append, List.nil_append]
  try simp (maxSteps := 1000000) only [seval]
  (first | refine q0g ?_ ?_ | refine q0k ?_ ?_ | refine q0l ?_ ?_ | refine q0m ?_ ?_ | refine q0h ?_ ?_) <;> intro h <;> try simp (maxSteps := 1000000) only [seval]
  · apply hK
    simp only [Tryz.results94, retK, ares, List.take_nil, Bool.and_true, Bool.true_and, AV.ofResults, St.trunc, q00, q01, List.getD_cons_zero, List.getD_cons_succ, List.map_nil, true_and, and_true, List.cons.injEq, exists_eq_left']
    rw [addW, if_pos (by simpa using h)]
  · apply hK
    simp only [Tryz.results94, retK, ares, List.take_nil, Bool.and_true, Bool.true_and, AV.ofResults, St.trunc, q00, q01, List.getD_cons_zero, List.getD_cons_succ, List.map_nil, true_and, and_true, List.cons.injEq, exists_eq_left']
    rw [addW, if_neg (by simpa using h)]
abbrev Bk := List (ByteArray × En)
def ofP (l : List Ses) (now : Int) : Pr := ⟨(bestF (lives now l)).1.st, (bestF (lives now l)).1.pr, (bestF (lives now l)).2⟩
def wasOf (m : Bk) (u : ByteArray) : En := (getG ltS eqS nilEn m u).1
def q21 (m : Bk) (u : ByteArray) (l : List Ses) (now : Int) : Bk := if l.length = 0 then q1x ltS eqS m u else withG ltS eqS m u ⟨l, ofP l now⟩
def q3h (m : Bk) (u : ByteArray) (l : List Ses) (now : Int) : List Chg := if ofP l now = (wasOf m u).t then [] else [⟨u, (wasOf m u).t, ofP l now⟩]

theorem of_call (l : List Ses) (now : Int) (h : l.length ≤ 1000000) : PCall P 79 [.sl 4 (avs l), u64 now] (fun x => x = .agg [i64 (ofP l now).st, i64 (ofP l now).pr, i64 (ofP l now).n]) := aggr_Of l now (by omega)
theorem get_open (m : Bk) (u : ByteArray) (hr : q1w m) (hlen : m.length ≤ 800000) : PCall P 78 [q10 m, str u]
    (fun x => x = .tup [.agg [.sl 4 (avs (wasOf m u).l), i64 (wasOf m u).t.st, i64 (wasOf m u).t.pr, i64 (wasOf m u).t.n], bool (getG ltS eqS nilEn m u).2]) := get_call_se m u hr (by omega)

theorem settle_raw (m : Bk) (u : ByteArray) (l : List Ses) (now : Int) (hr : q1w m) (hlen : m.length ≤ 800000) (hl : l.length ≤ 800000) :
    PCall P 91 [q10 m, str u, .sl 4 (avs l), u64 now] (fun x => x = .tup [q10 (q21 m u l now), if q3h m u l now = [] then .v (.slice none 0 0) else .sl 7 (chgs (q3h m u l now))]) := by
  refine q0r tyOk Tryz.func91 rfl rfl ?_
  intro K hK
  simp only [Tryz.ntmps91, List.length_cons, List.length_nil, Nat.reduceAdd, Nat.reduceSub, List.replicate, List.cons_append, List.nil_append]
  try simp (maxSteps := 1000000) only [seval, q10]
  (refine q07 (get_open m u hr hlen) rfl ?_; rintro _ rfl)
  try simp (maxSteps := 1000000) only [seval]
  (refine q07 (of_call l now (by omega)) rfl ?_; rintro _ rfl)
  try simp (maxSteps := 1000000) only [seval, pr_beq, q12]
  (first | refine q0g ?_ ?_ | refine q0k ?_ ?_ | refine q0l ?_ ?_ | refine q0m ?_ ?_ | refine q0h ?_ ?_) <;> intro h
  · have hne : ¬ ofP l now = (wasOf m u).t := by simpa using h
    have hc : q3h m u l now = [⟨u, (wasOf m u).t, ofP l now⟩] := by rw [q3h, if_neg hne]
    try simp (maxSteps := 1000000) only [seval, q12]
    (first | refine q0g ?_ ?_ | refine q0k ?_ ?_ | refine q0l ?_ ?_ | refine q0m ?_ ?_ | refine q0h ?_ ?_) <;> intro h2
    · have hl0 : l.length = 0 := by simpa using h2
      have hs : q21 m u l now = q1x ltS eqS m u := by rw [q21, if_pos hl0]
      try simp (maxSteps := 1000000) only [seval]
      (refine q07 (without_call_se m u hr (by omega)) rfl ?_; rintro _ rfl)
      try simp (maxSteps := 1000000) only [seval, q10]
      apply hK
      simp only [Tryz.results91, retK, ares, List.take_nil, Bool.and_true, Bool.true_and, AV.ofResults, St.trunc, q00, q01, aload, acell, T, TI.isAgg, List.getD_cons_zero, List.getD_cons_succ, List.take_zero, List.take_succ_cons, List.drop_zero, List.map_nil, List.getElem?_cons_zero, List.getElem?_cons_succ, List.length_cons, List.length_nil, Nat.reduceAdd, Nat.reduceLeDiff, Nat.le_refl, true_and, and_true, ↓reduceIte, List.cons.injEq, exists_eq_left']
      rw [hc, hs]
      try rfl
    · have hl0 : ¬ l.length = 0 := by simpa using h2
      have hs : q21 m u l now = withG ltS eqS m u ⟨l, ofP l now⟩ := by rw [q21, if_neg hl0]
      have hw := with_call_se m u ⟨l, ofP l now⟩ hr (by omega)
      unfold En.av at hw
      try simp (maxSteps := 1000000) only [seval]
      (refine q07 hw rfl ?_; rintro _ rfl)
      try simp (maxSteps := 1000000) only [seval, q10]
      apply hK
      simp only [Tryz.results91, retK, ares, List.take_nil, Bool.and_true, Bool.true_and, AV.ofResults, St.trunc, q00, q01, aload, acell, T, TI.isAgg, List.getD_cons_zero, List.getD_cons_succ, List.take_zero, List.take_succ_cons, List.drop_zero, List.map_nil, List.getElem?_cons_zero, List.getElem?_cons_succ, List.length_cons, List.length_nil, Nat.reduceAdd, Nat.reduceLeDiff, Nat.le_refl, true_and, and_true, ↓reduceIte, List.cons.injEq, exists_eq_left']
      rw [hc, hs]
      try rfl
  · have hne : ofP l now = (wasOf m u).t := by simpa using h
    have hc : q3h m u l now = [] := by rw [q3h, if_pos hne]
    try simp (maxSteps := 1000000) only [seval, q12]
    (first | refine q0g ?_ ?_ | refine q0k ?_ ?_ | refine q0l ?_ ?_ | refine q0m ?_ ?_ | refine q0h ?_ ?_) <;> intro h2
    · have hl0 : l.length = 0 := by simpa using h2
      have hs : q21 m u l now = q1x ltS eqS m u := by rw [q21, if_pos hl0]
      try simp (maxSteps := 1000000) only [seval]
      (refine q07 (without_call_se m u hr (by omega)) rfl ?_; rintro _ rfl)
      try simp (maxSteps := 1000000) only [seval, q10]
      apply hK
      simp only [Tryz.results91, retK, ares, List.take_nil, Bool.and_true, Bool.true_and, AV.ofResults, St.trunc, q00, q01, aload, acell, T, TI.isAgg, List.getD_cons_zero, List.getD_cons_succ, List.take_zero, List.take_succ_cons, List.drop_zero, List.map_nil, List.getElem?_cons_zero, List.getElem?_cons_succ, List.length_cons, List.length_nil, Nat.reduceAdd, Nat.le_refl, true_and, and_true, ↓reduceIte, List.cons.injEq, exists_eq_left']
      rw [hc, hs]
      try rfl
    · have hl0 : ¬ l.length = 0 := by simpa using h2
      have hs : q21 m u l now = withG ltS eqS m u ⟨l, ofP l now⟩ := by rw [q21, if_neg hl0]
      have hw := with_call_se m u ⟨l, ofP l now⟩ hr (by omega)
      unfold En.av at hw
      try simp (maxSteps := 1000000) only [seval]
      (refine q07 hw rfl ?_; rintro _ rfl)
      try simp (maxSteps := 1000000) only [seval, q10]
      apply hK
      simp only [Tryz.results91, retK, ares, List.take_nil, Bool.and_true, Bool.true_and, AV.ofResults, St.trunc, q00, q01, aload, acell, T, TI.isAgg, List.getD_cons_zero, List.getD_cons_succ, List.take_zero, List.take_succ_cons, List.drop_zero, List.map_nil, List.getElem?_cons_zero, List.getElem?_cons_succ, List.length_cons, List.length_nil, Nat.reduceAdd, Nat.le_refl, true_and, and_true, ↓reduceIte, List.cons.injEq, exists_eq_left']
      rw [hc, hs]
      try rfl
theorem q5a (m : Bk) (u : ByteArray) (l : List Ses) (now : Int) (hr : q1w m) (hlen : m.length ≤ 800000) (hl : l.length ≤ 800000) :
    PCall P 91 [q10 m, str u, .sl 4 (avs l), u64 now] (fun x => x = .tup [q10 (q21 m u l now), .sl 7 (chgs (q3h m u l now))]) := by
  refine (settle_raw m u l now hr hlen hl).weaken (.inr ⟨_, rfl, _, _, rfl, q1f _, _, _, rfl, ?_, rfl⟩)
  split
  · rename_i h; rw [h]; exact weak_nil 7
  · exact q1f _

structure Opb where
  kind : Int
  u : ByteArray
  id : Int
  st : Int
  pr : Int
  ttl : Int
  us : List ByteArray
def Opb.av (o : Opb) : AV := .agg [i64 o.kind, str o.u, i64 o.id, i64 o.st, i64 o.pr, u64 o.ttl, .sl 1 (o.us.map fun x => str x)]
def bookOk (n : Nat) (m : Bk) : Prop := q1w m ∧ m.length ≤ n ∧ ∀ p ∈ m, Up p.2.l ∧ p.2.l.length ≤ n
def q2s (m : Bk) (o : Opb) (now most : Int) : List Ses × Int :=
  let l := lives now (wasOf m o.u).l
  if o.kind = 1 then setF l ⟨o.id, o.st, o.pr, addW now o.ttl⟩ most
  else if o.kind = 2 then beatF l o.id (addW now o.ttl)
  else if o.kind = 3 then (clear l o.id, if has l o.id = true then 0 else 3)
  else (l, 0)
def writeB (m : Bk) (o : Opb) (now most : Int) : Bk := q21 m o.u (q2s m o now most).1 now
def writeC (m : Bk) (o : Opb) (now most : Int) : List Chg := q3h m o.u (q2s m o now most).1 now
theorem was_ok {n : Nat} {m : Bk} (h : bookOk n m) (u : ByteArray) : Up (wasOf m u).l ∧ (wasOf m u).l.length ≤ n := by
  by_cases hk : u ∈ m.map Prod.fst
  · obtain ⟨⟨k, e⟩, hp, rfl⟩ := List.mem_map.1 hk
    rw [wasOf, q31 ordS q0x h.1 hp]
    exact h.2.2 _ hp
  · rw [wasOf, q3k ordS q0x h.1 hk]
    exact ⟨List.Pairwise.nil, Nat.zero_le _⟩
theorem put_len {l : List Ses} (hr : Up l) (s : Ses) : (put l s).length ≤ l.length + 1 := by
  rw [← put_at hr s]
  split
  · rw [List.length_set]; omega
  · simp; omega
theorem setF_ok {l : List Ses} (hr : Up l) (s : Ses) (most : Int) : Up (setF l s most).1 ∧ (setF l s most).1.length ≤ l.length + 1 := by
  unfold setF
  split
  · exact ⟨hr, Nat.le_succ _⟩
  · rw [ins_eq hr]; exact ⟨put_up hr s, put_len hr s⟩
theorem bmpS_id (id u : Int) (s : Ses) : (bmpS id u s).id = s.id := by unfold bmpS; split <;> rfl
theorem beatF_ok {l : List Ses} (hr : Up l) (id u : Int) : Up (beatF l id u).1 ∧ (beatF l id u).1.length = l.length := by
  unfold beatF
  split
  · refine ⟨?_, by simp⟩
    have e : ids (l.map (bmpS id u)) = ids l := by
      rw [ids, ids, List.map_map]
      exact List.map_congr_left fun s _ => bmpS_id id u s
    show Rises ltI (ids (l.map (bmpS id u)))
    rw [e]; exact hr
  · exact ⟨hr, rfl⟩
theorem writeL_ok {n : Nat} {m : Bk} (h : bookOk n m) (o : Opb) (now most : Int) : Up (q2s m o now most).1 ∧ (q2s m o now most).1.length ≤ n + 1 := by
  obtain ⟨h1, h2⟩ := was_ok h o.u
  have h3 := lives_up h1 now
  have h4 : (lives now (wasOf m o.u).l).length ≤ (wasOf m o.u).l.length := List.length_filter_le _ _
  unfold q2s
  simp only
  split
  · have := setF_ok h3 ⟨o.id, o.st, o.pr, addW now o.ttl⟩ most; exact ⟨this.1, by omega⟩
  · split
    · have := beatF_ok h3 o.id (addW now o.ttl); exact ⟨this.1, by omega⟩
    · split
      · exact ⟨clear_up h3 _, by have : (clear (lives now (wasOf m o.u).l) o.id).length ≤ _ := List.length_filter_le _ _; simp only; omega⟩
      · exact ⟨h3, by simp only; omega⟩
end Go.Proofs.YtdkcpcflfnakdaaGreat
