/- A text of the walk that proves a law of this seat; joined by a program. -/
import Derived.Test.YtdkcpcflfnakdaaGreatMa
set_option linter.unusedSimpArgs false
set_option linter.unusedVariables false
namespace Go.Proofs.YtdkcpcflfnakdaaGreat
open Go Go.Proofs.YtdkcpcflfnakdaaGreat.Sym
set_option maxRecDepth 100000
set_option maxHeartbeats 1000000
theorem purge_late (now : Int) (s : Ses) (row : List AV) : ACall P 116 [.box [u64 now], .row 151 4 row] [s.av, .ptr 0 0] (fun x m' => x = bool (decide (s.un ≤ now)) ∧ m' = [.box [u64 now], .row 151 4 row]) := by
  refine q2q tyOk Tryz.func116 rfl rfl ?_
  intro K hK
  simp only [Tryz.ntmps116, List.length_cons, List.length_nil, Nat.reduceAdd, Nat.reduceSub, List.replicate, List.cons_append, List.nil_append]
  try simp only [seval, go_sem, Ses.av]
  (refine q02 (tick_Late now s.un) rfl ?_; rintro _ rfl)
  try simp only [seval, go_sem]
  apply hK
  simp only [Tryz.results116, retK, ares, Bool.and_true, AV.ofResults, St.trunc, q00, q01, AB.trunc, List.getD_cons_zero, List.getD_cons_succ, List.take_zero, List.take_succ_cons, List.map_nil, List.map_cons, List.length_cons, List.length_nil, Nat.reduceAdd, and_true, List.cons.injEq, exists_eq_left']
theorem index_dead (now : Int) (l : List Ses) (hlen : l.length ≤ 1000000) : ACall P 132 [.box [u64 now], .row 151 4 (avs l)] [.own 1 4 0 l.length, .fn 116 [.ptr 0 0]]
    (fun x m' => (∃ i : Int, x = i64 i ∧ ((i = -1 ∧ lives now l = l) ∨ ∃ d : Nat, i = d ∧ ∃ h : d < l.length, (l[d]).lives now = false ∧ lives now (l.take d) = l.take d)) ∧ m' = [.box [u64 now], .row 151 4 (avs l)]) := by
  refine q2q tyOk Tryz.func132 rfl rfl ?_
  intro K hK
  simp only [Tryz.ntmps132, List.length_cons, List.length_nil, Nat.reduceAdd, Nat.reduceSub, List.replicate, List.cons_append, List.nil_append]
  try simp only [seval, go_sem]
  refine q12 tyOk (α := Nat) 2 [0, 1, 7, 8] (fun i => i ≤ l.length ∧ lives now (l.take i) = l.take i)
    (fun i => ⟨[.own 1 4 0 l.length, .fn 116 [.ptr 0 0], .any, .any, .any, .any, .any, i64 l.length, i64 i, .any, .any, .any, .any, .any, .any, .any, .any, .any, .any], [.box [u64 now], .row 151 4 (avs l)]⟩)
    (fun i => l.length - i) 0 (by first | exact Nat.zero_le _ | decide) ⟨Nat.zero_le _, rfl⟩ rfl ?_
  rintro i ⟨hi, hl⟩
  try simp only [seval, go_sem]
  (first | refine q05 ?_ ?_ | refine q08 ?_ ?_ | refine q09 ?_ ?_ | refine q07 ?_ ?_ | refine q06 ?_ ?_) <;> intro h
  · obtain ⟨hlt, eg, ew, c1⟩ := at_idx (by omega) h
    try simp only [seval, go_sem, eg, c1, q0p]
    (refine q52 (purge_late now l[i] (avs l)) [0, 1] (by decide) rfl rfl rfl rfl ?_; rintro _ _ ⟨rfl, rfl⟩; refine ⟨rfl, ?_⟩)
    try simp only [seval, go_sem]
    (first | refine q05 ?_ ?_ | refine q08 ?_ ?_ | refine q09 ?_ ?_ | refine q07 ?_ ?_ | refine q06 ?_ ?_) <;> intro h2
    · have hd : (l[i]).lives now = false := by
        have : l[i].un ≤ now := by simpa using h2
        simp only [Ses.lives, Bool.not_eq_false', decide_eq_true_eq]; exact this
      try simp only [seval, go_sem]
      apply hK
      simp only [Tryz.results132, retK, ares, List.take_nil, Bool.and_true, AV.ofResults, St.trunc, q00, q01, AB.trunc, List.getD_cons_zero, List.getD_cons_succ, List.take_succ_cons, List.map_nil, List.map_cons, List.length_cons, List.length_nil, Nat.reduceAdd, and_true, List.cons.injEq, exists_eq_left']
      exact ⟨(i : Int), rfl, .inr ⟨i, rfl, hlt, hd, hl⟩⟩
    · have hd : (l[i]).lives now = true := by
        have : ¬ l[i].un ≤ now := by simpa using h2
        simp only [Ses.lives, Bool.not_eq_true', decide_eq_false_iff_not]; exact this
      try simp only [seval, go_sem, ew]
      simp only [q0f, St.trunc, St.keep, q00, q01, AB.trunc, keepV, List.elem_cons, List.elem_nil, List.take_succ_cons, List.take_zero, List.map_cons, List.map_nil, Nat.reduceAdd, Nat.reduceBEq, Nat.reduceLeDiff, Nat.zero_add, Bool.false_eq_true, ↓reduceIte]
      exact ⟨i + 1, ⟨hlt, by rw [lives_take_in hlt hd, hl, ← q1f hlt]⟩, by omega, rfl⟩
  · obtain rfl := at_end hi h
    rw [List.take_length] at hl
    try simp only [seval, go_sem]
    apply hK
    simp only [Tryz.results132, retK, ares, List.take_nil, Bool.and_true, AV.ofResults, St.trunc, q00, q01, AB.trunc, List.getD_cons_zero, List.getD_cons_succ, List.take_succ_cons, List.map_nil, List.map_cons, List.length_cons, List.length_nil, Nat.reduceAdd, and_true, List.cons.injEq, exists_eq_left']
    exact ⟨-1, rfl, .inl ⟨rfl, hl⟩⟩
theorem set_mid {α : Type} {a g b : List α} {x y : α} : (a ++ (x :: g) ++ b).set a.length y = a ++ (y :: g) ++ b := by
  induction a with
  | nil => rfl
  | cons z a ih => simp
theorem avs_set (l : List Ses) (i : Nat) (s : Ses) : (avs l).set i s.av = avs (l.set i s) := by rw [avs, avs, List.map_set]
abbrev zses : AV := .agg [i64 0, i64 0, i64 0, u64 0]
theorem delete_dead (now : Int) (l : List Ses) (hlen : l.length ≤ 1000000) : ACall P 114 [.box [u64 now], .row 151 4 (avs l)] [.own 1 4 0 l.length, .fn 116 [.ptr 0 0]]
    (fun x m' => x = .own 1 4 0 (lives now l).length ∧ ∃ g, m' = [.box [u64 now], .row 151 4 (avs (lives now l) ++ g)]) := by
  refine q2q tyOk Tryz.func114 rfl rfl ?_
  intro K hK
  simp only [Tryz.ntmps114, List.length_cons, List.length_nil, Nat.reduceAdd, Nat.reduceSub, List.replicate, List.cons_append, List.nil_append]
  try simp only [seval, go_sem]
  refine q33 ?_
  try simp only [seval, go_sem]
  refine q52 (index_dead now l hlen) [0, 1] (by decide) rfl rfl rfl rfl ?_
  rintro _ _ ⟨⟨i, rfl, hi⟩, rfl⟩
  refine ⟨rfl, ?_⟩
  try simp only [seval, go_sem]
  rcases hi with ⟨rfl, hl⟩ | ⟨d, rfl, hd, hdead, hl⟩
  · try simp only [seval, go_sem]
    apply hK
    simp only [Tryz.results114, retK, ares, List.take_nil, Bool.and_true, Bool.true_and, AV.ofResults, St.trunc, q00, q01, AB.trunc, List.getD_cons_zero, List.getD_cons_succ, List.take_succ_cons, List.map_nil, List.map_cons, List.length_cons, List.length_nil, Nat.reduceAdd, Nat.reduceLeDiff, true_and, and_true, ↓reduceIte, List.cons.injEq, exists_eq_left']
    rw [hl]
    exact ⟨rfl, [], by rw [List.append_nil]⟩
  · have e0 : ((d : Int) == -1) = false := by rw [beq_eq_false_iff_ne]; omega
    have ew0 : IntKind.i64.wrap ((d : Int) + 1) = ((d + 1 : Nat) : Int) := by rw [wrap_i64 (by omega) (by omega)]; rfl
    have hl1 : lives now (l.take (d + 1)) = l.take d := by rw [q56 hd hdead, hl]
    have hdl : (l.take d).length = d := by rw [List.length_take]; omega
    try simp only [seval, go_sem, e0, ew0]
    refine q12 tyOk (α := Nat × List Ses) 2 [0, 1, 5, 6] (fun p => p.1 ≤ l.length ∧ 0 < p.2.length ∧ (lives now (l.take p.1)).length + p.2.length = p.1)
      (fun p => ⟨[.own 1 4 0 l.length, .fn 116 [.ptr 0 0], .any, .any, .any, i64 (lives now (l.take p.1)).length, i64 p.1, .any, .any, .any, .any, .any, .any, .any, .any, .any, .any, .any, .any, .any, .any, .any, .any, .any, .any, .any, .any, .any, .any, .any, .any, .any, .any, .any, .any, .any, .any, .any, .any, .any, .any, .any], [.box [u64 now], .row 151 4 (avs (lives now (l.take p.1) ++ p.2 ++ l.drop p.1))]⟩)
      (fun p => l.length - p.1) (d + 1, [l[d]]) (by first | exact Nat.zero_le _ | decide) ⟨hd, by simp, by simp only [List.length_singleton]; rw [hl1, hdl]⟩ ?_ ?_
    · have e1 : l.take d ++ [l[d]] ++ l.drop (d + 1) = l := by
        rw [← q1f hd, List.take_append_drop]
      simp only [hl1, hdl, e1]
      rfl
    rintro ⟨j, g⟩ ⟨hj, hg, hjg⟩
    simp only at hj hg hjg
    obtain ⟨A, hA⟩ : ∃ A, lives now (l.take j) = A := ⟨_, rfl⟩
    rw [hA] at hjg
    simp only [hA]
    obtain ⟨R, hR⟩ : ∃ R, A ++ g ++ l.drop j = R := ⟨_, rfl⟩
    have eR : R.length = l.length := by rw [← hR]; simp; omega
    try simp only [seval, go_sem]
    (first | refine q05 ?_ ?_ | refine q08 ?_ ?_ | refine q09 ?_ ?_ | refine q07 ?_ ?_ | refine q06 ?_ ?_) <;> intro h
    · obtain ⟨hlt, eg, ew, c1⟩ := at_idx (by omega) h
      have hdr : l.drop j = l[j] :: l.drop (j + 1) := List.drop_eq_getElem_cons hlt
      have hRj : R[j]'(by omega) = l[j] := by
        simp only [← hR]
        rw [List.getElem_append_right (by simp; omega)]
        simp only [hdr]
        have : j - (A ++ g).length = 0 := by simp; omega
        simp only [this, List.getElem_cons_zero]
      have eg2 := avs_get (l := R) (i := j) (by omega)
      rw [hRj] at eg2
      have eg3 := avs_get (l := R) (i := A.length) (by omega)
      have c3 : (0 : Int) ≤ ((A.length : Nat) : Int) ∧ Int.toNat ((A.length : Nat) : Int) < l.length := by omega
      have ew2 : IntKind.i64.wrap ((A.length : Int) + 1) = ((A.length + 1 : Nat) : Int) := by rw [wrap_i64 (by omega) (by omega)]; rfl
      rw [hR]
      try simp only [seval, go_sem, eg2, c1, q0p, eR, Ses.av]
      (refine q52 (purge_late now l[j] (avs R)) [0, 1] (by decide) rfl rfl rfl rfl ?_; rintro _ _ ⟨rfl, rfl⟩; refine ⟨rfl, ?_⟩)
      try simp only [seval, go_sem]
      cases hdv : (l[j]).lives now with
      | true =>
        have d1 : decide (l[j].un ≤ now) = false := by
          simp only [Ses.lives, Bool.not_eq_true'] at hdv; exact hdv
        have hA2 : lives now (l.take (j + 1)) = A ++ [l[j]] := by rw [lives_take_in hlt hdv, hA]
        try simp only [seval, go_sem, d1, c3, eR, ew2, ew, eg3, q0p, Ses.av]
        simp only [q0f, St.trunc, St.keep, q00, q01, AB.trunc, keepV, q0r, AV.pure, Bool.and_self, List.drop_zero, List.elem_cons, List.elem_nil, List.take_succ_cons, List.take_zero, List.map_cons, List.map_nil, List.getElem?_cons_zero, List.getElem?_cons_succ, Nat.reduceAdd, Nat.reduceBEq, Nat.reduceLeDiff, Nat.le_refl, Nat.zero_add, Bool.false_eq_true, ↓reduceIte]
        obtain ⟨x, g', rfl⟩ : ∃ x g', g = x :: g' := by
          cases g with
          | nil => simp at hg
          | cons x g' => exact ⟨x, g', rfl⟩
        refine ⟨(j + 1, g' ++ [l[j]]), ⟨hlt, by simp, by simp only [hA2, List.length_append, List.length_cons, List.length_nil] at hjg ⊢; omega⟩, by simp only; omega, ?_⟩
        simp only [hA2, Int.toNat_natCast]
        have e5 : (avs R).set A.length (.agg [i64 l[j].id, i64 l[j].st, i64 l[j].pr, u64 l[j].un]) = avs (A ++ [l[j]] ++ (g' ++ [l[j]]) ++ l.drop (j + 1)) := by
          have := avs_set R A.length l[j]
          rw [← hR, set_mid, hdr] at this
          rw [← hR, hdr]
          refine this.trans ?_
          simp
        rw [e5, List.length_append]
        rfl
      | false =>
        have d1 : decide (l[j].un ≤ now) = true := by
          simp only [Ses.lives, Bool.not_eq_false'] at hdv; exact hdv
        have hA2 : lives now (l.take (j + 1)) = A := by rw [q56 hlt hdv, hA]
        try simp only [seval, go_sem, d1, ew]
        simp only [q0f, St.trunc, St.keep, q00, q01, AB.trunc, keepV, q0r, AV.pure, Bool.and_self, List.drop_zero, List.elem_cons, List.elem_nil, List.take_succ_cons, List.take_zero, List.map_cons, List.map_nil, List.getElem?_cons_zero, List.getElem?_cons_succ, Nat.reduceAdd, Nat.reduceBEq, Nat.reduceLeDiff, Nat.le_refl, Nat.zero_add, Bool.false_eq_true, ↓reduceIte]
        refine ⟨(j + 1, g ++ [l[j]]), ⟨hlt, by simp, by simp only [hA2, List.length_append, List.length_singleton]; omega⟩, by simp only; omega, ?_⟩
        simp only [hA2]
        have e5 : R = A ++ (g ++ [l[j]]) ++ l.drop (j + 1) := by rw [← hR, hdr]; simp
        rw [e5]
    · obtain rfl := at_end hj h
      rw [hR]
      rw [List.take_length] at hA
      have c3 : (0 : Int) ≤ ((A.length : Nat) : Int) ∧ Int.toNat ((A.length : Nat) : Int) ≤ l.length := by omega
      have hne : ¬ Int.toNat ((A.length : Nat) : Int) = l.length := by omega
      try simp only [seval, go_sem, c3, eR, hne, q0p]
      refine ⟨by omega, ?_⟩
      have e6 : (avs R).take (Int.toNat ((A.length : Nat) : Int)) = avs (lives now l) := by
        rw [Int.toNat_natCast, ← hR, hA, avs, ← List.map_take, List.append_assoc, List.take_append_of_le_length (Nat.le_refl _), List.take_length, avs]
      rw [e6]
      apply hK
      simp only [Tryz.results114, retK, ares, List.take_nil, Bool.and_true, Bool.true_and, AV.ofResults, St.trunc, q00, q01, AB.trunc, List.getD_cons_zero, List.getD_cons_succ, List.take_succ_cons, List.map_nil, List.map_cons, List.length_cons, List.length_nil, Nat.reduceAdd, Nat.reduceLeDiff, true_and, and_true, ↓reduceIte, List.cons.injEq, exists_eq_left']
      exact ⟨by rw [hA, Int.toNat_natCast], _, by rw [List.append_assoc]⟩
theorem sess_Purge (l : List Ses) (now : Int) (hlen : l.length ≤ 1000000) : PCall P 92 [.sl 4 (avs l), u64 now] (fun x => x = .sl 4 (avs (lives now l))) := by
  refine q0d tyOk Tryz.func92 rfl rfl ?_
  intro K hK
  simp only [Tryz.ntmps92, List.length_cons, List.length_nil, Nat.reduceAdd, Nat.reduceSub, List.replicate, List.cons_append, List.nil_append]
  try simp only [seval, go_sem]
  refine callG_new rfl (by first | exact Nat.zero_le _ | decide | simp) (ACallR.new (clone_ses _ (by rw [q0p]; exact hlen)) rfl (by first | decide | simp)) ?_
  try simp only [seval, go_sem, q0p]
  refine q33 ?_
  try simp only [seval, go_sem]
  refine q52 (delete_dead now l hlen) [0, 1] (by decide) rfl rfl rfl rfl ?_
  rintro _ _ ⟨rfl, g, rfl⟩
  refine ⟨rfl, ?_⟩
  try simp only [seval, go_sem]
  apply hK
  simp only [Tryz.results92, retK, ares, Bool.and_true, Bool.true_and, AV.ofResults, St.trunc, q00, q01, List.getD_cons_zero, List.getD_cons_succ, List.take_zero, List.drop_zero, List.map_nil, List.getElem?_cons_zero, List.getElem?_cons_succ, Nat.reduceLeDiff, true_and, and_true, ↓reduceIte, List.cons.injEq, exists_eq_left']
  rw [if_pos (by simp [q0p]), List.take_append_of_le_length (by rw [q0p]; exact Nat.le_refl _), List.take_of_length_le (by rw [q0p]; exact Nat.le_refl _)]
theorem at_lt {l : List Ses} (hr : Up l) {id : Int} (h : has l id = true) : lb ltI (ids l) id < l.length := by
  apply Nat.lt_of_not_le
  intro hc
  rw [← has_at hr, hasAt_ge (by rw [ids_len]; omega)] at h
  cases h
theorem at_id {l : List Ses} (hr : Up l) {id : Int} (h : has l id = true) : (l[lb ltI (ids l) id]'(at_lt hr h)).id = id := by
  have h1 := h
  rw [← has_at hr, hasAt_lt (by rw [ids_len]; exact at_lt hr h)] at h1
  exact (ids_get (at_lt hr h)).symm.trans ((eqI_iff _ _).1 h1)
theorem set_has {l : List Ses} (hr : Up l) {s : Ses} (most : Int) (h : has l s.id = true) : setF l s most = (l.set (lb ltI (ids l) s.id) s, 0) := by
  have hput := put_at hr s
  rw [if_pos h] at hput
  rw [setF, if_neg (by rw [h]; simp), ins_eq hr, ← hput]
theorem set_full {l : List Ses} {s : Ses} {most : Int} (h : has l s.id = false) (h2 : decide (most ≤ l.length) = true) : setF l s most = (l, 2) := by
  rw [setF, if_pos (by rw [h, h2]; rfl)]
theorem set_new {l : List Ses} (hr : Up l) {s : Ses} {most : Int} (h : has l s.id = false) (h2 : decide (most ≤ l.length) = false) : setF l s most = (l.take (lb ltI (ids l) s.id) ++ [s] ++ l.drop (lb ltI (ids l) s.id), 0) := by
  have hput := put_at hr s
  rw [if_neg (by rw [h]; decide)] at hput
  rw [setF, if_neg (by rw [h, h2]; simp), ins_eq hr, ← hput]
theorem clear_at {l : List Ses} (hr : Up l) (id : Int) : (if has l id = true then l.take (lb ltI (ids l) id) ++ l.drop (lb ltI (ids l) id + 1) else l) = clear l id := by
  have h := congrArg (List.map Prod.snd) (q3r ordI eqI_iff (m := keyed l) (by rw [q2f, keyed_fst]; exact hr) id)
  have f1 : ((keyed l).filter (fun p => !eqI p.1 id)).map Prod.snd = clear l id := by
    rw [keyed, List.filter_map, List.map_map]
    exact List.map_id _
  rw [f1] at h
  unfold q1e at h
  rw [keyed_fst, has_at hr] at h
  refine Eq.trans ?_ h
  split
  · rw [List.map_append, List.map_take, List.map_drop, keyed_snd]
  · rw [keyed_snd]
theorem sess_Set (l : List Ses) (s : Ses) (most : Int) (hr : Up l) (hlen : l.length ≤ 900000) :
    PCall P 95 [.sl 4 (avs l), s.av, i64 most] (fun x => x = .tup [.sl 4 (avs (setF l s most).1), i64 (setF l s most).2]) := by
  refine q0d tyOk Tryz.func95 rfl rfl ?_
  intro K hK
  simp only [Tryz.ntmps95, List.length_cons, List.length_nil, Nat.reduceAdd, Nat.reduceSub, List.replicate, List.cons_append, List.nil_append]
  try simp only [seval, go_sem, Ses.av]
  refine callG_new rfl (by first | exact Nat.zero_le _ | decide | simp) (ACallR.new (clone_ses _ (by rw [q0p]; omega)) rfl (by first | decide | simp)) ?_
  try simp only [seval, go_sem, q0p, Ses.av]
  refine q33 ?_
  try simp only [seval, go_sem]
  refine callG_lend (find_ses l hr s.id (by omega)) ?_ rfl ?_
  · simp only [q00]
    rw [truncV_own (xs := avs l) rfl (q0p l)]
    rfl
  rw [has_at hr]
  try simp only [seval, go_sem]
  (first | refine q05 ?_ ?_ | refine q08 ?_ ?_ | refine q09 ?_ ?_ | refine q07 ?_ ?_ | refine q06 ?_ ?_) <;> intro h
  · have hlt := at_lt hr h
    have eg := avs_get hlt
    have c1 : (0 : Int) ≤ ((lb ltI (ids l) s.id : Nat) : Int) ∧ Int.toNat ((lb ltI (ids l) s.id : Nat) : Int) < l.length := by omega
    rw [set_has hr most h] at hK
    try simp only [seval, go_sem, eg, c1, q0p, Ses.av]
    apply hK
    simp only [Tryz.results95, retK, ares, Bool.and_true, Bool.true_and, AV.ofResults, St.trunc, q00, q01, List.getD_cons_zero, List.getD_cons_succ, List.take_zero, List.drop_zero, List.map_nil, List.getElem?_cons_zero, List.getElem?_cons_succ, Nat.reduceLeDiff, true_and, and_true, ↓reduceIte, List.cons.injEq, exists_eq_left']
    have e1 := avs_set l (lb ltI (ids l) s.id) s
    simp only [Ses.av] at e1
    rw [Int.toNat_natCast, e1, q20 (by rw [q0p, List.length_set])]
  · have h : has l s.id = false := h
    try simp only [seval, go_sem, q0p]
    (first | refine q05 ?_ ?_ | refine q08 ?_ ?_ | refine q09 ?_ ?_ | refine q07 ?_ ?_ | refine q06 ?_ ?_) <;> intro h2
    · rw [set_full h h2] at hK
      try simp only [seval, go_sem]
      apply hK
      simp only [Tryz.results95, retK, ares, Bool.and_true, Bool.true_and, AV.ofResults, St.trunc, q00, q01, List.getD_cons_zero, List.getD_cons_succ, List.take_zero, List.drop_zero, List.map_nil, List.getElem?_cons_zero, List.getElem?_cons_succ, Nat.reduceLeDiff, true_and, and_true, ↓reduceIte, List.cons.injEq, exists_eq_left']
      rw [q20 (q0p l)]
    · have h2 : decide (most ≤ l.length) = false := h2
      rw [set_new hr h h2] at hK
      have hins := insert_ses (avs l) s.av (lb ltI (ids l) s.id) (by rw [q0p]; have := lb_le (lt := ltI) (ids l) s.id; rwa [ids_len] at this) (by rw [q0p]; omega)
      rw [q0p] at hins
      have hle : lb ltI (ids l) s.id ≤ l.length := by have := lb_le (lt := ltI) (ids l) s.id; rwa [ids_len] at this
      try simp only [seval, go_sem]
      refine callO_some [2] rfl ?_
      try simp only [seval, go_sem]
      refine callG_R (b := 1) (by decide) (q0j.toR hins rfl rfl rfl rfl rfl) ?_
      try simp only [seval, go_sem]
      apply hK
      simp only [Tryz.results95, retK, ares, Bool.and_true, Bool.true_and, AV.ofResults, St.trunc, q00, q01, List.getD_cons_zero, List.getD_cons_succ, List.take_zero, List.drop_zero, List.map_nil, List.getElem?_cons_zero, List.getElem?_cons_succ, Nat.reduceLeDiff, true_and, and_true, ↓reduceIte, List.cons.injEq, exists_eq_left']
      rw [q20 (by simp [q0p]; omega)]
      simp only [avs, List.map_append, List.map_take, List.map_drop, List.map_cons, List.map_nil]
theorem sess_Clear (l : List Ses) (id : Int) (hr : Up l) (hlen : l.length ≤ 900000) :
    PCall P 97 [.sl 4 (avs l), i64 id] (fun x => x = .tup [.sl 4 (avs (clear l id)), i64 (if has l id = true then 0 else 3)]) := by
  refine q0d tyOk Tryz.func97 rfl rfl ?_
  intro K hK
  simp only [Tryz.ntmps97, List.length_cons, List.length_nil, Nat.reduceAdd, Nat.reduceSub, List.replicate, List.cons_append, List.nil_append]
  try simp only [seval, go_sem]
  refine callG_new rfl (by first | exact Nat.zero_le _ | decide | simp) (ACallR.new (clone_ses _ (by rw [q0p]; omega)) rfl (by first | decide | simp)) ?_
  try simp only [seval, go_sem, q0p]
  refine q33 ?_
  try simp only [seval, go_sem]
  refine callG_lend (find_ses l hr id (by omega)) ?_ rfl ?_
  · simp only [q00]
    rw [truncV_own (xs := avs l) rfl (q0p l)]
    rfl
  rw [has_at hr]
  have hc := clear_at hr id
  try simp only [seval, go_sem]
  cases h : has l id
  · rw [h, if_neg (by decide)] at hc
    rw [h, ← hc] at hK
    try simp only [seval, go_sem]
    apply hK
    simp only [Tryz.results97, retK, ares, Bool.and_true, Bool.true_and, AV.ofResults, St.trunc, q00, q01, List.getD_cons_zero, List.getD_cons_succ, List.take_zero, List.drop_zero, List.map_nil, List.getElem?_cons_zero, Nat.le_refl, true_and, and_true, ↓reduceIte, Bool.false_eq_true, List.cons.injEq, exists_eq_left']
    rw [q20 (q0p l)]
  · have hlt := at_lt hr h
    have ew : IntKind.i64.wrap (((lb ltI (ids l) id : Nat) : Int) + 1) = ((lb ltI (ids l) id + 1 : Nat) : Int) := by rw [wrap_i64 (by omega) (by omega)]; rfl
    rw [h, if_pos (by rfl)] at hc
    rw [h, ← hc] at hK
    try simp only [seval, go_sem, ew]
    refine q33 ?_
    try simp only [seval, go_sem]
    have hdel := delete_ses (avs l) (lb ltI (ids l) id) (by rw [q0p]; exact hlt) (by rw [q0p]; omega)
    rw [q0p] at hdel
    (refine q52 hdel [0] (by decide) rfl rfl rfl rfl ?_; rintro _ _ ⟨rfl, rfl⟩; refine ⟨rfl, ?_⟩)
    try simp only [seval, go_sem]
    apply hK
    simp only [Tryz.results97, retK, ares, Bool.and_true, Bool.true_and, AV.ofResults, St.trunc, q00, q01, List.getD_cons_zero, List.getD_cons_succ, List.take_zero, List.drop_zero, List.map_nil, List.getElem?_cons_zero, Nat.le_refl, true_and, and_true, ↓reduceIte, List.cons.injEq, exists_eq_left']
    have e := cut_last (sz := 4) (f := zses) (xs := avs l) (i := lb ltI (ids l) id) (by rw [q0p]; exact hlt)
    rw [q0p] at e
    rw [e]
    simp only [avs, List.map_append, List.map_take, List.map_drop]
def bmpS (id until_ : Int) (s : Ses) : Ses := if (s.id == id && decide (s.un < until_)) = true then { s with un := until_ } else s
def beatF (l : List Ses) (id until_ : Int) : List Ses × Int := if has l id = true then (l.map (bmpS id until_), 0) else (l, 3)
theorem bmpS_ne {s : Ses} {id u : Int} (h : s.id ≠ id) : bmpS id u s = s := by
  unfold bmpS; rw [if_neg (by simp [h])]
theorem bmpS_at2 {l : List Ses} (hr : Up l) {id : Int} (u : Int) {i : Nat} (hlt : i < l.length) (hid : l[i].id = id) : l.set i (bmpS id u l[i]) = l.map (bmpS id u) := by
  apply List.ext_getElem (by simp)
  intro j h1 h2
  rw [List.getElem_map, List.getElem_set]
  split
  · rename_i e; subst e; rfl
  · rename_i hne
    have hj : j < l.length := by simpa using h2
    have hne2 : l[j].id ≠ id := by
      have hp := List.pairwise_iff_getElem.1 (up_iff.1 hr)
      rcases Nat.lt_or_gt_of_ne hne with h3 | h3
      · have := hp i j hlt hj h3; omega
      · have := hp j i hj hlt h3; omega
    exact (bmpS_ne hne2).symm
theorem bmpS_at {l : List Ses} (hr : Up l) {id : Int} (u : Int) (h : has l id = true) : l.set (lb ltI (ids l) id) (bmpS id u (l[lb ltI (ids l) id]'(at_lt hr h))) = l.map (bmpS id u) :=
  bmpS_at2 hr u (at_lt hr h) (at_id hr h)
theorem bmpS_av {s : Ses} {id u : Int} (h : s.id = id) : AV.agg [i64 s.id, i64 s.st, i64 s.pr, .v (.int .u64 (if u > s.un then u else s.un))] = (bmpS id u s).av := by
  by_cases hc : u > s.un
  · have : bmpS id u s = { s with un := u } := by unfold bmpS; rw [if_pos (by simp [h]; exact hc)]
    rw [this, if_pos hc]; rfl
  · have : bmpS id u s = s := by unfold bmpS; rw [if_neg (by simp [h]; omega)]
    rw [this, if_neg hc]; rfl
theorem sess_Beat (l : List Ses) (id u : Int) (hr : Up l) (hlen : l.length ≤ 900000) :
    PCall P 96 [.sl 4 (avs l), i64 id, u64 u] (fun x => x = .tup [.sl 4 (avs (beatF l id u).1), i64 (beatF l id u).2]) := by
  refine q0d tyOk Tryz.func96 rfl rfl ?_
  intro K hK
  simp only [Tryz.ntmps96, List.length_cons, List.length_nil, Nat.reduceAdd, Nat.reduceSub, List.replicate, List.cons_append, List.nil_append]
  try simp only [seval, go_sem]
  refine callG_new rfl (by first | exact Nat.zero_le _ | decide | simp) (ACallR.new (clone_ses _ (by rw [q0p]; omega)) rfl (by first | decide | simp)) ?_
  try simp only [seval, go_sem, q0p]
  refine q33 ?_
  try simp only [seval, go_sem]
  refine callG_lend (find_ses l hr id (by omega)) ?_ rfl ?_
  · simp only [q00]
    rw [truncV_own (xs := avs l) rfl (q0p l)]
    rfl
  rw [has_at hr]
  unfold beatF at hK
  try simp only [seval, go_sem]
  cases h : has l id
  · rw [h, if_neg (by decide)] at hK
    try simp only [seval, go_sem]
    apply hK
    simp only [Tryz.results96, retK, ares, Bool.and_true, Bool.true_and, AV.ofResults, St.trunc, q00, q01, List.getD_cons_zero, List.getD_cons_succ, List.take_zero, List.drop_zero, List.map_nil, List.getElem?_cons_zero, Nat.le_refl, true_and, and_true, ↓reduceIte, List.cons.injEq, exists_eq_left']
    rw [q20 (q0p l)]
  · have hlt := at_lt hr h
    have hid := at_id hr h
    have hb := bmpS_at hr u h
    have eg := avs_get hlt
    have c1 : (0 : Int) ≤ ((lb ltI (ids l) id : Nat) : Int) ∧ Int.toNat ((lb ltI (ids l) id : Nat) : Int) < l.length := by omega
    rw [h, if_pos rfl] at hK
    generalize l[lb ltI (ids l) id] = s at hid hb eg
    try simp only [seval, go_sem, eg, c1, q0p, Ses.av]
    apply hK
    simp only [Tryz.results96, retK, ares, Bool.and_true, Bool.true_and, AV.ofResults, St.trunc, q00, q01, List.getD_cons_zero, List.getD_cons_succ, List.take_zero, List.drop_zero, List.map_nil, List.getElem?_cons_zero, Nat.le_refl, true_and, and_true, ↓reduceIte, List.cons.injEq, exists_eq_left']
    rw [bmpS_av hid, Int.toNat_natCast, avs_set, hb, q20 (by rw [q0p, List.length_map])]
end Go.Proofs.YtdkcpcflfnakdaaGreat
namespace Go.Proofs.YtdkcpcflfnakdaaGreat
open Go Go.Proofs.YtdkcpcflfnakdaaGreat.Sym
set_option maxRecDepth 100000
set_option maxHeartbeats 1000000
def yields (l : List Ses) : List (List AV) := l.map fun s => [s.av]
theorem aggr_Live (xs : List AV) (now : Int) : PCall P 109 [.sl 4 xs, u64 now] (fun x => x = .fn 128 [.rp [.sl 4 xs], .rp [u64 now]]) := by
  refine q0d tyOk Tryz.func109 rfl rfl ?_
  intro K hK
  simp only [Tryz.ntmps109, List.length_cons, List.length_nil, Nat.reduceAdd, Nat.reduceSub, List.replicate, List.cons_append, List.nil_append]
  try simp only [seval, go_sem]
  apply hK
  simp only [Tryz.results109, retK, ares, q0r, AV.pure, Bool.and_self, Bool.and_true, Bool.true_and, AV.ofResults, St.trunc, q00, q01, List.getD_cons_zero, List.getD_cons_succ, List.take_zero, List.drop_zero, List.map_nil, List.getElem?_cons_zero, List.getElem?_cons_succ, Nat.reduceLeDiff, Nat.le_refl, true_and, and_true, ↓reduceIte, List.cons.injEq, exists_eq_left']
theorem q57 {now : Int} {l : List Ses} (i : Nat) : yields (lives now (l.take i)) <+: yields (lives now l) :=
  ((List.take_prefix i l).filter _).map _
theorem aggr_Live_seq (l : List Ses) (now : Int) (hlen : l.length < 9223372036854775807) : ICall P 128 [.rp [.sl 4 (avs l)], .rp [u64 now]] (yields (lives now l)) := by
  refine icall_goY tyOk Tryz.func128 rfl rfl rfl ?_
  intro y K hK
  simp only [Tryz.ntmps128, List.length_cons, List.length_nil, Nat.reduceAdd, Nat.reduceSub, List.replicate, List.cons_append, List.nil_append]
  try simp only [seval, go_sem]
  refine loopY_rule tyOk (α := Nat) 0 [0, 1, 2, 6, 7, 8] (fun i => i ≤ l.length)
    (fun i => ⟨[.v y, .rp [.sl 4 (avs l)], .rp [u64 now], .any, .any, .any, .sl 4 (avs l), i64 l.length, i64 i] ++ List.replicate 15 .any, []⟩)
    (fun i => (yields (lives now (l.take i)), false)) (fun i => l.length - i) 0 (Nat.le_refl _) (Nat.zero_le _) (by rw [q0p]; rfl) rfl ?_
  intro i hi
  try simp only [seval, go_sem]
  (first | refine q05 ?_ ?_ | refine q08 ?_ ?_ | refine q09 ?_ ?_ | refine q07 ?_ ?_ | refine q06 ?_ ?_) <;> intro h <;> try simp only [seval, go_sem]
  · have hlt : i < l.length := by simpa using h
    have eg := avs_get hlt
    have ew : IntKind.i64.wrap ((i : Int) + 1) = ((i + 1 : Nat) : Int) := by rw [wrap_i64 (by omega) (by omega)]; rfl
    have c1 : (0 : Int) ≤ (i : Int) ∧ Int.toNat (i : Int) < (avs l).length := by rw [q0p]; omega
    try simp only [seval, go_sem, eg, c1, Ses.av]
    (refine callY_use (tick_Late _ _) rfl rfl rfl rfl ?_; rintro _ rfl)
    try simp only [seval, go_sem]
    cases hl : (l[i]).lives now with
    | false =>
      have e1 : (!decide ((l[i]).un ≤ now)) = false := hl
      try simp only [seval, go_sem, e1, ew]
      simp only [q43, St.trunc, St.keep, q00, q01, keepV, q0r, AV.pure, Bool.and_self, List.drop_zero, List.drop_succ_cons, List.elem_cons, List.elem_nil, List.take_zero, List.map_nil, List.getElem?_cons_zero, Nat.reduceAdd, Nat.reduceBEq, Nat.le_refl, Nat.zero_add, Bool.false_eq_true, ↓reduceIte]
      exact ⟨i + 1, hlt, by omega, rfl, by rw [q56 hlt hl]⟩
    | true =>
      have e1 : (!decide ((l[i]).un ≤ now)) = true := hl
      try simp only [seval, go_sem, e1]
      have e2 : yields (lives now (l.take i)) ++ [[sess (l[i]).id (l[i]).st (l[i]).pr (l[i]).un]] = yields (lives now (l.take (i + 1))) := by
        rw [lives_take_in hlt hl]; simp [yields]; rfl
      refine ⟨⟨by rw [e2]; exact q57 _, rfl⟩, ?_⟩
      intro b
      cases b with
      | true =>
        try simp only [seval, go_sem, ew]
        simp only [q43, St.trunc, St.keep, q00, q01, keepV, q0r, AV.pure, Bool.and_self, List.drop_zero, List.drop_succ_cons, List.elem_cons, List.elem_nil, List.take_zero, List.map_nil, List.getElem?_cons_zero, Nat.reduceAdd, Nat.reduceBEq, Nat.le_refl, Nat.zero_add, Bool.false_eq_true, ↓reduceIte]
        exact ⟨i + 1, hlt, by omega, rfl, by rw [e2]⟩
      | false =>
        try simp only [seval, go_sem]
        exact hK _ _ _ (itK_ret ⟨by rw [e2]; exact q57 _, fun h => by cases h⟩)
  · have hge : i = l.length := by have : ¬ ((i : Int) < (l.length : Int)) := by simpa using h
                                  omega
    subst hge
    refine hK _ _ _ (itK_normal ⟨q57 _, fun _ => by rw [List.take_length]⟩)
def better (p1 i1 p2 i2 : Int) : Bool := decide (p2 < p1) || (p1 == p2 && decide (i1 < i2))
theorem aggr_Better (i1 s1 p1 u1 i2 s2 p2 u2 : Int) : PCall P 110 [sess i1 s1 p1 u1, sess i2 s2 p2 u2] (fun x => x = bool (better p1 i1 p2 i2)) := by
  refine q0d tyOk Tryz.func110 rfl rfl ?_
  intro K hK
  simp only [Tryz.ntmps110, List.length_cons, List.length_nil, Nat.reduceAdd, Nat.reduceSub, List.replicate, List.cons_append, List.nil_append]
  try simp only [seval, go_sem]
  (first | refine q05 ?_ ?_ | refine q08 ?_ ?_ | refine q09 ?_ ?_ | refine q07 ?_ ?_ | refine q06 ?_ ?_) <;> intro h <;> try simp only [seval, go_sem]
  · apply hK
    simp only [Tryz.results110, retK, ares, Bool.and_true, Bool.true_and, AV.ofResults, St.trunc, q00, q01, List.getD_cons_zero, List.getD_cons_succ, List.take_zero, List.map_nil, true_and, and_true, List.cons.injEq, exists_eq_left']
    rw [better, h]
    rfl
  · (first | refine q05 ?_ ?_ | refine q08 ?_ ?_ | refine q09 ?_ ?_ | refine q07 ?_ ?_ | refine q06 ?_ ?_) <;> intro h2 <;> try simp only [seval, go_sem]
    · apply hK
      simp only [Tryz.results110, retK, ares, Bool.and_true, Bool.true_and, AV.ofResults, St.trunc, q00, q01, List.getD_cons_zero, List.getD_cons_succ, List.take_zero, List.map_nil, true_and, and_true, List.cons.injEq, exists_eq_left']
      rw [better, h, h2]
      rfl
    · apply hK
      simp only [Tryz.results110, retK, ares, Bool.and_true, Bool.true_and, AV.ofResults, St.trunc, q00, q01, List.getD_cons_zero, List.getD_cons_succ, List.take_zero, List.map_nil, true_and, and_true, List.cons.injEq, exists_eq_left']
      rw [better, h, h2]
      rfl
def bestStep (b : Ses × Int) (s : Ses) : Ses × Int := (if b.2 == 0 || better s.pr s.id b.1.pr b.1.id then s else b.1, b.2 + 1)
def bestF (l : List Ses) : Ses × Int := l.foldl bestStep (⟨0, 0, 0, 0⟩, 0)
theorem bestF_next {l : List Ses} {i : Nat} (h : i < l.length) : bestF (l.take (i + 1)) = bestStep (bestF (l.take i)) l[i] := by
  rw [q1f h, bestF, List.foldl_append]; rfl
theorem bestF_count (l : List Ses) : (bestF l).2 = l.length := by
  have : ∀ (l : List Ses) (b : Ses × Int), (l.foldl bestStep b).2 = b.2 + l.length := by
    intro l
    induction l with
    | nil => simp
    | cons s l ih => intro b; simp only [List.foldl_cons, ih, bestStep, List.length_cons]; omega
  rw [bestF, this]; simp
abbrev pres (st pr n : Int) : AV := .agg [i64 st, i64 pr, i64 n]
def ofMem (b : Ses × Int) : List AB := [.box [i64 0, i64 0, i64 0], .box [i64 b.1.id, i64 b.1.st, i64 b.1.pr, u64 b.1.un], .box [i64 b.2]]
theorem aggr_Of (l : List Ses) (now : Int) (hlen : l.length < 9223372036854775807) :
    PCall P 79 [.sl 4 (avs l), u64 now] (fun x => x = pres (bestF (lives now l)).1.st (bestF (lives now l)).1.pr (bestF (lives now l)).2) := by
  refine pcall_goY tyOk Tryz.func79 rfl rfl ?_
  intro K hK
  simp only [Tryz.ntmps79, List.length_cons, List.length_nil, Nat.reduceAdd, Nat.reduceSub, List.replicate, List.cons_append, List.nil_append]
  try simp only [seval, go_sem]
  (refine q02 (aggr_Live _ _) rfl ?_; rintro _ rfl)
  try simp only [seval, go_sem]
  have hll : (lives now l).length ≤ l.length := List.length_filter_le _ _
  refine range_rule tyOk (aggr_Live_seq l now hlen) (α := Nat) 3 3 [4, 5, 6] ([.any, .any, .any, .any, .ptr 0 0, .ptr 1 0, .ptr 2 0] ++ List.replicate 21 .any) (fun xs i => i = xs.length) (fun i => ofMem (bestF ((lives now l).take i))) 0 rfl rfl
    (fun x hx => by simp only [yields, List.mem_map] at hx; obtain ⟨s, _, rfl⟩ := hx; rfl) (Nat.zero_le _) (Nat.le_refl _) (by rfl) rfl rfl ?_ ?_
  · rintro xs x _ hpre rfl
    obtain ⟨hi, _, rfl⟩ := q4v hpre
    have hb := bestF_next hi
    have hc := bestF_count ((lives now l).take xs.length)
    generalize (lives now l)[xs.length] = s at hb
    generalize bestF ((lives now l).take xs.length) = b at hb hc
    try simp only [seval, go_sem, ofMem, Ses.av]
    have hw : IntKind.i64.wrap (b.2 + 1) = b.2 + 1 := by
      rw [wrap_i64 (by omega) (by rw [hc, List.length_take]; omega)]
    (first | refine q05 ?_ ?_ | refine q08 ?_ ?_ | refine q09 ?_ ?_ | refine q07 ?_ ?_ | refine q06 ?_ ?_) <;> intro h
    · try simp only [seval, go_sem, hw]
      simp only [q2o, St.trunc, q00, q01, AB.trunc, q0r, AV.pure, Bool.and_self, List.drop_zero, List.take_succ_cons, List.take_zero, List.map_cons, List.map_nil, List.getElem?_cons_zero, List.getElem?_cons_succ, Nat.reduceLeDiff, Nat.le_refl, ↓reduceIte]
      exact ⟨_, rfl, by rw [hb]; simp only [bestStep, h, Bool.true_or, if_true]⟩
    · try simp only [seval, go_sem]
      (refine q02 (aggr_Better _ _ _ _ _ _ _ _) rfl ?_; rintro _ rfl)
      try simp only [seval, go_sem]
      (first | refine q05 ?_ ?_ | refine q08 ?_ ?_ | refine q09 ?_ ?_ | refine q07 ?_ ?_ | refine q06 ?_ ?_) <;> intro h2 <;> try simp only [seval, go_sem, hw] <;> simp only [q2o, St.trunc, q00, q01, AB.trunc, q0r, AV.pure, Bool.and_self, List.drop_zero, List.take_succ_cons, List.take_zero, List.map_cons, List.map_nil, List.getElem?_cons_zero, List.getElem?_cons_succ, Nat.reduceLeDiff, Nat.le_refl, ↓reduceIte]
      · exact ⟨_, rfl, by rw [hb]; simp only [bestStep, h, h2, Bool.false_or, if_true]⟩
      · exact ⟨_, rfl, by rw [hb]; simp only [bestStep, h, h2, Bool.false_or, Bool.false_eq_true, if_false]⟩
  · rintro _ rfl
    have e1 : (lives now l).take (yields (lives now l)).length = lives now l := by rw [yields, List.length_map, List.take_length]
    try simp only [seval, go_sem, ofMem, e1]
    apply hK
    simp only [Tryz.results79, retK, ares, List.take_nil, Bool.and_true, Bool.true_and, AV.ofResults, St.trunc, q00, q01, aload, acell, T, TI.isAgg, List.getD_cons_zero, List.getD_cons_succ, List.take_zero, List.take_succ_cons, List.drop_zero, List.map_nil, List.getElem?_cons_zero, List.length_cons, List.length_nil, Nat.reduceAdd, Nat.le_refl, true_and, and_true, ↓reduceIte, List.cons.injEq, exists_eq_left']
end Go.Proofs.YtdkcpcflfnakdaaGreat
namespace Go.Proofs.YtdkcpcflfnakdaaGreat
open Go Go.Proofs.YtdkcpcflfnakdaaGreat.Sym
set_option maxRecDepth 100000
set_option maxHeartbeats 1000000
structure En where
  l : List Ses
  t : Pr
  deriving DecidableEq
def En.av (e : En) : AV := .agg [.sl 4 (avs e.l), i64 e.t.st, i64 e.t.pr, i64 e.t.n]
def nilEn : En := ⟨[], ⟨0, 0, 0⟩⟩
abbrev rawNil : AV := .agg [.v (.slice none 0 0), i64 0, i64 0, i64 0]
theorem weak_en : weak rawNil (En.av nilEn) := .inr ⟨_, rfl, _, _, rfl, q3y 4, _, _, rfl, q0s _, _, _, rfl, q0s _, _, _, rfl, q0s _, rfl⟩
theorem clone_ent (xs : List AV) (hlen : xs.length ≤ 1000000) :
    ACall P 130 [] [.sl 4 xs] (fun x m' => x = .own 0 4 0 xs.length ∧ m' = [.row 138 4 xs]) := by
  have hm : xs.length ≤ maxLen := by simp only [maxLen]; omega
  have hby : xs.length * 48 ≤ 140737488355328 := by omega
  by_cases h0 : xs = []
  · subst h0
    refine ACall.empty fun a cap => ?_
    cases a with
    | none =>
      refine ACall.weaken (K := fun x m' => x = .v (.slice none 0 0) ∧ m' = []) (q0h.toA (q1d tyOk Tryz.func130 rfl rfl (N := 0) (M := 1) (Nat.zero_le _) (by simp) ?_)) ?_
      · intro K hK
        simp only [Tryz.ntmps130, List.length_cons, List.length_nil, Nat.reduceAdd, Nat.reduceSub, List.replicate, List.cons_append, List.nil_append]
        try simp only [seval, go_sem]
        apply hK
        simp only [Tryz.results130, retK, ares, List.take_nil, Bool.and_true, AV.ofResults, St.trunc, q00, q01, List.getD_cons_zero, List.getD_cons_succ, List.map_nil, and_true, List.cons.injEq, exists_eq_left']
      · rintro x m' ⟨rfl, rfl⟩
        exact ⟨_, _, Turns.adopt (i := 0) 138 4 rfl, rfl, rfl⟩
    | some a =>
      refine q0h.toA (q1d tyOk Tryz.func130 rfl rfl (N := 0) (M := 1) (Nat.zero_le _) (by simp) ?_)
      intro K hK
      simp only [Tryz.ntmps130, List.length_cons, List.length_nil, Nat.reduceAdd, Nat.reduceSub, List.replicate, List.cons_append, List.nil_append]
      try simp only [seval, go_sem]
      apply hK
      simp only [Tryz.results130, retK, ares, List.take_nil, Bool.and_true, AV.ofResults, St.trunc, q00, q01, AB.trunc, List.getD_cons_zero, List.getD_cons_succ, List.take_succ_cons, List.map_nil, List.map_cons, List.length_nil, Nat.reduceLeDiff, and_true, ↓reduceIte, List.cons.injEq, exists_eq_left']
  · have hpos : 0 < xs.length := List.length_pos_iff.2 h0
    refine q0h.toA (q1d tyOk Tryz.func130 rfl rfl (N := 0) (M := 1) (Nat.zero_le _) (by simp) ?_)
    intro K hK
    simp only [Tryz.ntmps130, List.length_cons, List.length_nil, Nat.reduceAdd, Nat.reduceSub, List.replicate, List.cons_append, List.nil_append]
    try simp only [seval, go_sem, hpos]
    refine ⟨⟨hm, hby⟩, ?_⟩
    try simp only [seval, go_sem]
    apply hK
    simp only [Tryz.results130, retK, ares, List.take_nil, Bool.and_true, AV.ofResults, St.trunc, q00, q01, AB.trunc, List.getD_cons_zero, List.getD_cons_succ, List.take_succ_cons, List.map_nil, List.map_cons, Nat.reduceLeDiff, and_true, ↓reduceIte, List.cons.injEq, exists_eq_left']
theorem delete_ent (xs : List AV) (i : Nat) (hi : i < xs.length) (hlen : xs.length ≤ 1000000) :
    ACall P 129 [.row 138 4 xs] [.own 0 4 0 xs.length, i64 (i : Int), i64 ((i + 1 : Nat) : Int)] (fun x m' => x = .own 0 4 0 (xs.length - 1) ∧ m' = [.row 138 4 (xs.take i ++ xs.drop (i + 1) ++ [rawNil])]) := by
  refine ACall.weaken (K := fun x m' => x = .own 0 4 0 (xs.length - 1) ∧ ∃ N, m' = [.rowc 138 4 (xs.take i ++ xs.drop (i + 1) ++ [rawNil]) N]) (q0h.toA (m := [_]) (q0h.room (by decide) fun N hN _ => ?_)) ?_
  · refine q2p tyOk Tryz.func129 rfl rfl (by simp) ?_
    intro K hK
    simp only [Tryz.ntmps129, List.length_cons, List.length_nil, Nat.reduceAdd, Nat.reduceSub, List.replicate, List.cons_append, List.nil_append]
    have f1 : ((i : Int) == ((i + 1 : Nat) : Int)) = false := by simp; omega
    try simp only [seval, go_sem, Int.toNat_natCast, f1]
    refine ⟨by omega, ?_⟩
    by_cases he : i + 1 = xs.length
    · have e1 : (xs.take i ++ xs.drop i).length = xs.length := by rw [List.take_append_drop]
      have e2 : ((xs.take i ++ xs.drop i).take i ++ List.replicate (xs.length - i) (rawNil)) ++ (xs.take i ++ xs.drop i).drop (i + (xs.length - i)) = xs.take i ++ xs.drop (i + 1) ++ [rawNil] := by
        rw [List.take_append_drop, List.drop_of_length_le (by omega), List.drop_of_length_le (by omega), show xs.length - i = 1 by omega, List.append_nil, List.append_nil]
        rfl
      have hni : ¬ i = xs.length := by omega
      refine q0k tyOk (by rfl) (by simp only [List.length_cons, List.length_nil, Nat.reduceAdd, Nat.le_refl]) (by kernel_rfl) rfl ?_
      try simp only [seval, go_sem, Int.toNat_natCast, he]
      refine ⟨by omega, by omega, by omega, ?_⟩
      refine ⟨by kernel_rfl, ?_⟩
      try simp only [seval, go_sem, Int.toNat_natCast, hni, e1]
      refine ⟨by omega, by omega, ?_⟩
      apply hK
      simp only [Tryz.results129, retK, ares, List.take_nil, Bool.and_true, AV.ofResults, St.trunc, q00, q01, AB.trunc, List.getD_cons_zero, List.getD_cons_succ, List.take_succ_cons, List.map_nil, List.map_cons, List.length_cons, List.length_nil, Nat.reduceAdd, Nat.reduceLeDiff, and_true, ↓reduceIte, List.cons.injEq, exists_eq_left']
      simp only [e2]
      exact ⟨by congr 1; omega, N, rfl⟩
    · have hd : (xs.drop (i + 1)).length = xs.length - (i + 1) := by simp
      have ht : (xs.drop (i + 1)).take (xs.length - (i + 1)) = xs.drop (i + 1) := List.take_of_length_le (by simp)
      have hni : ¬ i + (xs.length - (i + 1)) = xs.length := by omega
      have e1 : (xs.take i ++ xs.drop (i + 1) ++ xs.drop (i + (xs.length - (i + 1)))).length = xs.length := by simp; omega
      have e2 : (xs.take i ++ xs.drop (i + 1) ++ xs.drop (i + (xs.length - (i + 1)))).take (i + (xs.length - (i + 1))) ++ List.replicate (xs.length - (i + (xs.length - (i + 1)))) (rawNil) ++
          (xs.take i ++ xs.drop (i + 1) ++ xs.drop (i + (xs.length - (i + 1)))).drop (i + (xs.length - (i + 1)) + (xs.length - (i + (xs.length - (i + 1))))) = xs.take i ++ xs.drop (i + 1) ++ [rawNil] := by
        rw [show xs.length - (i + (xs.length - (i + 1))) = 1 by omega, List.drop_of_length_le (l := xs.take i ++ xs.drop (i + 1) ++ xs.drop (i + (xs.length - (i + 1)))) (by rw [e1]; omega), List.append_nil,
          List.take_append_of_le_length (by simp; omega), List.take_of_length_le (by simp; omega)]
        rfl
      refine q0k tyOk (by rfl) (by simp only [List.length_cons, List.length_nil, Nat.reduceAdd, Nat.le_refl]) (by kernel_rfl) rfl ?_
      try simp only [seval, go_sem, Int.toNat_natCast, he, ht, hd]
      refine ⟨by omega, by omega, by omega, ?_⟩
      refine ⟨by kernel_rfl, ?_⟩
      try simp only [seval, go_sem, Int.toNat_natCast, hni, e1]
      refine ⟨by omega, by omega, ?_⟩
      apply hK
      simp only [Tryz.results129, retK, ares, List.take_nil, Bool.and_true, AV.ofResults, St.trunc, q00, q01, AB.trunc, List.getD_cons_zero, List.getD_cons_succ, List.take_succ_cons, List.map_nil, List.map_cons, List.length_cons, List.length_nil, Nat.reduceAdd, Nat.reduceLeDiff, and_true, ↓reduceIte, List.cons.injEq, exists_eq_left']
      simp only [e2]
      exact ⟨by congr 1; omega, N, rfl⟩
  · rintro x m' ⟨rfl, N, rfl⟩
    exact ⟨_, _, Turns.unroom, rfl, rfl⟩
theorem insert_ent (xs : List AV) (v : AV) (i : Nat) (hi : i ≤ xs.length) (hlen : xs.length ≤ 1000000) :
    q0j P (fun _ => false) 131 [.row 138 4 xs] [.own 0 4 0 xs.length, i64 (i : Int), .sl 4 [v]] (fun x m' => x = .own 0 4 0 (xs.length + 1) ∧ m' = [.row 138 4 (xs.take i ++ [v] ++ xs.drop i)]) := by
  refine q0h.relocate (q0h.room (by decide) fun N hN _ => q1d tyOk Tryz.func131 rfl rfl (N := 0) (M := 2) (Nat.zero_le _) (by simp) ?_)
  intro K hK
  simp only [Tryz.ntmps131, List.length_cons, List.length_nil, Nat.reduceAdd, Nat.reduceSub, List.replicate, List.cons_append, List.nil_append]
  have w1 : IntKind.i64.wrap ((xs.length : Int) + ((1 : Nat) : Int)) = ((xs.length + 1 : Nat) : Int) := by rw [wrap_i64 (by omega) (by omega)]; rfl
  have w2 : IntKind.i64.wrap ((i : Int) + ((1 : Nat) : Int)) = ((i + 1 : Nat) : Int) := by rw [wrap_i64 (by omega) (by omega)]; rfl
  have w3 : IntKind.i64.wrap (((xs.length + 1 : Nat) : Int) - (i : Int)) = ((xs.length + 1 - i : Nat) : Int) := by rw [wrap_i64 (by omega) (by omega)]; omega
  have c1 : (((1 : Nat) : Int) == 0) = false := by decide
  by_cases hin : i = xs.length
  · subst hin
    try simp only [seval, go_sem, -Int.reduceNatCast, -Int.reduceNatCast', -Nat.reduceSubDiff, Int.toNat_natCast, c1]
    refine ⟨by omega, ?_⟩
    by_cases hr : xs.length + 1 ≤ N
    · try simp only [seval, go_sem, -Int.reduceNatCast, -Int.reduceNatCast', -Nat.reduceSubDiff, hr]
      apply hK
      simp only [Tryz.results131, retK, ares, List.take_nil, Bool.and_true, Bool.true_and, AV.ofResults, St.trunc, q00, q01, AB.trunc, List.getD_cons_zero, List.getD_cons_succ, List.take_succ_cons, List.map_nil, List.map_cons, Nat.reduceLeDiff, true_and, and_true, ↓reduceIte, List.cons.injEq, exists_eq_left']
      exact .inl ⟨N, [], by simp⟩
    · try simp only [seval, go_sem, -Int.reduceNatCast, -Int.reduceNatCast', -Nat.reduceSubDiff, hr]
      refine ⟨⟨by simp only [maxLen]; omega, by omega⟩, ?_⟩
      try simp only [seval, go_sem, -Int.reduceNatCast, -Int.reduceNatCast', -Nat.reduceSubDiff]
      apply hK
      simp only [Tryz.results131, retK, ares, List.take_nil, Bool.and_true, Bool.true_and, AV.ofResults, St.trunc, q00, q01, AB.trunc, List.getD_cons_zero, List.getD_cons_succ, List.take_succ_cons, List.map_nil, List.map_cons, Nat.reduceLeDiff, true_and, and_true, ↓reduceIte, List.cons.injEq, exists_eq_left']
      exact .inr (by simp)
  · have hlt : i < xs.length := by omega
    have c2 : ((i : Int) == (xs.length : Int)) = false := by simp; omega
    by_cases hr : xs.length + 1 ≤ N
    · have d1 : decide ((N : Int) < ((xs.length + 1 : Nat) : Int)) = false := decide_eq_false (by omega)
      have n1 : ¬ i + 1 = xs.length + 1 := by omega
      have n2 : ¬ i = xs.length + 1 := by omega
      try simp only [seval, go_sem, -Int.reduceNatCast, -Int.reduceNatCast', -Nat.reduceSubDiff, Int.toNat_natCast, c1, c2, w1, w2, Nat.sub_zero, d1, hin, n1, n2]
      refine ⟨by omega, by omega, by omega, ?_⟩
      refine q33 ?_
      try simp only [seval, go_sem, -Int.reduceNatCast, -Int.reduceNatCast', -Nat.reduceSubDiff]
      refine callG_ext (q4k (tS := 85) (tR := 4) (e := 138) tyOk Tryz.func143 rfl rfl (by kernel_rfl) (by kernel_rfl) rfl rfl rfl (by decide) rfl rfl) ?_
      try simp only [seval, go_sem, -Int.reduceNatCast, -Int.reduceNatCast', -Nat.reduceSubDiff]
      have ek : (xs.drop i).take (min (xs.length + 1 - (i + 1)) (xs.length + 1 - i)) = xs.drop i := List.take_of_length_le (by simp; omega)
      refine q0k tyOk (by rfl) (by simp only [List.length_cons, List.length_nil, Nat.reduceAdd, Nat.zero_le]) (by kernel_rfl) rfl ?_
      try simp only [seval, go_sem, -Int.reduceNatCast, -Int.reduceNatCast', -Nat.reduceSubDiff, Int.toNat_natCast, w2, n1, n2, ek]
      refine ⟨by omega, by omega, by omega, ?_⟩
      refine ⟨by kernel_rfl, ?_⟩
      have es : List.take (xs.length + 1 - i) [v] = [v] := List.take_of_length_le (by simp; omega)
      have e3 : (xs.take (i + 1) ++ xs.drop i ++ xs.drop (i + 1 + (xs.drop i).length)).take i ++ [v] ++ (xs.take (i + 1) ++ xs.drop i ++ xs.drop (i + 1 + (xs.drop i).length)).drop (i + 1) = xs.take i ++ [v] ++ xs.drop i := by
        have hl : (xs.take (i + 1)).length = i + 1 := by simp; omega
        have hd : xs.drop (i + 1 + (xs.drop i).length) = [] := List.drop_of_length_le (by simp; omega)
        rw [hd, List.append_nil, List.take_append_of_le_length (by omega), List.take_take, Nat.min_eq_left (by omega),
          List.drop_append_of_le_length (by omega), List.drop_of_length_le (by omega), List.nil_append]
      try simp only [seval, go_sem, -Int.reduceNatCast, -Int.reduceNatCast', -Nat.reduceSubDiff, Int.toNat_natCast, n2, es]
      refine ⟨by omega, ⟨by omega, by simp; omega⟩, ?_⟩
      apply hK
      simp only [Tryz.results131, retK, ares, List.take_nil, Bool.and_true, Bool.true_and, AV.ofResults, St.trunc, q00, q01, AB.trunc, List.getD_cons_zero, List.getD_cons_succ, List.take_succ_cons, List.map_nil, List.map_cons, Nat.reduceLeDiff, true_and, and_true, ↓reduceIte, List.cons.injEq, exists_eq_left']
      exact .inl ⟨N, [], by rw [e3, List.append_nil]⟩
    · have d1 : decide ((N : Int) < ((xs.length + 1 : Nat) : Int)) = true := decide_eq_true (by omega)
      have g1 : ¬ i + (xs.length + 1 - i) ≤ N := by omega
      have g2 : ¬ i = i + (xs.length + 1 - i) := by omega
      have g3 : ¬ i + 1 = i + (xs.length + 1 - i) := by omega
      have g4 : List.take (i + (xs.length + 1 - i) - i) [v] = [v] := List.take_of_length_le (by simp; omega)
      have g5 : (xs.drop i).take (min (i + (xs.length + 1 - i) - (i + 1)) (xs.length - i)) = xs.drop i := List.take_of_length_le (by simp; omega)
      try simp only [seval, go_sem, -Int.reduceNatCast, -Int.reduceNatCast', -Nat.reduceSubDiff, Int.toNat_natCast, c1, c2, w1, w2, w3, Nat.sub_zero, d1, hin, g1, g2, g4]
      refine ⟨by omega, by omega, ⟨by omega, by omega, by omega, by omega, by simp only [maxLen]; omega, by omega⟩, by omega, ⟨by omega, by simp; omega⟩, ?_⟩
      refine q0k tyOk (by rfl) (by simp only [List.length_cons, List.length_nil, Nat.reduceAdd, Nat.zero_le]) (by kernel_rfl) rfl ?_
      try simp only [seval, go_sem, -Int.reduceNatCast, -Int.reduceNatCast', -Nat.reduceSubDiff, Int.toNat_natCast, w2, g3, g5, hin]
      have hB : (xs.take i ++ List.replicate (xs.length + 1 - i) (rawNil)).take i = xs.take i := by
        rw [List.take_append_of_le_length (by simp; omega), List.take_take, Nat.min_self]
      have hli : (xs.take i).length = i := by simp; omega
      rw [hB]
      refine ⟨by omega, by omega, ⟨by omega, by omega, by simp; omega⟩, ?_⟩
      refine ⟨by kernel_rfl, ?_⟩
      try simp only [seval, go_sem, -Int.reduceNatCast, -Int.reduceNatCast', -Nat.reduceSubDiff, hB]
      apply hK
      simp only [Tryz.results131, retK, ares, List.take_nil, Bool.and_true, AV.ofResults, St.trunc, q00, q01, AB.trunc, List.getD_cons_zero, List.getD_cons_succ, List.take_succ_cons, List.map_nil, List.map_cons, Nat.reduceLeDiff, and_true, ↓reduceIte, List.cons.injEq, exists_eq_left']
      have e4 : ∀ D : List AV, (xs.take i ++ [v] ++ D).take (i + 1) = xs.take i ++ [v] := fun D => by
        rw [List.take_append_of_le_length (by simp; omega), List.take_of_length_le (by simp; omega)]
      have e5 : (xs.take i ++ [v] ++ (xs.take i ++ List.replicate (xs.length + 1 - i) (rawNil)).drop (i + 1)).drop (i + 1 + (xs.drop i).length) = [] := List.drop_of_length_le (by simp; omega)
      refine .inr ?_
      rw [e4, e5, List.append_nil]
      exact ⟨by congr 1; omega, rfl⟩
end Go.Proofs.YtdkcpcflfnakdaaGreat
namespace Go.Proofs.YtdkcpcflfnakdaaGreat
open Go Go.Proofs.YtdkcpcflfnakdaaGreat.Sym
set_option maxRecDepth 100000
set_option maxHeartbeats 1000000
theorem avs_refs (l : List Ses) : q04 (avs l) = [] := by
  induction l with
  | nil => rfl
  | cons s l ih => simp only [avs, List.map_cons, q04] at ih ⊢; rw [ih]; rfl
theorem en_refs (k : ByteArray) (e : En) : q04 [.v (.string k), .agg [.sl 4 (avs e.l), i64 e.t.st, i64 e.t.pr, i64 e.t.n]] = [] := by
  simp [q04, AV.refs, avs_refs]
def q0n (m : List (ByteArray × En)) : AV := .agg [.sl 1 (m.map fun p => str p.1), .sl 4 (m.map fun p => En.av p.2)]
abbrev q16 (m : List (ByteArray × En)) : Prop := q2f ltS m
theorem find_se (m : List (ByteArray × En)) (k : ByteArray) (hr : q16 m) (hlen : m.length ≤ 1000000) :
    PCall P 108 [q0n m, str k] (fun x => x = .tup [i64 ((lb ltS (m.map Prod.fst) k : Nat) : Int), bool (hasAt ltS eqS (m.map Prod.fst) k)]) := by
  refine q0d tyOk Tryz.func108 rfl rfl ?_
  intro K hK
  simp only [Tryz.ntmps108, List.length_cons, List.length_nil, Nat.reduceAdd, Nat.reduceSub, List.replicate, List.cons_append, List.nil_append]
  have em : (m.map fun p => str p.1) = (m.map Prod.fst).map fun x => str x := by rw [List.map_map]; rfl
  try simp only [seval, go_sem, q0n, em]
  (refine q02 (search_str (m.map Prod.fst) hr k (by rw [List.length_map]; exact hlen)) rfl ?_; rintro _ rfl)
  try simp only [seval, go_sem]
  apply hK
  simp only [Tryz.results108, retK, ares, Bool.and_true, Bool.true_and, AV.ofResults, St.trunc, q00, q01, List.getD_cons_zero, List.getD_cons_succ, List.take_zero, List.map_nil, true_and, and_true, List.cons.injEq, exists_eq_left']
theorem lb_len_se {m : List (ByteArray × En)} {k : ByteArray} (h : hasAt ltS eqS (m.map Prod.fst) k = true) : lb ltS (m.map Prod.fst) k < m.length := by
  apply Nat.lt_of_not_le
  intro hc
  rw [hasAt_ge (by rw [List.length_map]; omega)] at h
  cases h
theorem with_call_se (m : List (ByteArray × En)) (k : ByteArray) (v : En) (hr : q16 m) (hlen : m.length ≤ 900000) :
    PCall P 113 [q0n m, str k, En.av v] (fun x => x = q0n (withG ltS eqS m k v)) := by
  refine q0d tyOk Tryz.func113 rfl rfl ?_
  intro K hK
  simp only [Tryz.ntmps113, List.length_cons, List.length_nil, Nat.reduceAdd, Nat.reduceSub, List.replicate, List.cons_append, List.nil_append]
  have ev0 : En.av v = .agg [.sl 4 (avs v.l), i64 v.t.st, i64 v.t.pr, i64 v.t.n] := rfl
  have hfind := find_se m k hr (by omega)
  unfold q0n at hfind
  try simp only [seval, go_sem, q0n, ev0]
  (refine q02 hfind rfl ?_; rintro _ rfl)
  unfold withG at hK
  have lm1 : (m.map fun p => str p.1).length ≤ 1000000 := by rw [List.length_map]; omega
  have lm2 : (m.map fun p => En.av p.2).length ≤ 1000000 := by rw [List.length_map]; omega
  have hle : lb ltS (m.map Prod.fst) k ≤ m.length := by have := lb_le (lt := ltS) (m.map Prod.fst) k; rwa [List.length_map] at this
  cases hh : hasAt ltS eqS (m.map Prod.fst) k
  · rw [hh] at hK
    try simp only [seval, go_sem]
    refine q0k tyOk (by rfl) (by simp only [List.length_cons, List.length_nil, Nat.reduceAdd, Nat.zero_le]) (by kernel_rfl) rfl ?_
    try simp only [seval, go_sem]
    refine q26 (clone_str _ lm1) rfl rfl ?_
    try simp only [seval, go_sem]
    refine q59 (insert_str _ (str k) (lb ltS (m.map Prod.fst) k) (by rw [List.length_map]; exact hle) lm1) 3 (by decide) rfl rfl rfl rfl ?_
    try simp only [seval, go_sem]
    refine q26 (clone_ent _ lm2) rfl rfl ?_
    try simp only [seval, go_sem]
    refine q59 (insert_ent _ (En.av v) (lb ltS (m.map Prod.fst) k) (by rw [List.length_map]; exact hle) lm2) 4 (by decide) rfl rfl rfl rfl ?_
    try simp only [seval, go_sem]
    refine ⟨by kernel_rfl, ?_⟩
    try simp only [seval, go_sem]
    apply hK
    simp only [Tryz.results113, retK, ares, List.take_nil, Bool.and_true, Bool.true_and, AV.ofResults, St.trunc, q00, q01, aload, acell, T, TI.isAgg, List.getD_cons_zero, List.getD_cons_succ, List.take_zero, List.take_succ_cons, List.drop_zero, List.map_nil, List.getElem?_cons_zero, List.getElem?_cons_succ, List.length_cons, List.length_nil, Nat.reduceAdd, Nat.reduceLeDiff, Nat.le_refl, true_and, and_true, ↓reduceIte, Bool.false_eq_true, List.cons.injEq, exists_eq_left']
    rw [q20 (by simp; omega), q20 (by simp; omega)]
    simp only [q0n, List.map_append, List.map_take, List.map_drop, List.map_cons, List.map_nil]
  · rw [hh] at hK
    have hl := lb_len_se hh
    have eg : (m.map fun p => En.av p.2).getD (Int.toNat ((lb ltS (m.map Prod.fst) k : Nat) : Int)) .any = En.av m[lb ltS (m.map Prod.fst) k].2 := q2e hl
    have k1 : (0 : Int) ≤ ((lb ltS (m.map Prod.fst) k : Nat) : Int) ∧ Int.toNat ((lb ltS (m.map Prod.fst) k : Nat) : Int) < m.length := by omega
    try simp only [seval, go_sem]
    refine q0k tyOk (by rfl) (by simp only [List.length_cons, List.length_nil, Nat.reduceAdd, Nat.zero_le]) (by kernel_rfl) rfl ?_
    try simp only [seval, go_sem]
    refine q26 (clone_ent _ lm2) rfl rfl ?_
    try simp only [seval, go_sem]
    refine ⟨by kernel_rfl, ?_⟩
    have eg' : (m.map fun p => En.av p.2).getD (Int.toNat ((lb ltS (m.map Prod.fst) k : Nat) : Int)) .any = .agg [.sl 4 (avs (m[lb ltS (m.map Prod.fst) k].2).l), i64 (m[lb ltS (m.map Prod.fst) k].2).t.st, i64 (m[lb ltS (m.map Prod.fst) k].2).t.pr, i64 (m[lb ltS (m.map Prod.fst) k].2).t.n] := eg
    try simp only [seval, go_sem, eg', k1, List.length_map, ev0]
    apply hK
    simp only [Tryz.results113, retK, ares, List.take_nil, Bool.and_true, Bool.true_and, AV.ofResults, St.trunc, q00, q01, aload, acell, T, TI.isAgg, List.getD_cons_zero, List.getD_cons_succ, List.take_zero, List.take_succ_cons, List.drop_zero, List.map_nil, List.getElem?_cons_zero, List.getElem?_cons_succ, List.length_cons, List.length_nil, Nat.reduceAdd, Nat.reduceLeDiff, Nat.le_refl, true_and, and_true, ↓reduceIte, List.cons.injEq, exists_eq_left']
    rw [← ev0]
    have he : m[lb ltS (m.map Prod.fst) k].1 = k := by
      have h1 := hh
      rw [hasAt_lt (by rw [List.length_map]; exact hl)] at h1
      have h2 := (q0u _ _).1 h1
      simpa using h2
    rw [q20 (by simp)]
    simp only [q0n, List.map_set, Int.toNat_natCast]
    congr 2
    congr 1
    refine (set_same_map (f := fun p : ByteArray × En => str p.1) hl ?_).symm
    simp only [he]
theorem all_call_se (m : List (ByteArray × En)) : PCall P 89 [q0n m] (fun x => x = .fn 111 [.rp [.sl 1 (m.map fun p => str p.1), .sl 4 (m.map fun p => En.av p.2)]]) := by
  refine q0d tyOk Tryz.func89 rfl rfl ?_
  intro K hK
  simp only [Tryz.ntmps89, List.length_cons, List.length_nil, Nat.reduceAdd, Nat.reduceSub, List.replicate, List.cons_append, List.nil_append]
  try simp only [seval, go_sem, q0n]
  apply hK
  simp only [Tryz.results89, retK, ares, q0r, AV.pure, Bool.and_self, Bool.and_true, Bool.true_and, AV.ofResults, St.trunc, q00, q01, List.getD_cons_zero, List.getD_cons_succ, List.take_zero, List.drop_zero, List.map_nil, List.getElem?_cons_zero, Nat.le_refl, true_and, and_true, ↓reduceIte, List.cons.injEq, exists_eq_left']
def q2r (m : List (ByteArray × En)) : List (List AV) := m.map fun p => [str p.1, En.av p.2]
theorem pairs_pre_se {m : List (ByteArray × En)} (i : Nat) : q2r (m.take i) <+: q2r m := (List.take_prefix i m).map _
theorem seq_se (m : List (ByteArray × En)) (hlen : m.length ≤ 1000000) : ICall P 111 [.rp [.sl 1 (m.map fun p => str p.1), .sl 4 (m.map fun p => En.av p.2)]] (q2r m) := by
  refine icall_goY tyOk Tryz.func111 rfl rfl rfl ?_
  intro y K hK
  simp only [Tryz.ntmps111, List.length_cons, List.length_nil, Nat.reduceAdd, Nat.reduceSub, List.replicate, List.cons_append, List.nil_append]
  try simp only [seval, go_sem, List.length_map]
  refine loopY_rule tyOk (α := Nat) 0 [0, 1, 6, 7, 8] (fun i => i ≤ m.length)
    (fun i => ⟨[.v y, .rp [.sl 1 (m.map fun p => str p.1), .sl 4 (m.map fun p => En.av p.2)], .any, .any, .any, .any, .sl 1 (m.map fun p => str p.1), i64 m.length, i64 i, .any, .any, .any, .any, .any, .any, .any, .any, .any, .any, .any, .any, .any, .any], []⟩)
    (fun i => (q2r (m.take i), false)) (fun i => m.length - i) 0 (Nat.le_refl _) (Nat.zero_le _) rfl rfl ?_
  intro i hi
  try simp only [seval, go_sem]
  (first | refine q05 ?_ ?_ | refine q08 ?_ ?_ | refine q09 ?_ ?_ | refine q07 ?_ ?_ | refine q06 ?_ ?_) <;> intro h <;> try simp only [seval, go_sem]
  · have hlt : i < m.length := by simpa using h
    have e1 := q2e (f := fun p : ByteArray × En => str p.1) hlt
    have e2 := q2e (f := fun p : ByteArray × En => En.av p.2) hlt
    have c1 : (0 : Int) ≤ (i : Int) ∧ Int.toNat (i : Int) < m.length := by omega
    have ew : IntKind.i64.wrap ((i : Int) + 1) = ((i + 1 : Nat) : Int) := by rw [wrap_i64 (by omega) (by omega)]; rfl
    have e3 : q2r (m.take i) ++ [[str m[i].1, En.av m[i].2]] = q2r (m.take (i + 1)) := by
      rw [q1f hlt]; simp only [q2r, List.map_append, List.map_cons, List.map_nil]
    simp only [En.av] at e3
    have e2' : (m.map fun p => En.av p.2).getD (Int.toNat (i : Int)) .any = .agg [.sl 4 (avs m[i].2.l), i64 m[i].2.t.st, i64 m[i].2.t.pr, i64 m[i].2.t.n] := e2
    try simp only [seval, go_sem, e1, e2', c1, List.length_map]
    refine ⟨⟨by rw [e3]; exact pairs_pre_se _, en_refs _ _⟩, ?_⟩
    intro b
    cases b with
    | true =>
      try simp only [seval, go_sem, ew]
      simp only [q43, St.trunc, St.keep, q00, q01, keepV, List.elem_cons, List.elem_nil, List.take_zero, List.map_nil, Nat.reduceAdd, Nat.reduceBEq, Nat.zero_add, Bool.false_eq_true, ↓reduceIte]
      exact ⟨i + 1, hlt, by omega, rfl, by rw [e3]⟩
    | false =>
      try simp only [seval, go_sem]
      exact hK _ _ _ (itK_ret ⟨by rw [e3]; exact pairs_pre_se _, fun h => by cases h⟩)
  · have hge : i = m.length := by have : ¬ ((i : Int) < (m.length : Int)) := by simpa using h
                                  omega
    subst hge
    refine hK _ _ _ (itK_normal ⟨pairs_pre_se _, fun _ => by rw [List.take_length]⟩)
theorem get_raw_se (m : List (ByteArray × En)) (k : ByteArray) (hr : q16 m) (hlen : m.length ≤ 1000000) :
    PCall P 78 [q0n m, str k] (fun x => x = .tup [if hasAt ltS eqS (m.map Prod.fst) k = true then En.av (getG ltS eqS nilEn m k).1 else rawNil, bool (getG ltS eqS nilEn m k).2]) := by
  refine q0d tyOk Tryz.func78 rfl rfl ?_
  intro K hK
  simp only [Tryz.ntmps78, List.length_cons, List.length_nil, Nat.reduceAdd, Nat.reduceSub, List.replicate, List.cons_append, List.nil_append]
  have hfind := find_se m k hr hlen
  unfold q0n at hfind
  try simp only [seval, go_sem, q0n]
  (refine q02 hfind rfl ?_; rintro _ rfl)
  unfold getG at hK
  cases hh : hasAt ltS eqS (m.map Prod.fst) k
  · rw [hh] at hK
    try simp only [seval, go_sem]
    apply hK
    simp only [Tryz.results78, retK, ares, List.take_nil, Bool.and_true, Bool.true_and, AV.ofResults, St.trunc, q00, q01, aload, acell, T, TI.isAgg, List.getD_cons_zero, List.getD_cons_succ, List.take_zero, List.take_succ_cons, List.drop_zero, List.map_nil, List.getElem?_cons_zero, List.getElem?_cons_succ, List.length_cons, List.length_nil, Nat.reduceAdd, Nat.le_refl, true_and, and_true, ↓reduceIte, Bool.false_eq_true, List.cons.injEq, exists_eq_left']
  · rw [hh] at hK
    have hl := lb_len_se hh
    have eg : (m.map fun p => En.av p.2).getD (Int.toNat ((lb ltS (m.map Prod.fst) k : Nat) : Int)) .any = En.av ((m.map Prod.snd).getD (lb ltS (m.map Prod.fst) k) nilEn) := by
      rw [q2e hl, List.getD_eq_getElem?_getD, List.getElem?_map, List.getElem?_eq_getElem hl]; rfl
    have k1 : (0 : Int) ≤ ((lb ltS (m.map Prod.fst) k : Nat) : Int) ∧ Int.toNat ((lb ltS (m.map Prod.fst) k : Nat) : Int) < m.length := by omega
    obtain ⟨en, hen⟩ : ∃ en, (m.map Prod.snd).getD (lb ltS (m.map Prod.fst) k) nilEn = en := ⟨_, rfl⟩
    rw [hen] at eg hK
    have eg' : (m.map fun p => En.av p.2).getD (Int.toNat ((lb ltS (m.map Prod.fst) k : Nat) : Int)) .any = .agg [.sl 4 (avs en.l), i64 en.t.st, i64 en.t.pr, i64 en.t.n] := eg
    try simp only [seval, go_sem, eg', k1, List.length_map]
    apply hK
    simp only [Tryz.results78, retK, ares, List.take_nil, Bool.and_true, Bool.true_and, AV.ofResults, St.trunc, q00, q01, aload, acell, T, TI.isAgg, List.getD_cons_zero, List.getD_cons_succ, List.take_zero, List.take_succ_cons, List.drop_zero, List.map_nil, List.getElem?_cons_zero, List.getElem?_cons_succ, List.length_cons, List.length_nil, Nat.reduceAdd, Nat.le_refl, true_and, and_true, ↓reduceIte, List.cons.injEq, exists_eq_left']
    rfl
theorem get_call_se (m : List (ByteArray × En)) (k : ByteArray) (hr : q16 m) (hlen : m.length ≤ 1000000) :
    PCall P 78 [q0n m, str k] (fun x => x = .tup [En.av (getG ltS eqS nilEn m k).1, bool (getG ltS eqS nilEn m k).2]) := by
  refine (get_raw_se m k hr hlen).weaken (.inr ⟨_, rfl, _, _, rfl, ?_, _, _, rfl, q0s _, rfl⟩)
  unfold getG
  split
  · exact q0s _
  · exact weak_en
theorem without_call_se (m : List (ByteArray × En)) (k : ByteArray) (hr : q16 m) (hlen : m.length ≤ 900000) :
    PCall P 112 [q0n m, str k] (fun x => x = q0n (q1e ltS eqS m k)) := by
  refine q0d tyOk Tryz.func112 rfl rfl ?_
  intro K hK
  simp only [Tryz.ntmps112, List.length_cons, List.length_nil, Nat.reduceAdd, Nat.reduceSub, List.replicate, List.cons_append, List.nil_append]
  have hfind := find_se m k hr (by omega)
  unfold q0n at hfind
  try simp only [seval, go_sem, q0n]
  (refine q02 hfind rfl ?_; rintro _ rfl)
  unfold q1e at hK
  have lm1 : (m.map fun p => str p.1).length ≤ 1000000 := by rw [List.length_map]; omega
  have lm2 : (m.map fun p => En.av p.2).length ≤ 1000000 := by rw [List.length_map]; omega
  cases hh : hasAt ltS eqS (m.map Prod.fst) k
  · rw [hh] at hK
    try simp only [seval, go_sem]
    apply hK
    simp only [Tryz.results112, retK, ares, List.take_nil, Bool.and_true, Bool.true_and, AV.ofResults, St.trunc, q00, q01, aload, acell, T, TI.isAgg, List.getD_cons_zero, List.getD_cons_succ, List.take_zero, List.take_succ_cons, List.drop_zero, List.map_nil, List.getElem?_cons_zero, List.getElem?_cons_succ, List.length_cons, List.length_nil, Nat.reduceAdd, Nat.le_refl, true_and, and_true, ↓reduceIte, Bool.false_eq_true, List.cons.injEq, exists_eq_left']
    rfl
  · rw [hh] at hK
    have hl := lb_len_se hh
    have w1 : IntKind.i64.wrap (((lb ltS (m.map Prod.fst) k : Nat) : Int) + 1) = ((lb ltS (m.map Prod.fst) k + 1 : Nat) : Int) := by rw [wrap_i64 (by omega) (by omega)]; rfl
    try simp only [seval, go_sem]
    refine q0k tyOk (by rfl) (by simp only [List.length_cons, List.length_nil, Nat.reduceAdd, Nat.zero_le]) (by kernel_rfl) rfl ?_
    try simp only [seval, go_sem, w1]
    refine q26 (clone_str _ lm1) rfl rfl ?_
    try simp only [seval, go_sem, w1]
    refine drawCall_on (delete_str _ (lb ltS (m.map Prod.fst) k) (by rw [List.length_map]; exact hl) lm1) 2 rfl rfl rfl rfl rfl ?_
    try simp only [seval, go_sem, w1]
    refine q26 (clone_ent _ lm2) rfl rfl ?_
    try simp only [seval, go_sem, w1]
    refine drawCall_on (delete_ent _ (lb ltS (m.map Prod.fst) k) (by rw [List.length_map]; exact hl) lm2) 3 rfl rfl rfl rfl rfl ?_
    try simp only [seval, go_sem, w1]
    refine ⟨by kernel_rfl, ?_⟩
    try simp only [seval, go_sem]
    apply hK
    simp only [Tryz.results112, retK, ares, List.take_nil, Bool.and_true, Bool.true_and, AV.ofResults, St.trunc, q00, q01, aload, acell, T, TI.isAgg, List.getD_cons_zero, List.getD_cons_succ, List.take_zero, List.take_succ_cons, List.drop_zero, List.map_nil, List.getElem?_cons_zero, List.getElem?_cons_succ, List.length_cons, List.length_nil, Nat.reduceAdd, Nat.reduceLeDiff, Nat.le_refl, true_and, and_true, ↓reduceIte, List.cons.injEq, exists_eq_left']
    rw [cut_last (by rw [List.length_map]; exact hl), cut_last (by rw [List.length_map]; exact hl)]
    simp only [q0n, List.map_append, List.map_take, List.map_drop]
end Go.Proofs.YtdkcpcflfnakdaaGreat
namespace Go.Proofs.YtdkcpcflfnakdaaGreat
open Go Go.Proofs.YtdkcpcflfnakdaaGreat.Sym
set_option maxRecDepth 100000
set_option maxHeartbeats 1000000
def addW (a b : Int) : Int := if IntKind.u64.wrap (18446744073709551615 - a) < b then 18446744073709551615 else IntKind.u64.wrap (a + b)
theorem tick_Add (a b : Int) : PCall P 94 [u64 a, u64 b] (fun x => x = u64 (addW a b)) := by
  refine q0d tyOk Tryz.func94 rfl rfl ?_
  intro K hK
  simp only [Tryz.ntmps94, List.length_cons, List.length_nil, Nat.reduceAdd, Nat.reduceSub, List.replicate, List.cons_append, List.nil_append]
  try simp only [seval, go_sem]
  (first | refine q05 ?_ ?_ | refine q08 ?_ ?_ | refine q09 ?_ ?_ | refine q07 ?_ ?_ | refine q06 ?_ ?_) <;> intro h <;> try simp only [seval, go_sem]
  · apply hK
    simp only [Tryz.results94, retK, ares, List.take_nil, Bool.and_true, Bool.true_and, AV.ofResults, St.trunc, q00, q01, List.getD_cons_zero, List.getD_cons_succ, List.map_nil, true_and, and_true, List.cons.injEq, exists_eq_left']
    rw [addW, if_pos (by simpa using h)]
  · apply hK
    simp only [Tryz.results94, retK, ares, List.take_nil, Bool.and_true, Bool.true_and, AV.ofResults, St.trunc, q00, q01, List.getD_cons_zero, List.getD_cons_succ, List.map_nil, true_and, and_true, List.cons.injEq, exists_eq_left']
    rw [addW, if_neg (by simpa using h)]
abbrev Bk := List (ByteArray × En)
def ofP (l : List Ses) (now : Int) : Pr := ⟨(bestF (lives now l)).1.st, (bestF (lives now l)).1.pr, (bestF (lives now l)).2⟩
def wasOf (m : Bk) (u : ByteArray) : En := (getG ltS eqS nilEn m u).1
def q1g (m : Bk) (u : ByteArray) (l : List Ses) (now : Int) : Bk := if l.length = 0 then q1e ltS eqS m u else withG ltS eqS m u ⟨l, ofP l now⟩
def settleC (m : Bk) (u : ByteArray) (l : List Ses) (now : Int) : List Chg := if ofP l now = (wasOf m u).t then [] else [⟨u, (wasOf m u).t, ofP l now⟩]
theorem of_call (l : List Ses) (now : Int) (h : l.length ≤ 1000000) : PCall P 79 [.sl 4 (avs l), u64 now] (fun x => x = .agg [i64 (ofP l now).st, i64 (ofP l now).pr, i64 (ofP l now).n]) := aggr_Of l now (by omega)
theorem get_open (m : Bk) (u : ByteArray) (hr : q16 m) (hlen : m.length ≤ 800000) : PCall P 78 [q0n m, str u]
    (fun x => x = .tup [.agg [.sl 4 (avs (wasOf m u).l), i64 (wasOf m u).t.st, i64 (wasOf m u).t.pr, i64 (wasOf m u).t.n], bool (getG ltS eqS nilEn m u).2]) := get_call_se m u hr (by omega)
theorem settle_raw (m : Bk) (u : ByteArray) (l : List Ses) (now : Int) (hr : q16 m) (hlen : m.length ≤ 800000) (hl : l.length ≤ 800000) :
    PCall P 91 [q0n m, str u, .sl 4 (avs l), u64 now] (fun x => x = .tup [q0n (q1g m u l now), if settleC m u l now = [] then .v (.slice none 0 0) else .sl 7 (chgs (settleC m u l now))]) := by
  refine q0d tyOk Tryz.func91 rfl rfl ?_
  intro K hK
  simp only [Tryz.ntmps91, List.length_cons, List.length_nil, Nat.reduceAdd, Nat.reduceSub, List.replicate, List.cons_append, List.nil_append]
  try simp only [seval, go_sem, q0n]
  (refine q02 (get_open m u hr hlen) rfl ?_; rintro _ rfl)
  try simp only [seval, go_sem]
  (refine q02 (of_call l now (by omega)) rfl ?_; rintro _ rfl)
  try simp only [seval, go_sem, pr_beq, q0p]
  (first | refine q05 ?_ ?_ | refine q08 ?_ ?_ | refine q09 ?_ ?_ | refine q07 ?_ ?_ | refine q06 ?_ ?_) <;> intro h
  · have hne : ¬ ofP l now = (wasOf m u).t := by simpa using h
    have hc : settleC m u l now = [⟨u, (wasOf m u).t, ofP l now⟩] := by rw [settleC, if_neg hne]
    try simp only [seval, go_sem, q0p]
    (first | refine q05 ?_ ?_ | refine q08 ?_ ?_ | refine q09 ?_ ?_ | refine q07 ?_ ?_ | refine q06 ?_ ?_) <;> intro h2
    · have hl0 : l.length = 0 := by simpa using h2
      have hs : q1g m u l now = q1e ltS eqS m u := by rw [q1g, if_pos hl0]
      try simp only [seval, go_sem]
      (refine q02 (without_call_se m u hr (by omega)) rfl ?_; rintro _ rfl)
      try simp only [seval, go_sem, q0n]
      apply hK
      simp only [Tryz.results91, retK, ares, List.take_nil, Bool.and_true, Bool.true_and, AV.ofResults, St.trunc, q00, q01, aload, acell, T, TI.isAgg, List.getD_cons_zero, List.getD_cons_succ, List.take_zero, List.take_succ_cons, List.drop_zero, List.map_nil, List.getElem?_cons_zero, List.getElem?_cons_succ, List.length_cons, List.length_nil, Nat.reduceAdd, Nat.reduceLeDiff, Nat.le_refl, true_and, and_true, ↓reduceIte, List.cons.injEq, exists_eq_left']
      rw [hc, hs]
      try rfl
    · have hl0 : ¬ l.length = 0 := by simpa using h2
      have hs : q1g m u l now = withG ltS eqS m u ⟨l, ofP l now⟩ := by rw [q1g, if_neg hl0]
      have hw := with_call_se m u ⟨l, ofP l now⟩ hr (by omega)
      unfold En.av at hw
      try simp only [seval, go_sem]
      (refine q02 hw rfl ?_; rintro _ rfl)
      try simp only [seval, go_sem, q0n]
      apply hK
      simp only [Tryz.results91, retK, ares, List.take_nil, Bool.and_true, Bool.true_and, AV.ofResults, St.trunc, q00, q01, aload, acell, T, TI.isAgg, List.getD_cons_zero, List.getD_cons_succ, List.take_zero, List.take_succ_cons, List.drop_zero, List.map_nil, List.getElem?_cons_zero, List.getElem?_cons_succ, List.length_cons, List.length_nil, Nat.reduceAdd, Nat.reduceLeDiff, Nat.le_refl, true_and, and_true, ↓reduceIte, List.cons.injEq, exists_eq_left']
      rw [hc, hs]
      try rfl
  · have hne : ofP l now = (wasOf m u).t := by simpa using h
    have hc : settleC m u l now = [] := by rw [settleC, if_pos hne]
    try simp only [seval, go_sem, q0p]
    (first | refine q05 ?_ ?_ | refine q08 ?_ ?_ | refine q09 ?_ ?_ | refine q07 ?_ ?_ | refine q06 ?_ ?_) <;> intro h2
    · have hl0 : l.length = 0 := by simpa using h2
      have hs : q1g m u l now = q1e ltS eqS m u := by rw [q1g, if_pos hl0]
      try simp only [seval, go_sem]
      (refine q02 (without_call_se m u hr (by omega)) rfl ?_; rintro _ rfl)
      try simp only [seval, go_sem, q0n]
      apply hK
      simp only [Tryz.results91, retK, ares, List.take_nil, Bool.and_true, Bool.true_and, AV.ofResults, St.trunc, q00, q01, aload, acell, T, TI.isAgg, List.getD_cons_zero, List.getD_cons_succ, List.take_zero, List.take_succ_cons, List.drop_zero, List.map_nil, List.getElem?_cons_zero, List.getElem?_cons_succ, List.length_cons, List.length_nil, Nat.reduceAdd, Nat.le_refl, true_and, and_true, ↓reduceIte, List.cons.injEq, exists_eq_left']
      rw [hc, hs]
      try rfl
    · have hl0 : ¬ l.length = 0 := by simpa using h2
      have hs : q1g m u l now = withG ltS eqS m u ⟨l, ofP l now⟩ := by rw [q1g, if_neg hl0]
      have hw := with_call_se m u ⟨l, ofP l now⟩ hr (by omega)
      unfold En.av at hw
      try simp only [seval, go_sem]
      (refine q02 hw rfl ?_; rintro _ rfl)
      try simp only [seval, go_sem, q0n]
      apply hK
      simp only [Tryz.results91, retK, ares, List.take_nil, Bool.and_true, Bool.true_and, AV.ofResults, St.trunc, q00, q01, aload, acell, T, TI.isAgg, List.getD_cons_zero, List.getD_cons_succ, List.take_zero, List.take_succ_cons, List.drop_zero, List.map_nil, List.getElem?_cons_zero, List.getElem?_cons_succ, List.length_cons, List.length_nil, Nat.reduceAdd, Nat.le_refl, true_and, and_true, ↓reduceIte, List.cons.injEq, exists_eq_left']
      rw [hc, hs]
      try rfl
theorem q51 (m : Bk) (u : ByteArray) (l : List Ses) (now : Int) (hr : q16 m) (hlen : m.length ≤ 800000) (hl : l.length ≤ 800000) :
    PCall P 91 [q0n m, str u, .sl 4 (avs l), u64 now] (fun x => x = .tup [q0n (q1g m u l now), .sl 7 (chgs (settleC m u l now))]) := by
  refine (settle_raw m u l now hr hlen hl).weaken (.inr ⟨_, rfl, _, _, rfl, q0s _, _, _, rfl, ?_, rfl⟩)
  split
  · rename_i h; rw [h]; exact q3y 7
  · exact q0s _
structure Opb where
  kind : Int
  u : ByteArray
  id : Int
  st : Int
  pr : Int
  ttl : Int
  us : List ByteArray
def Opb.av (o : Opb) : AV := .agg [i64 o.kind, str o.u, i64 o.id, i64 o.st, i64 o.pr, u64 o.ttl, .sl 1 (o.us.map fun x => str x)]
def q2i (n : Nat) (m : Bk) : Prop := q16 m ∧ m.length ≤ n ∧ ∀ p ∈ m, Up p.2.l ∧ p.2.l.length ≤ n
def q24 (m : Bk) (o : Opb) (now most : Int) : List Ses × Int :=
  let l := lives now (wasOf m o.u).l
  if o.kind = 1 then setF l ⟨o.id, o.st, o.pr, addW now o.ttl⟩ most
  else if o.kind = 2 then beatF l o.id (addW now o.ttl)
  else if o.kind = 3 then (clear l o.id, if has l o.id = true then 0 else 3)
  else (l, 0)
def q29 (m : Bk) (o : Opb) (now most : Int) : Bk := q1g m o.u (q24 m o now most).1 now
def writeC (m : Bk) (o : Opb) (now most : Int) : List Chg := settleC m o.u (q24 m o now most).1 now
theorem was_ok {n : Nat} {m : Bk} (h : q2i n m) (u : ByteArray) : Up (wasOf m u).l ∧ (wasOf m u).l.length ≤ n := by
  by_cases hk : u ∈ m.map Prod.fst
  · obtain ⟨⟨k, e⟩, hp, rfl⟩ := List.mem_map.1 hk
    rw [wasOf, get_mem ordS q0u h.1 hp]
    exact h.2.2 _ hp
  · rw [wasOf, q3v ordS q0u h.1 hk]
    exact ⟨List.Pairwise.nil, Nat.zero_le _⟩
theorem put_len {l : List Ses} (hr : Up l) (s : Ses) : (put l s).length ≤ l.length + 1 := by
  rw [← put_at hr s]
  split
  · rw [List.length_set]; omega
  · simp; omega
theorem setF_ok {l : List Ses} (hr : Up l) (s : Ses) (most : Int) : Up (setF l s most).1 ∧ (setF l s most).1.length ≤ l.length + 1 := by
  unfold setF
  split
  · exact ⟨hr, Nat.le_succ _⟩
  · rw [ins_eq hr]; exact ⟨put_up hr s, put_len hr s⟩
theorem bmpS_id (id u : Int) (s : Ses) : (bmpS id u s).id = s.id := by unfold bmpS; split <;> rfl
theorem beatF_ok {l : List Ses} (hr : Up l) (id u : Int) : Up (beatF l id u).1 ∧ (beatF l id u).1.length = l.length := by
  unfold beatF
  split
  · refine ⟨?_, by simp⟩
    have e : ids (l.map (bmpS id u)) = ids l := by
      rw [ids, ids, List.map_map]
      exact List.map_congr_left fun s _ => bmpS_id id u s
    show Rises ltI (ids (l.map (bmpS id u)))
    rw [e]; exact hr
  · exact ⟨hr, rfl⟩
theorem writeL_ok {n : Nat} {m : Bk} (h : q2i n m) (o : Opb) (now most : Int) : Up (q24 m o now most).1 ∧ (q24 m o now most).1.length ≤ n + 1 := by
  obtain ⟨h1, h2⟩ := was_ok h o.u
  have h3 := lives_up h1 now
  have h4 : (lives now (wasOf m o.u).l).length ≤ (wasOf m o.u).l.length := List.length_filter_le _ _
  unfold q24
  simp only
  split
  · have := setF_ok h3 ⟨o.id, o.st, o.pr, addW now o.ttl⟩ most; exact ⟨this.1, by omega⟩
  · split
    · have := beatF_ok h3 o.id (addW now o.ttl); exact ⟨this.1, by omega⟩
    · split
      · exact ⟨clear_up h3 _, by have : (clear (lives now (wasOf m o.u).l) o.id).length ≤ _ := List.length_filter_le _ _; simp only; omega⟩
      · exact ⟨h3, by simp only; omega⟩
end Go.Proofs.YtdkcpcflfnakdaaGreat
namespace Go.Proofs.YtdkcpcflfnakdaaGreat
open Go Go.Proofs.YtdkcpcflfnakdaaGreat.Sym
set_option maxRecDepth 100000
set_option maxHeartbeats 1000000
theorem write_call (n : Nat) (m : Bk) (o : Opb) (now most : Int) (h : q2i n m) (hn : n ≤ 700000) :
    PCall P 66 [q0n m, o.av, u64 now, i64 most] (fun x => x = .tup [q0n (q29 m o now most), .sl 7 (chgs (writeC m o now most)), i64 (q24 m o now most).2]) := by
  refine q0d tyOk Tryz.func66 rfl rfl ?_
  intro K hK
  simp only [Tryz.ntmps66, List.length_cons, List.length_nil, Nat.reduceAdd, Nat.reduceSub, List.replicate, List.cons_append, List.nil_append]
  obtain ⟨hw1, hw2⟩ := was_ok h o.u
  have hlv := lives_up hw1 now
  have hll : (lives now (wasOf m o.u).l).length ≤ (wasOf m o.u).l.length := List.length_filter_le _ _
  have hok := writeL_ok h o now most
  have hml := h.2.1
  try simp only [seval, go_sem, q0n, Opb.av]
  (refine q02 (get_open m o.u h.1 (by omega)) rfl ?_; rintro _ rfl)
  try simp only [seval, go_sem]
  (refine q02 (sess_Purge (wasOf m o.u).l now (by omega)) rfl ?_; rintro _ rfl)
  try simp only [seval, go_sem]
  (refine q02 (tick_Add now o.ttl) rfl ?_; rintro _ rfl)
  try simp only [seval, go_sem]
  (first | refine q05 ?_ ?_ | refine q08 ?_ ?_ | refine q09 ?_ ?_ | refine q07 ?_ ?_ | refine q06 ?_ ?_) <;> intro h1
  · have k1 : o.kind = 1 := by simpa using h1
    obtain ⟨⟨L, e⟩, hL⟩ : ∃ r, q24 m o now most = r := ⟨_, rfl⟩
    have hS := sess_Set (lives now (wasOf m o.u).l) ⟨o.id, o.st, o.pr, addW now o.ttl⟩ most hlv (by omega)
    have e1 : setF (lives now (wasOf m o.u).l) ⟨o.id, o.st, o.pr, addW now o.ttl⟩ most = (L, e) := by rw [← hL, q24]; simp only [k1, if_true]
    rw [e1] at hS
    rw [hL] at hok hK
    simp only at hok
    try simp only [seval, go_sem]
    (refine q02 hS rfl ?_; rintro _ rfl)
    try simp only [seval, go_sem]
    (refine q02 (q51 m o.u L now h.1 (by omega) (by omega)) rfl ?_; rintro _ rfl)
    try simp only [seval, go_sem, q0n]
    apply hK
    simp only [Tryz.results66, retK, ares, List.take_nil, Bool.and_true, Bool.true_and, AV.ofResults, St.trunc, q00, q01, aload, acell, T, TI.isAgg, List.getD_cons_zero, List.getD_cons_succ, List.take_zero, List.take_succ_cons, List.drop_zero, List.map_nil, List.getElem?_cons_zero, List.getElem?_cons_succ, List.length_cons, List.length_nil, Nat.reduceAdd, Nat.le_refl, true_and, and_true, ↓reduceIte, List.cons.injEq, exists_eq_left']
    rw [q29, writeC, hL]
    try rfl
  · have k1 : ¬ o.kind = 1 := by simpa using h1
    try simp only [seval, go_sem]
    (first | refine q05 ?_ ?_ | refine q08 ?_ ?_ | refine q09 ?_ ?_ | refine q07 ?_ ?_ | refine q06 ?_ ?_) <;> intro h2
    · have k2 : o.kind = 2 := by simpa using h2
      obtain ⟨⟨L, e⟩, hL⟩ : ∃ r, q24 m o now most = r := ⟨_, rfl⟩
      have hS := sess_Beat (lives now (wasOf m o.u).l) o.id (addW now o.ttl) hlv (by omega)
      have e1 : beatF (lives now (wasOf m o.u).l) o.id (addW now o.ttl) = (L, e) := by rw [← hL, q24]; simp only [if_neg k1, if_pos k2]
      rw [e1] at hS
      rw [hL] at hok hK
      simp only at hok
      try simp only [seval, go_sem]
      (refine q02 hS rfl ?_; rintro _ rfl)
      try simp only [seval, go_sem]
      (refine q02 (q51 m o.u L now h.1 (by omega) (by omega)) rfl ?_; rintro _ rfl)
      try simp only [seval, go_sem, q0n]
      apply hK
      simp only [Tryz.results66, retK, ares, List.take_nil, Bool.and_true, Bool.true_and, AV.ofResults, St.trunc, q00, q01, aload, acell, T, TI.isAgg, List.getD_cons_zero, List.getD_cons_succ, List.take_zero, List.take_succ_cons, List.drop_zero, List.map_nil, List.getElem?_cons_zero, List.getElem?_cons_succ, List.length_cons, List.length_nil, Nat.reduceAdd, Nat.le_refl, true_and, and_true, ↓reduceIte, List.cons.injEq, exists_eq_left']
      rw [q29, writeC, hL]
      try rfl
    · have k2 : ¬ o.kind = 2 := by simpa using h2
      try simp only [seval, go_sem]
      (first | refine q05 ?_ ?_ | refine q08 ?_ ?_ | refine q09 ?_ ?_ | refine q07 ?_ ?_ | refine q06 ?_ ?_) <;> intro h3
      · have k3 : o.kind = 3 := by simpa using h3
        obtain ⟨⟨L, e⟩, hL⟩ : ∃ r, q24 m o now most = r := ⟨_, rfl⟩
        have hS := sess_Clear (lives now (wasOf m o.u).l) o.id hlv (by omega)
        have e1 : (clear (lives now (wasOf m o.u).l) o.id, if has (lives now (wasOf m o.u).l) o.id = true then (0 : Int) else 3) = (L, e) := by rw [← hL, q24]; simp only [if_neg k1, if_neg k2, if_pos k3]
        have e2 := congrArg Prod.fst e1
        have e3 := congrArg Prod.snd e1
        simp only at e2 e3
        rw [e2, e3] at hS
        rw [hL] at hok hK
        simp only at hok
        try simp only [seval, go_sem]
        (refine q02 hS rfl ?_; rintro _ rfl)
        try simp only [seval, go_sem]
        (refine q02 (q51 m o.u L now h.1 (by omega) (by omega)) rfl ?_; rintro _ rfl)
        try simp only [seval, go_sem, q0n]
        apply hK
        simp only [Tryz.results66, retK, ares, List.take_nil, Bool.and_true, Bool.true_and, AV.ofResults, St.trunc, q00, q01, aload, acell, T, TI.isAgg, List.getD_cons_zero, List.getD_cons_succ, List.take_zero, List.take_succ_cons, List.drop_zero, List.map_nil, List.getElem?_cons_zero, List.getElem?_cons_succ, List.length_cons, List.length_nil, Nat.reduceAdd, Nat.le_refl, true_and, and_true, ↓reduceIte, List.cons.injEq, exists_eq_left']
        rw [q29, writeC, hL]
        try rfl
      · have k3 : ¬ o.kind = 3 := by simpa using h3
        obtain ⟨⟨L, e⟩, hL⟩ : ∃ r, q24 m o now most = r := ⟨_, rfl⟩
        have e1 : (lives now (wasOf m o.u).l, (0 : Int)) = (L, e) := by rw [← hL, q24]; simp only [if_neg k1, if_neg k2, if_neg k3]
        have e2 := congrArg Prod.fst e1
        have e3 := congrArg Prod.snd e1
        simp only at e2 e3
        rw [hL] at hok hK
        simp only at hok
        rw [e2]
        rw [← e3] at hK
        rw [← e3] at hL
        try simp only [seval, go_sem]
        (refine q02 (q51 m o.u L now h.1 (by omega) (by omega)) rfl ?_; rintro _ rfl)
        try simp only [seval, go_sem, q0n]
        apply hK
        simp only [Tryz.results66, retK, ares, List.take_nil, Bool.and_true, Bool.true_and, AV.ofResults, St.trunc, q00, q01, aload, acell, T, TI.isAgg, List.getD_cons_zero, List.getD_cons_succ, List.take_zero, List.take_succ_cons, List.drop_zero, List.map_nil, List.getElem?_cons_zero, List.getElem?_cons_succ, List.length_cons, List.length_nil, Nat.reduceAdd, Nat.le_refl, true_and, and_true, ↓reduceIte, List.cons.injEq, exists_eq_left']
        rw [q29, writeC, hL]
        try rfl
def q4f (now : Int) (s : Bk × List Chg) (p : ByteArray × En) : Bk × List Chg :=
  (q1g s.1 p.1 (lives now p.2.l) now, s.2 ++ settleC s.1 p.1 (lives now p.2.l) now)
def q1j (m : Bk) (now : Int) : Bk × List Chg := m.foldl (q4f now) (m, [])
def q15 (m : Bk) (now : Int) (i : Nat) : Bk × List Chg := (m.take i).foldl (q4f now) (m, [])
theorem sweep_next {m : Bk} {now : Int} {i : Nat} (h : i < m.length) : q15 m now (i + 1) = q4f now (q15 m now i) m[i] := by
  rw [q15, q1f h, List.foldl_append]; rfl
theorem q54 {m : Bk} (h : q16 m) (u : ByteArray) (l : List Ses) (now : Int) : q16 (q1g m u l now) ∧ (q1g m u l now).length ≤ m.length + 1 := by
  unfold q1g
  split
  · exact ⟨without_rises ordS q0u h _, Nat.le_succ_of_le (without_len _ _)⟩
  · exact ⟨with_rises ordS q0u h _ _, with_len _ _ _⟩
theorem settleC_len (m : Bk) (u : ByteArray) (l : List Ses) (now : Int) : (settleC m u l now).length ≤ 1 := by
  unfold settleC; split <;> simp
theorem sweep_ok {m : Bk} (h : q16 m) (now : Int) : ∀ i, q16 (q15 m now i).1 ∧ (q15 m now i).1.length ≤ m.length + i ∧ (q15 m now i).2.length ≤ i := by
  intro i
  induction i with
  | zero => exact ⟨h, Nat.le_refl _, Nat.le_refl _⟩
  | succ i ih =>
    by_cases hi : i < m.length
    · rw [sweep_next hi]
      have h1 := q54 ih.1 m[i].1 (lives now m[i].2.l) now
      have h2 := settleC_len (q15 m now i).1 m[i].1 (lives now m[i].2.l) now
      refine ⟨h1.1, ?_, ?_⟩
      · have := h1.2; simp only [q4f]; omega
      · simp only [q4f, List.length_append]; omega
    · have e : q15 m now (i + 1) = q15 m now i := by
        rw [q15, q15, List.take_of_length_le (by omega), List.take_of_length_le (by omega)]
      rw [e]
      exact ⟨ih.1, by omega, by omega⟩
abbrev ebox (m : Bk) : AB := .box [.sl 1 (m.map fun p => str p.1), .sl 4 (m.map fun p => En.av p.2)]
theorem sweep_call (n : Nat) (m : Bk) (now : Int) (h : q2i n m) (hn : n ≤ 200000) :
    PCall P 63 [q0n m, u64 now] (fun x => x = .tup [q0n (q1j m now).1, .sl 7 (chgs (q1j m now).2)]) := by
  refine pcall_goY tyOk Tryz.func63 rfl rfl ?_
  intro K hK
  simp only [Tryz.ntmps63, List.length_cons, List.length_nil, Nat.reduceAdd, Nat.reduceSub, List.replicate, List.cons_append, List.nil_append]
  have hall := all_call_se m
  unfold q0n at hall
  have hml := h.2.1
  try simp only [seval, go_sem, q0n]
  (refine q02 hall rfl ?_; rintro _ rfl)
  try simp only [seval, go_sem]
  refine restY_turn (Turns.adoptIn (b := 3) (c := 0) 163 7 rfl rfl) ?_
  refine range_rule tyOk (seq_se m (by omega)) (α := Nat) 5 6 [2, 3, 4, 6, 7] ([.any, .any, .ptr 0 0, .ptr 1 0, .ptr 2 0, .any, .ptr 3 0, .ptr 4 0, .any, .any, .any, .any, .any, .any, .any, .any, .any, .any, .any, .any, .any, .any, .any, .any, .any, .any, .any, .any, .any, .any, .any, .any]) (fun xs i => i = xs.length ∧ i ≤ m.length)
    (fun i => [ebox m, .box [u64 now], .box [.v (.slice none 0 0), .v (.slice none 0 0)], .box [.own 5 7 0 (q15 m now i).2.length], ebox (q15 m now i).1, .row 163 7 (chgs (q15 m now i).2)]) 0 rfl rfl
    (fun x hx => by simp only [q2r, List.mem_map] at hx; obtain ⟨p, _, rfl⟩ := hx; rfl) (Nat.zero_le _) (by decide) (by rfl) ⟨rfl, Nat.zero_le _⟩ rfl ?_ ?_
  · rintro xs x _ hpre ⟨rfl, hle⟩
    obtain ⟨hi, _, rfl⟩ := q4v hpre
    have hs := sweep_ok h.1 now xs.length
    have hs2 := sweep_ok h.1 now (xs.length + 1)
    have hnx := sweep_next (now := now) hi
    have hel := (h.2.2 _ (List.getElem_mem hi)).2
    have ev0 : En.av m[xs.length].2 = .agg [.sl 4 (avs m[xs.length].2.l), i64 m[xs.length].2.t.st, i64 m[xs.length].2.t.pr, i64 m[xs.length].2.t.n] := rfl
    obtain ⟨s, hO⟩ : ∃ s, q15 m now xs.length = s := ⟨_, rfl⟩
    rw [hO] at hnx hs
    rw [hnx] at hs2
    simp only [hO]
    generalize m[xs.length] = p at *
    have hll : (lives now p.2.l).length ≤ p.2.l.length := List.length_filter_le _ _
    have hst := q51 s.1 p.1 (lives now p.2.l) now hs.1 (by omega) (by omega)
    have hcl := settleC_len s.1 p.1 (lives now p.2.l) now
    unfold q0n at hst
    try simp only [seval, go_sem, ev0]
    refine q0k tyOk (by rfl) (by simp only [List.length_cons, List.length_nil, Nat.reduceAdd, Nat.reduceLeDiff]) (by kernel_rfl) rfl ?_
    try simp only [seval, go_sem]
    refine q3l (sess_Purge p.2.l now (by omega)) rfl ?_
    try simp only [seval, go_sem]
    refine q3l hst rfl ?_
    try simp only [seval, go_sem]
    refine ⟨by kernel_rfl, ?_⟩
    try simp only [seval, go_sem, chgs_len]
    refine ⟨⟨by simp only [maxLen]; omega, by omega⟩, ?_⟩
    try simp only [seval, go_sem]
    simp only [q2o, St.trunc, q00, q01, AB.trunc, q0r, AV.pure, Bool.and_self, List.drop_zero, List.take_succ_cons, List.take_zero, List.map_cons, List.map_nil, List.getElem?_cons_zero, List.getElem?_cons_succ, Nat.reduceLeDiff, Nat.le_refl, ↓reduceIte]
    refine ⟨xs.length + 1, ⟨by first | rfl | simp, by omega⟩, ?_⟩
    rw [hnx]
    simp only [q4f, List.length_append, chgs, List.map_append]
  · rintro _ ⟨rfl, hle⟩
    have e1 : (q2r m).length = m.length := by simp [q2r]
    have e2 : q15 m now m.length = q1j m now := by rw [q15, List.take_length, q1j]
    rw [e1, e2]
    try simp only [seval, go_sem]
    refine q0k tyOk (by rfl) (by simp only [List.length_cons, List.length_nil, Nat.reduceAdd, Nat.zero_le]) (by kernel_rfl) rfl ?_
    try simp only [seval, go_sem]
    refine ⟨by kernel_rfl, ?_⟩
    try simp only [seval, go_sem]
    apply hK
    simp only [Tryz.results63, retK, ares, List.take_nil, Bool.and_true, Bool.true_and, AV.ofResults, St.trunc, q00, q01, aload, acell, T, TI.isAgg, List.getD_cons_zero, List.getD_cons_succ, List.take_zero, List.take_succ_cons, List.drop_zero, List.map_nil, List.getElem?_cons_zero, List.getElem?_cons_succ, List.length_cons, List.length_nil, Nat.reduceAdd, Nat.reduceLeDiff, Nat.le_refl, true_and, and_true, ↓reduceIte, List.cons.injEq, exists_eq_left']
    rw [q20 (chgs_len _)]
    try rfl
end Go.Proofs.YtdkcpcflfnakdaaGreat
namespace Go.Proofs.YtdkcpcflfnakdaaGreat
open Go Go.Proofs.YtdkcpcflfnakdaaGreat.Sym
set_option maxRecDepth 100000
set_option maxHeartbeats 1000000
section
variable {α β : Type} {lt eq : α → α → Bool}
theorem mid_parts (O : StrictOrd lt) {A D : List (α × β)} {k : α} {x : β} (h : q2f lt (A ++ (k, x) :: D)) :
    (∀ p ∈ A, lt p.1 k = true ∧ lt k p.1 = false) ∧ (∀ p ∈ D, lt k p.1 = true ∧ lt p.1 k = false) := by
  have hp := List.pairwise_append.1 (q31.1 h)
  have hc := List.pairwise_cons.1 hp.2.1
  have anti : ∀ a b, lt a b = true → lt b a = false := fun a b hab => by
    cases hb : lt b a with
    | false => rfl
    | true => have := O.trans _ _ _ hab hb; rw [O.irrefl] at this; cases this
  exact ⟨fun p hpA => by have := hp.2.2 p hpA (k, x) List.mem_cons_self; exact ⟨this, anti _ _ this⟩, fun p hpD => ⟨hc.1 p hpD, anti _ _ (hc.1 p hpD)⟩⟩
theorem with_mid (O : StrictOrd lt) (he : ∀ a b, eq a b = true ↔ a = b) {A D : List (α × β)} {k : α} {x : β} (v : β) (h : q2f lt (A ++ (k, x) :: D)) :
    withG lt eq (A ++ (k, x) :: D) k v = A ++ (k, v) :: D := by
  obtain ⟨hA, hD⟩ := mid_parts O h
  rw [with_eq O he h, List.filter_append, List.filter_append, List.filter_cons, List.filter_cons, O.irrefl, q3j (fun p hp => (hA p hp).1), filter_none' (l := D) (fun p hp => (hD p hp).2),
    filter_none' (l := A) (fun p hp => (hA p hp).2), q3j (fun p hp => (hD p hp).1)]
  simp
theorem without_mid (O : StrictOrd lt) (he : ∀ a b, eq a b = true ↔ a = b) {A D : List (α × β)} {k : α} {x : β} (h : q2f lt (A ++ (k, x) :: D)) :
    q1e lt eq (A ++ (k, x) :: D) k = A ++ D := by
  obtain ⟨hA, hD⟩ := mid_parts O h
  have ne : ∀ a b, (lt a b = true ∨ lt b a = true) → eq a b = false := fun a b hab => by
    cases hb : eq a b with
    | false => rfl
    | true =>
      have := (he _ _).1 hb
      subst this
      rw [O.irrefl] at hab; simp at hab
  rw [q3r O he h, List.filter_append, List.filter_cons, q3j (l := A) (fun p hp => by rw [ne _ _ (.inl (hA p hp).1)]; rfl), q3j (l := D) (fun p hp => by rw [ne _ _ (.inr (hD p hp).1)]; rfl), (he k k).2 rfl]
  simp
end
def sweptE (now : Int) (p : ByteArray × En) : Option (ByteArray × En) := if (lives now p.2.l).length = 0 then none else some (p.1, ⟨lives now p.2.l, ofP (lives now p.2.l) now⟩)
theorem sweepTo_eq {m : Bk} (h : q16 m) (now : Int) : ∀ i, (q15 m now i).1 = (m.take i).filterMap (sweptE now) ++ m.drop i := by
  intro i
  induction i with
  | zero => rfl
  | succ i ih =>
    by_cases hi : i < m.length
    · have hr := (sweep_ok h now i).1
      rw [ih, List.drop_eq_getElem_cons hi] at hr
      rw [sweep_next hi, q4f, ih, q1f hi, List.filterMap_append, List.drop_eq_getElem_cons hi]
      simp only
      generalize (m.take i).filterMap (sweptE now) = A at hr ⊢
      generalize m.drop (i + 1) = D at hr ⊢
      generalize m[i] = p at hr ⊢
      obtain ⟨k, e⟩ := p
      unfold q1g
      by_cases hl : (lives now e.l).length = 0
      · rw [if_pos hl, without_mid ordS q0u hr]
        simp [sweptE, hl]
      · rw [if_neg hl, with_mid ordS q0u _ hr]
        simp [sweptE, hl]
    · have e : q15 m now (i + 1) = q15 m now i := by
        rw [q15, q15, List.take_of_length_le (by omega), List.take_of_length_le (by omega)]
      rw [e, ih, List.take_of_length_le (by omega), List.take_of_length_le (l := m) (by omega), List.drop_of_length_le (by omega), List.drop_of_length_le (by omega)]
theorem sweepF_eq {m : Bk} (h : q16 m) (now : Int) : (q1j m now).1 = m.filterMap (sweptE now) := by
  have := sweepTo_eq h now m.length
  rw [List.take_length, List.drop_length, List.append_nil] at this
  rw [← this, q15, List.take_length, q1j]
theorem swept_mem {m : Bk} {now : Int} {p : ByteArray × En} (h : p ∈ m.filterMap (sweptE now)) : ∃ q ∈ m, p = (q.1, ⟨lives now q.2.l, ofP (lives now q.2.l) now⟩) ∧ (lives now q.2.l).length ≠ 0 := by
  obtain ⟨q, hq, he⟩ := List.mem_filterMap.1 h
  unfold sweptE at he
  split at he
  · cases he
  · rename_i hn; cases he; exact ⟨q, hq, rfl, hn⟩
theorem book_sweep {n : Nat} {m : Bk} (h : q2i n m) (now : Int) : q2i n (q1j m now).1 := by
  have e := sweepF_eq h.1 now
  have hr := (sweep_ok h.1 now m.length).1
  rw [show q15 m now m.length = q1j m now by rw [q15, List.take_length, q1j]] at hr
  refine ⟨hr, ?_, ?_⟩
  · rw [e]; exact Nat.le_trans (List.length_filterMap_le _ _) h.2.1
  · intro p hp
    rw [e] at hp
    obtain ⟨q, hq, rfl, _⟩ := swept_mem hp
    have := h.2.2 q hq
    exact ⟨lives_up this.1 now, Nat.le_trans (List.length_filter_le _ _) this.2⟩
theorem settle_mem {m : Bk} (hr : q16 m) {u : ByteArray} {l : List Ses} {now : Int} {p : ByteArray × En} (h : p ∈ q1g m u l now) : p ∈ m ∨ (p = (u, ⟨l, ofP l now⟩) ∧ l.length ≠ 0) := by
  unfold q1g at h
  split at h
  · rw [q3r ordS q0u hr] at h
    exact .inl (List.mem_filter.1 h).1
  · rename_i hn
    rcases (mem_with ordS q0u hr).1 h with h | h
    · exact .inr ⟨h, hn⟩
    · exact .inl h.1
theorem book_write {n : Nat} {m : Bk} (h : q2i n m) (o : Opb) (now most : Int) : q2i (n + 1) (q29 m o now most) := by
  have hs := q54 h.1 o.u (q24 m o now most).1 now
  refine ⟨hs.1, Nat.le_trans hs.2 (by have := h.2.1; omega), ?_⟩
  intro p hp
  rcases settle_mem h.1 hp with hp | ⟨rfl, _⟩
  · have := h.2.2 p hp; exact ⟨this.1, by omega⟩
  · exact writeL_ok h o now most
theorem q2i.mono {n k : Nat} {m : Bk} (h : q2i n m) (hk : n ≤ k) : q2i k m := ⟨h.1, Nat.le_trans h.2.1 hk, fun p hp => ⟨(h.2.2 p hp).1, Nat.le_trans (h.2.2 p hp).2 hk⟩⟩
structure ActB where
  sw : Bool
  op : Opb
  by_ : Int
def ActB.av (a : ActB) : AV := .agg [bool a.sw, i64 a.op.kind, str a.op.u, i64 a.op.id, i64 a.op.st, i64 a.op.pr, u64 a.op.ttl, .sl 1 (a.op.us.map fun x => str x), u64 a.by_]
theorem nil_se : weak (.agg [.v (.slice none 0 0), .v (.slice none 0 0)]) (q0n []) := .inr ⟨_, rfl, _, _, rfl, q3y 1, _, _, rfl, q3y 4, rfl⟩
end Go.Proofs.YtdkcpcflfnakdaaGreat
namespace Go.Proofs.YtdkcpcflfnakdaaGreat
open Go Go.Proofs.YtdkcpcflfnakdaaGreat.Sym
set_option maxRecDepth 100000
set_option maxHeartbeats 1000000
abbrev u32 (n : Int) : AV := .v (.int .u32 n)
theorem clone_u32 (xs : List AV) (hlen : xs.length ≤ 1000000) :
    ACall P 105 [] [.sl 1 xs] (fun x m' => x = .own 0 1 0 xs.length ∧ m' = [.row 130 1 xs]) := by
  have hm : xs.length ≤ maxLen := by simp only [maxLen]; omega
  have hby : xs.length * 4 ≤ 140737488355328 := by omega
  by_cases h0 : xs = []
  · subst h0
    refine ACall.empty fun a cap => ?_
    cases a with
    | none =>
      refine ACall.weaken (K := fun x m' => x = .v (.slice none 0 0) ∧ m' = []) (q0h.toA (q1d tyOk Tryz.func105 rfl rfl (N := 0) (M := 1) (Nat.zero_le _) (by simp) ?_)) ?_
      · intro K hK
        simp only [Tryz.ntmps105, List.length_cons, List.length_nil, Nat.reduceAdd, Nat.reduceSub, List.replicate, List.cons_append, List.nil_append]
        try simp only [seval, go_sem]
        apply hK
        simp only [Tryz.results105, retK, ares, List.take_nil, Bool.and_true, AV.ofResults, St.trunc, q00, q01, List.getD_cons_zero, List.getD_cons_succ, List.map_nil, and_true, List.cons.injEq, exists_eq_left']
      · rintro x m' ⟨rfl, rfl⟩
        exact ⟨_, _, Turns.adopt (i := 0) 130 1 rfl, rfl, rfl⟩
    | some a =>
      refine q0h.toA (q1d tyOk Tryz.func105 rfl rfl (N := 0) (M := 1) (Nat.zero_le _) (by simp) ?_)
      intro K hK
      simp only [Tryz.ntmps105, List.length_cons, List.length_nil, Nat.reduceAdd, Nat.reduceSub, List.replicate, List.cons_append, List.nil_append]
      try simp only [seval, go_sem]
      apply hK
      simp only [Tryz.results105, retK, ares, List.take_nil, Bool.and_true, AV.ofResults, St.trunc, q00, q01, AB.trunc, List.getD_cons_zero, List.getD_cons_succ, List.take_succ_cons, List.map_nil, List.map_cons, List.length_nil, Nat.reduceLeDiff, and_true, ↓reduceIte, List.cons.injEq, exists_eq_left']
  · have hpos : 0 < xs.length := List.length_pos_iff.2 h0
    refine q0h.toA (q1d tyOk Tryz.func105 rfl rfl (N := 0) (M := 1) (Nat.zero_le _) (by simp) ?_)
    intro K hK
    simp only [Tryz.ntmps105, List.length_cons, List.length_nil, Nat.reduceAdd, Nat.reduceSub, List.replicate, List.cons_append, List.nil_append]
    try simp only [seval, go_sem, hpos]
    refine ⟨⟨hm, hby⟩, ?_⟩
    try simp only [seval, go_sem]
    apply hK
    simp only [Tryz.results105, retK, ares, List.take_nil, Bool.and_true, AV.ofResults, St.trunc, q00, q01, AB.trunc, List.getD_cons_zero, List.getD_cons_succ, List.take_succ_cons, List.map_nil, List.map_cons, Nat.reduceLeDiff, and_true, ↓reduceIte, List.cons.injEq, exists_eq_left']
theorem delete_u32 (xs : List AV) (i : Nat) (hi : i < xs.length) (hlen : xs.length ≤ 1000000) :
    ACall P 104 [.row 130 1 xs] [.own 0 1 0 xs.length, i64 (i : Int), i64 ((i + 1 : Nat) : Int)] (fun x m' => x = .own 0 1 0 (xs.length - 1) ∧ m' = [.row 130 1 (xs.take i ++ xs.drop (i + 1) ++ [u32 0])]) := by
  refine ACall.weaken (K := fun x m' => x = .own 0 1 0 (xs.length - 1) ∧ ∃ N, m' = [.rowc 130 1 (xs.take i ++ xs.drop (i + 1) ++ [u32 0]) N]) (q0h.toA (m := [_]) (q0h.room (by decide) fun N hN _ => ?_)) ?_
  · refine q2p tyOk Tryz.func104 rfl rfl (by simp) ?_
    intro K hK
    simp only [Tryz.ntmps104, List.length_cons, List.length_nil, Nat.reduceAdd, Nat.reduceSub, List.replicate, List.cons_append, List.nil_append]
    have f1 : ((i : Int) == ((i + 1 : Nat) : Int)) = false := by simp; omega
    try simp only [seval, go_sem, Int.toNat_natCast, f1]
    refine ⟨by omega, ?_⟩
    by_cases he : i + 1 = xs.length
    · have e1 : (xs.take i ++ xs.drop i).length = xs.length := by rw [List.take_append_drop]
      have e2 : ((xs.take i ++ xs.drop i).take i ++ List.replicate (xs.length - i) (u32 0)) ++ (xs.take i ++ xs.drop i).drop (i + (xs.length - i)) = xs.take i ++ xs.drop (i + 1) ++ [u32 0] := by
        rw [List.take_append_drop, List.drop_of_length_le (by omega), List.drop_of_length_le (by omega), show xs.length - i = 1 by omega, List.append_nil, List.append_nil]
        rfl
      have hni : ¬ i = xs.length := by omega
      refine q0k tyOk (by rfl) (by simp only [List.length_cons, List.length_nil, Nat.reduceAdd, Nat.le_refl]) (by kernel_rfl) rfl ?_
      try simp only [seval, go_sem, Int.toNat_natCast, he]
      refine ⟨by omega, by omega, by omega, ?_⟩
      refine ⟨by kernel_rfl, ?_⟩
      try simp only [seval, go_sem, Int.toNat_natCast, hni, e1]
      refine ⟨by omega, by omega, ?_⟩
      apply hK
      simp only [Tryz.results104, retK, ares, List.take_nil, Bool.and_true, AV.ofResults, St.trunc, q00, q01, AB.trunc, List.getD_cons_zero, List.getD_cons_succ, List.take_succ_cons, List.map_nil, List.map_cons, List.length_cons, List.length_nil, Nat.reduceAdd, Nat.reduceLeDiff, and_true, ↓reduceIte, List.cons.injEq, exists_eq_left']
      simp only [e2]
      exact ⟨by congr 1; omega, N, rfl⟩
    · have hd : (xs.drop (i + 1)).length = xs.length - (i + 1) := by simp
      have ht : (xs.drop (i + 1)).take (xs.length - (i + 1)) = xs.drop (i + 1) := List.take_of_length_le (by simp)
      have hni : ¬ i + (xs.length - (i + 1)) = xs.length := by omega
      have e1 : (xs.take i ++ xs.drop (i + 1) ++ xs.drop (i + (xs.length - (i + 1)))).length = xs.length := by simp; omega
      have e2 : (xs.take i ++ xs.drop (i + 1) ++ xs.drop (i + (xs.length - (i + 1)))).take (i + (xs.length - (i + 1))) ++ List.replicate (xs.length - (i + (xs.length - (i + 1)))) (u32 0) ++
          (xs.take i ++ xs.drop (i + 1) ++ xs.drop (i + (xs.length - (i + 1)))).drop (i + (xs.length - (i + 1)) + (xs.length - (i + (xs.length - (i + 1))))) = xs.take i ++ xs.drop (i + 1) ++ [u32 0] := by
        rw [show xs.length - (i + (xs.length - (i + 1))) = 1 by omega, List.drop_of_length_le (l := xs.take i ++ xs.drop (i + 1) ++ xs.drop (i + (xs.length - (i + 1)))) (by rw [e1]; omega), List.append_nil,
          List.take_append_of_le_length (by simp; omega), List.take_of_length_le (by simp; omega)]
        rfl
      refine q0k tyOk (by rfl) (by simp only [List.length_cons, List.length_nil, Nat.reduceAdd, Nat.le_refl]) (by kernel_rfl) rfl ?_
      try simp only [seval, go_sem, Int.toNat_natCast, he, ht, hd]
      refine ⟨by omega, by omega, by omega, ?_⟩
      refine ⟨by kernel_rfl, ?_⟩
      try simp only [seval, go_sem, Int.toNat_natCast, hni, e1]
      refine ⟨by omega, by omega, ?_⟩
      apply hK
      simp only [Tryz.results104, retK, ares, List.take_nil, Bool.and_true, AV.ofResults, St.trunc, q00, q01, AB.trunc, List.getD_cons_zero, List.getD_cons_succ, List.take_succ_cons, List.map_nil, List.map_cons, List.length_cons, List.length_nil, Nat.reduceAdd, Nat.reduceLeDiff, and_true, ↓reduceIte, List.cons.injEq, exists_eq_left']
      simp only [e2]
      exact ⟨by congr 1; omega, N, rfl⟩
  · rintro x m' ⟨rfl, N, rfl⟩
    exact ⟨_, _, Turns.unroom, rfl, rfl⟩
theorem insert_u32 (xs : List AV) (v : AV) (i : Nat) (hi : i ≤ xs.length) (hlen : xs.length ≤ 1000000) :
    q0j P (fun _ => false) 107 [.row 130 1 xs] [.own 0 1 0 xs.length, i64 (i : Int), .sl 1 [v]] (fun x m' => x = .own 0 1 0 (xs.length + 1) ∧ m' = [.row 130 1 (xs.take i ++ [v] ++ xs.drop i)]) := by
  refine q0h.relocate (q0h.room (by decide) fun N hN _ => q1d tyOk Tryz.func107 rfl rfl (N := 0) (M := 2) (Nat.zero_le _) (by simp) ?_)
  intro K hK
  simp only [Tryz.ntmps107, List.length_cons, List.length_nil, Nat.reduceAdd, Nat.reduceSub, List.replicate, List.cons_append, List.nil_append]
  have w1 : IntKind.i64.wrap ((xs.length : Int) + ((1 : Nat) : Int)) = ((xs.length + 1 : Nat) : Int) := by rw [wrap_i64 (by omega) (by omega)]; rfl
  have w2 : IntKind.i64.wrap ((i : Int) + ((1 : Nat) : Int)) = ((i + 1 : Nat) : Int) := by rw [wrap_i64 (by omega) (by omega)]; rfl
  have w3 : IntKind.i64.wrap (((xs.length + 1 : Nat) : Int) - (i : Int)) = ((xs.length + 1 - i : Nat) : Int) := by rw [wrap_i64 (by omega) (by omega)]; omega
  have c1 : (((1 : Nat) : Int) == 0) = false := by decide
  by_cases hin : i = xs.length
  · subst hin
    try simp only [seval, go_sem, -Int.reduceNatCast, -Int.reduceNatCast', -Nat.reduceSubDiff, Int.toNat_natCast, c1]
    refine ⟨by omega, ?_⟩
    by_cases hr : xs.length + 1 ≤ N
    · try simp only [seval, go_sem, -Int.reduceNatCast, -Int.reduceNatCast', -Nat.reduceSubDiff, hr]
      apply hK
      simp only [Tryz.results107, retK, ares, List.take_nil, Bool.and_true, Bool.true_and, AV.ofResults, St.trunc, q00, q01, AB.trunc, List.getD_cons_zero, List.getD_cons_succ, List.take_succ_cons, List.map_nil, List.map_cons, Nat.reduceLeDiff, true_and, and_true, ↓reduceIte, List.cons.injEq, exists_eq_left']
      exact .inl ⟨N, [], by simp⟩
    · try simp only [seval, go_sem, -Int.reduceNatCast, -Int.reduceNatCast', -Nat.reduceSubDiff, hr]
      refine ⟨⟨by simp only [maxLen]; omega, by omega⟩, ?_⟩
      try simp only [seval, go_sem, -Int.reduceNatCast, -Int.reduceNatCast', -Nat.reduceSubDiff]
      apply hK
      simp only [Tryz.results107, retK, ares, List.take_nil, Bool.and_true, Bool.true_and, AV.ofResults, St.trunc, q00, q01, AB.trunc, List.getD_cons_zero, List.getD_cons_succ, List.take_succ_cons, List.map_nil, List.map_cons, Nat.reduceLeDiff, true_and, and_true, ↓reduceIte, List.cons.injEq, exists_eq_left']
      exact .inr (by simp)
  · have hlt : i < xs.length := by omega
    have c2 : ((i : Int) == (xs.length : Int)) = false := by simp; omega
    by_cases hr : xs.length + 1 ≤ N
    · have d1 : decide ((N : Int) < ((xs.length + 1 : Nat) : Int)) = false := decide_eq_false (by omega)
      have n1 : ¬ i + 1 = xs.length + 1 := by omega
      have n2 : ¬ i = xs.length + 1 := by omega
      try simp only [seval, go_sem, -Int.reduceNatCast, -Int.reduceNatCast', -Nat.reduceSubDiff, Int.toNat_natCast, c1, c2, w1, w2, Nat.sub_zero, d1, hin, n1, n2]
      refine ⟨by omega, by omega, by omega, ?_⟩
      refine q33 ?_
      try simp only [seval, go_sem, -Int.reduceNatCast, -Int.reduceNatCast', -Nat.reduceSubDiff]
      refine callG_ext (q4k (tS := 120) (tR := 4) (e := 130) tyOk Tryz.func126 rfl rfl (by kernel_rfl) (by kernel_rfl) rfl rfl rfl (by decide) rfl rfl) ?_
      try simp only [seval, go_sem, -Int.reduceNatCast, -Int.reduceNatCast', -Nat.reduceSubDiff]
      have ek : (xs.drop i).take (min (xs.length + 1 - (i + 1)) (xs.length + 1 - i)) = xs.drop i := List.take_of_length_le (by simp; omega)
      refine q0k tyOk (by rfl) (by simp only [List.length_cons, List.length_nil, Nat.reduceAdd, Nat.zero_le]) (by kernel_rfl) rfl ?_
      try simp only [seval, go_sem, -Int.reduceNatCast, -Int.reduceNatCast', -Nat.reduceSubDiff, Int.toNat_natCast, w2, n1, n2, ek]
      refine ⟨by omega, by omega, by omega, ?_⟩
      refine ⟨by kernel_rfl, ?_⟩
      have es : List.take (xs.length + 1 - i) [v] = [v] := List.take_of_length_le (by simp; omega)
      have e3 : (xs.take (i + 1) ++ xs.drop i ++ xs.drop (i + 1 + (xs.drop i).length)).take i ++ [v] ++ (xs.take (i + 1) ++ xs.drop i ++ xs.drop (i + 1 + (xs.drop i).length)).drop (i + 1) = xs.take i ++ [v] ++ xs.drop i := by
        have hl : (xs.take (i + 1)).length = i + 1 := by simp; omega
        have hd : xs.drop (i + 1 + (xs.drop i).length) = [] := List.drop_of_length_le (by simp; omega)
        rw [hd, List.append_nil, List.take_append_of_le_length (by omega), List.take_take, Nat.min_eq_left (by omega),
          List.drop_append_of_le_length (by omega), List.drop_of_length_le (by omega), List.nil_append]
      try simp only [seval, go_sem, -Int.reduceNatCast, -Int.reduceNatCast', -Nat.reduceSubDiff, Int.toNat_natCast, n2, es]
      refine ⟨by omega, ⟨by omega, by simp; omega⟩, ?_⟩
      apply hK
      simp only [Tryz.results107, retK, ares, List.take_nil, Bool.and_true, Bool.true_and, AV.ofResults, St.trunc, q00, q01, AB.trunc, List.getD_cons_zero, List.getD_cons_succ, List.take_succ_cons, List.map_nil, List.map_cons, Nat.reduceLeDiff, true_and, and_true, ↓reduceIte, List.cons.injEq, exists_eq_left']
      exact .inl ⟨N, [], by rw [e3, List.append_nil]⟩
    · have d1 : decide ((N : Int) < ((xs.length + 1 : Nat) : Int)) = true := decide_eq_true (by omega)
      have g1 : ¬ i + (xs.length + 1 - i) ≤ N := by omega
      have g2 : ¬ i = i + (xs.length + 1 - i) := by omega
      have g3 : ¬ i + 1 = i + (xs.length + 1 - i) := by omega
      have g4 : List.take (i + (xs.length + 1 - i) - i) [v] = [v] := List.take_of_length_le (by simp; omega)
      have g5 : (xs.drop i).take (min (i + (xs.length + 1 - i) - (i + 1)) (xs.length - i)) = xs.drop i := List.take_of_length_le (by simp; omega)
      try simp only [seval, go_sem, -Int.reduceNatCast, -Int.reduceNatCast', -Nat.reduceSubDiff, Int.toNat_natCast, c1, c2, w1, w2, w3, Nat.sub_zero, d1, hin, g1, g2, g4]
      refine ⟨by omega, by omega, ⟨by omega, by omega, by omega, by omega, by simp only [maxLen]; omega, by omega⟩, by omega, ⟨by omega, by simp; omega⟩, ?_⟩
      refine q0k tyOk (by rfl) (by simp only [List.length_cons, List.length_nil, Nat.reduceAdd, Nat.zero_le]) (by kernel_rfl) rfl ?_
      try simp only [seval, go_sem, -Int.reduceNatCast, -Int.reduceNatCast', -Nat.reduceSubDiff, Int.toNat_natCast, w2, g3, g5, hin]
      have hB : (xs.take i ++ List.replicate (xs.length + 1 - i) (u32 0)).take i = xs.take i := by
        rw [List.take_append_of_le_length (by simp; omega), List.take_take, Nat.min_self]
      have hli : (xs.take i).length = i := by simp; omega
      rw [hB]
      refine ⟨by omega, by omega, ⟨by omega, by omega, by simp; omega⟩, ?_⟩
      refine ⟨by kernel_rfl, ?_⟩
      try simp only [seval, go_sem, -Int.reduceNatCast, -Int.reduceNatCast', -Nat.reduceSubDiff, hB]
      apply hK
      simp only [Tryz.results107, retK, ares, List.take_nil, Bool.and_true, AV.ofResults, St.trunc, q00, q01, AB.trunc, List.getD_cons_zero, List.getD_cons_succ, List.take_succ_cons, List.map_nil, List.map_cons, Nat.reduceLeDiff, and_true, ↓reduceIte, List.cons.injEq, exists_eq_left']
      have e4 : ∀ D : List AV, (xs.take i ++ [v] ++ D).take (i + 1) = xs.take i ++ [v] := fun D => by
        rw [List.take_append_of_le_length (by simp; omega), List.take_of_length_le (by simp; omega)]
      have e5 : (xs.take i ++ [v] ++ (xs.take i ++ List.replicate (xs.length + 1 - i) (u32 0)).drop (i + 1)).drop (i + 1 + (xs.drop i).length) = [] := List.drop_of_length_le (by simp; omega)
      refine .inr ?_
      rw [e4, e5, List.append_nil]
      exact ⟨by congr 1; omega, rfl⟩
def q2g (m : List (ByteArray × Int)) : AV := .agg [.sl 1 (m.map fun p => str p.1), .sl 1 (m.map fun p => u32 p.2)]
abbrev q2h (m : List (ByteArray × Int)) : Prop := q2f ltS m
theorem find_su (m : List (ByteArray × Int)) (k : ByteArray) (hr : q2h m) (hlen : m.length ≤ 1000000) :
    PCall P 101 [q2g m, str k] (fun x => x = .tup [i64 ((lb ltS (m.map Prod.fst) k : Nat) : Int), bool (hasAt ltS eqS (m.map Prod.fst) k)]) := by
  refine q0d tyOk Tryz.func101 rfl rfl ?_
  intro K hK
  simp only [Tryz.ntmps101, List.length_cons, List.length_nil, Nat.reduceAdd, Nat.reduceSub, List.replicate, List.cons_append, List.nil_append]
  have em : (m.map fun p => str p.1) = (m.map Prod.fst).map fun x => str x := by rw [List.map_map]; rfl
  try simp only [seval, go_sem, q2g, em]
  (refine q02 (search_str (m.map Prod.fst) hr k (by rw [List.length_map]; exact hlen)) rfl ?_; rintro _ rfl)
  try simp only [seval, go_sem]
  apply hK
  simp only [Tryz.results101, retK, ares, Bool.and_true, Bool.true_and, AV.ofResults, St.trunc, q00, q01, List.getD_cons_zero, List.getD_cons_succ, List.take_zero, List.map_nil, true_and, and_true, List.cons.injEq, exists_eq_left']
theorem lb_len_su {m : List (ByteArray × Int)} {k : ByteArray} (h : hasAt ltS eqS (m.map Prod.fst) k = true) : lb ltS (m.map Prod.fst) k < m.length := by
  apply Nat.lt_of_not_le
  intro hc
  rw [hasAt_ge (by rw [List.length_map]; omega)] at h
  cases h
theorem with_call_su (m : List (ByteArray × Int)) (k : ByteArray) (v : Int) (hr : q2h m) (hlen : m.length ≤ 900000) :
    PCall P 76 [q2g m, str k, u32 v] (fun x => x = q2g (withG ltS eqS m k v)) := by
  refine q0d tyOk Tryz.func76 rfl rfl ?_
  intro K hK
  simp only [Tryz.ntmps76, List.length_cons, List.length_nil, Nat.reduceAdd, Nat.reduceSub, List.replicate, List.cons_append, List.nil_append]
  have hfind := find_su m k hr (by omega)
  unfold q2g at hfind
  try simp only [seval, go_sem, q2g]
  (refine q02 hfind rfl ?_; rintro _ rfl)
  unfold withG at hK
  have lm1 : (m.map fun p => str p.1).length ≤ 1000000 := by rw [List.length_map]; omega
  have lm2 : (m.map fun p => u32 p.2).length ≤ 1000000 := by rw [List.length_map]; omega
  have hle : lb ltS (m.map Prod.fst) k ≤ m.length := by have := lb_le (lt := ltS) (m.map Prod.fst) k; rwa [List.length_map] at this
  cases hh : hasAt ltS eqS (m.map Prod.fst) k
  · rw [hh] at hK
    try simp only [seval, go_sem]
    refine q0k tyOk (by rfl) (by simp only [List.length_cons, List.length_nil, Nat.reduceAdd, Nat.zero_le]) (by kernel_rfl) rfl ?_
    try simp only [seval, go_sem]
    refine q26 (clone_str _ lm1) rfl rfl ?_
    try simp only [seval, go_sem]
    refine q59 (insert_str _ (str k) (lb ltS (m.map Prod.fst) k) (by rw [List.length_map]; exact hle) lm1) 2 (by decide) rfl rfl rfl rfl ?_
    try simp only [seval, go_sem]
    refine q26 (clone_u32 _ lm2) rfl rfl ?_
    try simp only [seval, go_sem]
    refine q59 (insert_u32 _ (u32 v) (lb ltS (m.map Prod.fst) k) (by rw [List.length_map]; exact hle) lm2) 3 (by decide) rfl rfl rfl rfl ?_
    try simp only [seval, go_sem]
    refine ⟨by kernel_rfl, ?_⟩
    try simp only [seval, go_sem]
    apply hK
    simp only [Tryz.results76, retK, ares, List.take_nil, Bool.and_true, Bool.true_and, AV.ofResults, St.trunc, q00, q01, aload, acell, T, TI.isAgg, List.getD_cons_zero, List.getD_cons_succ, List.take_zero, List.take_succ_cons, List.drop_zero, List.map_nil, List.getElem?_cons_zero, List.getElem?_cons_succ, List.length_cons, List.length_nil, Nat.reduceAdd, Nat.reduceLeDiff, Nat.le_refl, true_and, and_true, ↓reduceIte, Bool.false_eq_true, List.cons.injEq, exists_eq_left']
    rw [q20 (by simp; omega), q20 (by simp; omega)]
    simp only [q2g, List.map_append, List.map_take, List.map_drop, List.map_cons, List.map_nil]
  · rw [hh] at hK
    have hl := lb_len_su hh
    have eg : (m.map fun p => u32 p.2).getD (Int.toNat ((lb ltS (m.map Prod.fst) k : Nat) : Int)) .any = u32 m[lb ltS (m.map Prod.fst) k].2 := q2e hl
    have k1 : (0 : Int) ≤ ((lb ltS (m.map Prod.fst) k : Nat) : Int) ∧ Int.toNat ((lb ltS (m.map Prod.fst) k : Nat) : Int) < m.length := by omega
    try simp only [seval, go_sem]
    refine q0k tyOk (by rfl) (by simp only [List.length_cons, List.length_nil, Nat.reduceAdd, Nat.zero_le]) (by kernel_rfl) rfl ?_
    try simp only [seval, go_sem]
    refine q26 (clone_u32 _ lm2) rfl rfl ?_
    try simp only [seval, go_sem]
    refine ⟨by kernel_rfl, ?_⟩
    try simp only [seval, go_sem, eg, k1, List.length_map]
    apply hK
    simp only [Tryz.results76, retK, ares, List.take_nil, Bool.and_true, Bool.true_and, AV.ofResults, St.trunc, q00, q01, aload, acell, T, TI.isAgg, List.getD_cons_zero, List.getD_cons_succ, List.take_zero, List.take_succ_cons, List.drop_zero, List.map_nil, List.getElem?_cons_zero, List.getElem?_cons_succ, List.length_cons, List.length_nil, Nat.reduceAdd, Nat.reduceLeDiff, Nat.le_refl, true_and, and_true, ↓reduceIte, List.cons.injEq, exists_eq_left']
    have he : m[lb ltS (m.map Prod.fst) k].1 = k := by
      have h1 := hh
      rw [hasAt_lt (by rw [List.length_map]; exact hl)] at h1
      have h2 := (q0u _ _).1 h1
      simpa using h2
    rw [q20 (by simp)]
    simp only [q2g, List.map_set, Int.toNat_natCast]
    congr 2
    congr 1
    refine (set_same_map (f := fun p : ByteArray × Int => str p.1) hl ?_).symm
    simp only [he]
theorem all_call_su (m : List (ByteArray × Int)) : PCall P 99 [q2g m] (fun x => x = .fn 122 [.rp [.sl 1 (m.map fun p => str p.1), .sl 1 (m.map fun p => u32 p.2)]]) := by
  refine q0d tyOk Tryz.func99 rfl rfl ?_
  intro K hK
  simp only [Tryz.ntmps99, List.length_cons, List.length_nil, Nat.reduceAdd, Nat.reduceSub, List.replicate, List.cons_append, List.nil_append]
  try simp only [seval, go_sem, q2g]
  apply hK
  simp only [Tryz.results99, retK, ares, q0r, AV.pure, Bool.and_self, Bool.and_true, Bool.true_and, AV.ofResults, St.trunc, q00, q01, List.getD_cons_zero, List.getD_cons_succ, List.take_zero, List.drop_zero, List.map_nil, List.getElem?_cons_zero, Nat.le_refl, true_and, and_true, ↓reduceIte, List.cons.injEq, exists_eq_left']
def q3i (m : List (ByteArray × Int)) : List (List AV) := m.map fun p => [str p.1, u32 p.2]
theorem pairs_pre_su {m : List (ByteArray × Int)} (i : Nat) : q3i (m.take i) <+: q3i m := (List.take_prefix i m).map _
theorem seq_su (m : List (ByteArray × Int)) (hlen : m.length ≤ 1000000) : ICall P 122 [.rp [.sl 1 (m.map fun p => str p.1), .sl 1 (m.map fun p => u32 p.2)]] (q3i m) := by
  refine icall_goY tyOk Tryz.func122 rfl rfl rfl ?_
  intro y K hK
  simp only [Tryz.ntmps122, List.length_cons, List.length_nil, Nat.reduceAdd, Nat.reduceSub, List.replicate, List.cons_append, List.nil_append]
  try simp only [seval, go_sem, List.length_map]
  refine loopY_rule tyOk (α := Nat) 0 [0, 1, 6, 7, 8] (fun i => i ≤ m.length)
    (fun i => ⟨[.v y, .rp [.sl 1 (m.map fun p => str p.1), .sl 1 (m.map fun p => u32 p.2)], .any, .any, .any, .any, .sl 1 (m.map fun p => str p.1), i64 m.length, i64 i, .any, .any, .any, .any, .any, .any, .any, .any, .any, .any, .any, .any, .any, .any], []⟩)
    (fun i => (q3i (m.take i), false)) (fun i => m.length - i) 0 (Nat.le_refl _) (Nat.zero_le _) rfl rfl ?_
  intro i hi
  try simp only [seval, go_sem]
  (first | refine q05 ?_ ?_ | refine q08 ?_ ?_ | refine q09 ?_ ?_ | refine q07 ?_ ?_ | refine q06 ?_ ?_) <;> intro h <;> try simp only [seval, go_sem]
  · have hlt : i < m.length := by simpa using h
    have e1 := q2e (f := fun p : ByteArray × Int => str p.1) hlt
    have e2 := q2e (f := fun p : ByteArray × Int => u32 p.2) hlt
    have c1 : (0 : Int) ≤ (i : Int) ∧ Int.toNat (i : Int) < m.length := by omega
    have ew : IntKind.i64.wrap ((i : Int) + 1) = ((i + 1 : Nat) : Int) := by rw [wrap_i64 (by omega) (by omega)]; rfl
    have e3 : q3i (m.take i) ++ [[str m[i].1, u32 m[i].2]] = q3i (m.take (i + 1)) := by
      rw [q1f hlt]; simp only [q3i, List.map_append, List.map_cons, List.map_nil]
    try simp only [seval, go_sem, e1, e2, c1, List.length_map]
    refine ⟨⟨by rw [e3]; exact pairs_pre_su _, rfl⟩, ?_⟩
    intro b
    cases b with
    | true =>
      try simp only [seval, go_sem, ew]
      simp only [q43, St.trunc, St.keep, q00, q01, keepV, List.elem_cons, List.elem_nil, List.take_zero, List.map_nil, Nat.reduceAdd, Nat.reduceBEq, Nat.zero_add, Bool.false_eq_true, ↓reduceIte]
      exact ⟨i + 1, hlt, by omega, rfl, by rw [e3]⟩
    | false =>
      try simp only [seval, go_sem]
      exact hK _ _ _ (itK_ret ⟨by rw [e3]; exact pairs_pre_su _, fun h => by cases h⟩)
  · have hge : i = m.length := by have : ¬ ((i : Int) < (m.length : Int)) := by simpa using h
                                  omega
    subst hge
    refine hK _ _ _ (itK_normal ⟨pairs_pre_su _, fun _ => by rw [List.take_length]⟩)
theorem get_call_su (m : List (ByteArray × Int)) (k : ByteArray) (hr : q2h m) (hlen : m.length ≤ 1000000) :
    PCall P 73 [q2g m, str k] (fun x => x = .tup [u32 (getG ltS eqS 0 m k).1, bool (getG ltS eqS 0 m k).2]) := by
  refine q0d tyOk Tryz.func73 rfl rfl ?_
  intro K hK
  simp only [Tryz.ntmps73, List.length_cons, List.length_nil, Nat.reduceAdd, Nat.reduceSub, List.replicate, List.cons_append, List.nil_append]
  have hfind := find_su m k hr hlen
  unfold q2g at hfind
  try simp only [seval, go_sem, q2g]
  (refine q02 hfind rfl ?_; rintro _ rfl)
  unfold getG at hK
  cases hh : hasAt ltS eqS (m.map Prod.fst) k
  · rw [hh] at hK
    try simp only [seval, go_sem]
    apply hK
    simp only [Tryz.results73, retK, ares, Bool.and_true, Bool.true_and, AV.ofResults, St.trunc, q00, q01, List.getD_cons_zero, List.getD_cons_succ, List.take_zero, List.map_nil, true_and, and_true, ↓reduceIte, Bool.false_eq_true, List.cons.injEq, exists_eq_left']
  · rw [hh] at hK
    have hl := lb_len_su hh
    have eg : (m.map fun p => u32 p.2).getD (Int.toNat ((lb ltS (m.map Prod.fst) k : Nat) : Int)) .any = u32 ((m.map Prod.snd).getD (lb ltS (m.map Prod.fst) k) 0) := by
      rw [q2e hl, List.getD_eq_getElem?_getD, List.getElem?_map, List.getElem?_eq_getElem hl]; rfl
    have k1 : (0 : Int) ≤ ((lb ltS (m.map Prod.fst) k : Nat) : Int) ∧ Int.toNat ((lb ltS (m.map Prod.fst) k : Nat) : Int) < m.length := by omega
    try simp only [seval, go_sem, eg, k1, List.length_map]
    apply hK
    simp only [Tryz.results73, retK, ares, Bool.and_true, Bool.true_and, AV.ofResults, St.trunc, q00, q01, List.getD_cons_zero, List.getD_cons_succ, List.take_zero, List.map_nil, true_and, and_true, ↓reduceIte, List.cons.injEq, exists_eq_left']
theorem without_call_su (m : List (ByteArray × Int)) (k : ByteArray) (hr : q2h m) (hlen : m.length ≤ 900000) :
    PCall P 75 [q2g m, str k] (fun x => x = q2g (q1e ltS eqS m k)) := by
  refine q0d tyOk Tryz.func75 rfl rfl ?_
  intro K hK
  simp only [Tryz.ntmps75, List.length_cons, List.length_nil, Nat.reduceAdd, Nat.reduceSub, List.replicate, List.cons_append, List.nil_append]
  have hfind := find_su m k hr (by omega)
  unfold q2g at hfind
  try simp only [seval, go_sem, q2g]
  (refine q02 hfind rfl ?_; rintro _ rfl)
  unfold q1e at hK
  have lm1 : (m.map fun p => str p.1).length ≤ 1000000 := by rw [List.length_map]; omega
  have lm2 : (m.map fun p => u32 p.2).length ≤ 1000000 := by rw [List.length_map]; omega
  cases hh : hasAt ltS eqS (m.map Prod.fst) k
  · rw [hh] at hK
    try simp only [seval, go_sem]
    apply hK
    simp only [Tryz.results75, retK, ares, List.take_nil, Bool.and_true, Bool.true_and, AV.ofResults, St.trunc, q00, q01, aload, acell, T, TI.isAgg, List.getD_cons_zero, List.getD_cons_succ, List.take_zero, List.take_succ_cons, List.drop_zero, List.map_nil, List.getElem?_cons_zero, List.getElem?_cons_succ, List.length_cons, List.length_nil, Nat.reduceAdd, Nat.le_refl, true_and, and_true, ↓reduceIte, Bool.false_eq_true, List.cons.injEq, exists_eq_left']
    rfl
  · rw [hh] at hK
    have hl := lb_len_su hh
    have w1 : IntKind.i64.wrap (((lb ltS (m.map Prod.fst) k : Nat) : Int) + 1) = ((lb ltS (m.map Prod.fst) k + 1 : Nat) : Int) := by rw [wrap_i64 (by omega) (by omega)]; rfl
    try simp only [seval, go_sem]
    refine q0k tyOk (by rfl) (by simp only [List.length_cons, List.length_nil, Nat.reduceAdd, Nat.zero_le]) (by kernel_rfl) rfl ?_
    try simp only [seval, go_sem, w1]
    refine q26 (clone_str _ lm1) rfl rfl ?_
    try simp only [seval, go_sem, w1]
    refine drawCall_on (delete_str _ (lb ltS (m.map Prod.fst) k) (by rw [List.length_map]; exact hl) lm1) 2 rfl rfl rfl rfl rfl ?_
    try simp only [seval, go_sem, w1]
    refine q26 (clone_u32 _ lm2) rfl rfl ?_
    try simp only [seval, go_sem, w1]
    refine drawCall_on (delete_u32 _ (lb ltS (m.map Prod.fst) k) (by rw [List.length_map]; exact hl) lm2) 3 rfl rfl rfl rfl rfl ?_
    try simp only [seval, go_sem, w1]
    refine ⟨by kernel_rfl, ?_⟩
    try simp only [seval, go_sem]
    apply hK
    simp only [Tryz.results75, retK, ares, List.take_nil, Bool.and_true, Bool.true_and, AV.ofResults, St.trunc, q00, q01, aload, acell, T, TI.isAgg, List.getD_cons_zero, List.getD_cons_succ, List.take_zero, List.take_succ_cons, List.drop_zero, List.map_nil, List.getElem?_cons_zero, List.getElem?_cons_succ, List.length_cons, List.length_nil, Nat.reduceAdd, Nat.reduceLeDiff, Nat.le_refl, true_and, and_true, ↓reduceIte, List.cons.injEq, exists_eq_left']
    rw [cut_last (by rw [List.length_map]; exact hl), cut_last (by rw [List.length_map]; exact hl)]
    simp only [q2g, List.map_append, List.map_take, List.map_drop]
end Go.Proofs.YtdkcpcflfnakdaaGreat
