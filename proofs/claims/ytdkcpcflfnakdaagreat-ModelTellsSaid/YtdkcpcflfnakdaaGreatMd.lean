/- The base of the laws of this seat: texts of this session, joined by a program. -/
import Derived.Test.YtdkcpcflfnakdaaGreatMc
import Derived.Test.YtdkcpcflfnakdaaGreatMa
import Derived.Test.YtdkcpcflfnakdaaGreatSymZf
namespace Go.Proofs.YtdkcpcflfnakdaaGreat
open Go Go.Proofs.YtdkcpcflfnakdaaGreat.Sym
attribute [-sevalprocAttr] Int.reduceToNat Int.reduceNatCast Int.reduceNatCast' Nat.reduceSubDiff
set_option maxRecDepth 100000
set_option maxHeartbeats 1000000
set_option linter.unusedSimpArgs false
set_option linter.unusedVariables false

theorem write_call (n : Nat) (m : Bk) (o : Opb) (now most : Int) (h : bookOk n m) (hn : n ≤ 700000) :
    PCall P 66 [q10 m, o.av, u64 now, i64 most] (fun x => x = .tup [q10 (writeB m o now most), .sl 7 (chgs (writeC m o now most)), i64 (q2s m o now most).2]) := by
  refine q0r tyOk Tryz.func66 rfl rfl ?_
  intro K hK
  simp only [Tryz.ntmps66, List.length_cons, List.length_nil, Nat.reduceAdd, Nat.reduceSub, List.replicate, List.cons_append, List.nil_append]
  obtain ⟨hw1, hw2⟩ := was_ok h o.u
  have hlv := lives_up hw1 now
  have hll : (lives now (wasOf m o.u).l).length ≤ (wasOf m o.u).l.length := List.length_filter_le _ _
  have hok := writeL_ok h o now most
  have hml := h.2.1
  try simp (maxSteps := 1000000) only [seval, q10, Opb.av]
  (refine q07 (get_open m o.u h.1 (by omega)) rfl ?_; rintro _ rfl)
  try simp (maxSteps := 1000000) only [seval]
  (refine q07 (sess_Purge (wasOf m o.u).l now (by omega)) rfl ?_; rintro _ rfl)
  try simp (maxSteps := 1000000) only [seval]
  (refine q07 (tick_Add now o.ttl) rfl ?_; rintro _ rfl)
  try simp (maxSteps := 1000000) only [seval]
  (first | refine q0g ?_ ?_ | refine q0k ?_ ?_ | refine q0l ?_ ?_ | refine q0m ?_ ?_ | refine q0h ?_ ?_) <;> intro h1
  · have k1 : o.kind = 1 := by simpa using h1
    obtain ⟨⟨L, e⟩, hL⟩ : ∃ r, q2s m o now most = r := ⟨_, rfl⟩
    have hS := sess_Set (lives now (wasOf m o.u).l) ⟨o.id, o.st, o.pr, addW now o.ttl⟩ most hlv (by omega)
    have e1 : setF (lives now (wasOf m o.u).l) ⟨o.id, o.st, o.pr, addW now o.ttl⟩ most = (L, e) := by rw [← hL, q2s]; simp only [k1, if_true]
    rw [e1] at hS
    rw [hL] at hok hK
    simp only at hok
    try simp (maxSteps := 1000000) only [seval]
    (refine q07 hS rfl ?_; rintro _ rfl)
    try simp (maxSteps := 1000000) only [seval]
    (refine q07 (q5a m o.u L now h.1 (by omega) (by omega)) rfl ?_; rintro _ rfl)
    try simp (maxSteps := 1000000) only [seval, q10]
    apply hK
    simp only [Tryz.results66, retK, ares, List.take_nil, Bool.and_true, Bool.true_and, AV.ofResults, St.trunc, q00, q01, aload, acell, T, TI.isAgg, List.getD_cons_zero, List.getD_cons_succ, List.take_zero, List.take_succ_cons, List.drop_zero, List.map_nil, List.getElem?_cons_zero, List.getElem?_cons_succ, List.length_cons, List.length_nil, Nat.reduceAdd, Nat.le_refl, true_and, and_true, ↓reduceIte, List.cons.injEq, exists_eq_left']
    rw [writeB, writeC, hL]
    try rfl
  · have k1 : ¬ o.kind = 1 := by simpa using h1
    try simp (maxSteps := 1000000) only [seval]
    (first | refine q0g ?_ ?_ | refine q0k ?_ ?_ | refine q0l ?_ ?_ | refine q0m ?_ ?_ | refine q0h ?_ ?_) <;> intro h2
    · have k2 : o.kind = 2 := by simpa using h2
      obtain ⟨⟨L, e⟩, hL⟩ : ∃ r, q2s m o now most = r := ⟨_, rfl⟩
      have hS := sess_Beat (lives now (wasOf m o.u).l) o.id (addW now o.ttl) hlv (by omega)
      have e1 : beatF (lives now (wasOf m o.u).l) o.id (addW now o.ttl) = (L, e) := by rw [← hL, q2s]; simp only [if_neg k1, if_pos k2]
      rw [e1] at hS
      rw [hL] at hok hK
      simp only at hok
      try simp (maxSteps := 1000000) only [seval]
      (refine q07 hS rfl ?_; rintro _ rfl)
      try simp (maxSteps := 1000000) only [seval]
      (refine q07 (q5a m o.u L now h.1 (by omega) (by omega)) rfl ?_; rintro _ rfl)
      try simp (maxSteps := 1000000) only [seval, q10]
      apply hK
      simp only [Tryz.results66, retK, ares, List.take_nil, Bool.and_true, Bool.true_and, AV.ofResults, St.trunc, q00, q01, aload, acell, T, TI.isAgg, List.getD_cons_zero, List.getD_cons_succ, List.take_zero, List.take_succ_cons, List.drop_zero, List.map_nil, List.getElem?_cons_zero, List.getElem?_cons_succ, List.length_cons, List.length_nil, Nat.reduceAdd, Nat.le_refl, true_and, and_true, ↓reduceIte, List.cons.injEq, exists_eq_left']
      rw [writeB, writeC, hL]
      try rfl
    · have k2 : ¬ o.kind = 2 := by simpa using h2
      try simp (maxSteps := 1000000) only [seval]
      (first | refine q0g ?_ ?_ | refine q0k ?_ ?_ | refine q0l ?_ ?_ | refine q0m ?_ ?_ | refine q0h ?_ ?_) <;> intro h3
      · have k3 : o.kind = 3 := by simpa using h3
        obtain ⟨⟨L, e⟩, hL⟩ : ∃ r, q2s m o now most = r := ⟨_, rfl⟩
        have hS := sess_Clear (lives now (wasOf m o.u).l) o.id hlv (by omega)
        have e1 : (clear (lives now (wasOf m o.u).l) o.id, if has (lives now (wasOf m o.u).l) o.id = true then (0 : Int) else 3) = (L, e) := by rw [← hL, q2s]; simp only [if_neg k1, if_neg k2, if_pos k3]
        have e2 := congrArg Prod.fst e1
        have e3 := congrArg Prod.snd e1
        simp only at e2 e3
        rw [e2, e3] at hS
        rw [hL] at hok hK
        simp only at hok
        try simp (maxSteps := 1000000) only [seval]
        (refine q07 hS rfl ?_; rintro _ rfl)
        try simp (maxSteps := 1000000) only [seval]
        (refine q07 (q5a m o.u L now h.1 (by omega) (by omega)) rfl ?_; rintro _ rfl)
        try simp (maxSteps := 1000000) only [seval, q10]
        apply hK
        simp only [Tryz.results66, retK, ares, List.take_nil, Bool.and_true, Bool.true_and, AV.ofResults, St.trunc, q00, q01, aload, acell, T, TI.isAgg, List.getD_cons_zero, List.getD_cons_succ, List.take_zero, List.take_succ_cons, List.drop_zero, List.map_nil, List.getElem?_cons_zero, List.getElem?_cons_succ, List.length_cons, List.length_nil, Nat.reduceAdd, Nat.le_refl, true_and, and_true, ↓reduceIte, List.cons.injEq, exists_eq_left']
        rw [writeB, writeC, hL]
        try rfl
      · have k3 : ¬ o.kind = 3 := by simpa using h3
        obtain ⟨⟨L, e⟩, hL⟩ : ∃ r, q2s m o now most = r := ⟨_, rfl⟩
        have e1 : (lives now (wasOf m o.u).l, (0 : Int)) = (L, e) := by rw [← hL, q2s]; simp only [if_neg k1, if_neg k2, if_neg k3]
        have e2 := congrArg Prod.fst e1
        have e3 := congrArg Prod.snd e1
        simp only at e2 e3
        rw [hL] at hok hK
        simp only at hok
        rw [e2]
        rw [← e3] at hK
        rw [← e3] at hL
        try simp (maxSteps := 1000000) only [seval]
        (refine q07 (q5a m o.u L now h.1 (by omega) (by omega)) rfl ?_; rintro _ rfl)
        try simp (maxSteps := 1000000) only [seval, q10]
        apply hK
        simp only [Tryz.results66, retK, ares, List.take_nil, Bool.and_true, Bool.true_and, AV.ofResults, St.trunc, q00, q01, aload, acell, T, TI.isAgg, List.getD_cons_zero, List.getD_cons_succ, List.take_zero, List.take_succ_cons, List.drop_zero, List.map_nil, List.getElem?_cons_zero, List.getElem?_cons_succ, List.length_cons, List.length_nil, Nat.reduceAdd, Nat.le_refl, true_and, and_true, ↓reduceIte, List.cons.injEq, exists_eq_left']
        rw [writeB, writeC, hL]
        try rfl

def q3z (now : Int) (s : Bk × List Chg) (p : ByteArray × En) : Bk × List Chg :=
  (q21 s.1 p.1 (lives now p.2.l) now, s.2 ++ q3h s.1 p.1 (lives now p.2.l) now)
def q1q (m : Bk) (now : Int) : Bk × List Chg := m.foldl (q3z now) (m, [])
def q16 (m : Bk) (now : Int) (i : Nat) : Bk × List Chg := (m.take i).foldl (q3z now) (m, [])
theorem sweep_next {m : Bk} {now : Int} {i : Nat} (h : i < m.length) : q16 m now (i + 1) = q3z now (q16 m now i) m[i] := by
  rw [q16, q23 h, List.foldl_append]; rfl
theorem q5d {m : Bk} (h : q1w m) (u : ByteArray) (l : List Ses) (now : Int) : q1w (q21 m u l now) ∧ (q21 m u l now).length ≤ m.length + 1 := by
  unfold q21
  split
  · exact ⟨without_rises ordS q0x h _, Nat.le_succ_of_le (without_len _ _)⟩
  · exact ⟨with_rises ordS q0x h _ _, with_len _ _ _⟩
theorem settleC_len (m : Bk) (u : ByteArray) (l : List Ses) (now : Int) : (q3h m u l now).length ≤ 1 := by
  unfold q3h; split <;> simp
theorem q49 {m : Bk} (h : q1w m) (now : Int) : ∀ i, q1w (q16 m now i).1 ∧ (q16 m now i).1.length ≤ m.length + i ∧ (q16 m now i).2.length ≤ i := by
  intro i
  induction i with
  | zero => exact ⟨h, Nat.le_refl _, Nat.le_refl _⟩
  | succ i ih =>
    by_cases hi : i < m.length
    · rw [sweep_next hi]
      have h1 := q5d ih.1 m[i].1 (lives now m[i].2.l) now
      have h2 := settleC_len (q16 m now i).1 m[i].1 (lives now m[i].2.l) now
      refine ⟨h1.1, ?_, ?_⟩
      · have := h1.2; simp only [q3z]; omega
      · simp only [q3z, List.length_append]; omega
    · have e : q16 m now (i + 1) = q16 m now i := by
        rw [q16, q16, List.take_of_length_le (by omega), List.take_of_length_le (by omega)]
      rw [e]
      exact ⟨ih.1, by omega, by omega⟩
abbrev ebox (m : Bk) : AB := .box [.sl 1 (m.map fun p => str p.1), .sl 4 (m.map fun p => En.av p.2)]
theorem sweep_call (n : Nat) (m : Bk) (now : Int) (h : bookOk n m) (hn : n ≤ 200000) :
    PCall P 63 [q10 m, u64 now] (fun x => x = .tup [q10 (q1q m now).1, .sl 7 (chgs (q1q m now).2)]) := by
  refine pcall_goY tyOk Tryz.func63 rfl rfl ?_
  intro K hK
  simp only [Tryz.ntmps63, List.length_cons, List.length_nil, Nat.reduceAdd, Nat.reduceSub, List.replicate, List.cons_append, List.nil_append]
  have hall := all_call_se m
  unfold q10 at hall
  have hml := h.2.1
  try simp (maxSteps := 1000000) only [seval, q10]
  (refine q07 hall rfl ?_; rintro _ rfl)
  try simp (maxSteps := 1000000) only [seval]
  refine restY_turn (Turns.adoptIn (b := 3) (c := 0) 163 7 rfl rfl) ?_
  refine range_rule tyOk (seq_se m (by omega)) (α := Nat) 5 6 [2, 3, 4, 6, 7] ([.any, .any, .ptr 0 0, .ptr 1 0, .ptr 2 0, .any, .ptr 3 0, .ptr 4 0, .any, .any, .any, .any, .any, .any, .any, .any, .any, .any, .any, .any, .any, .any, .any, .any, .any, .any, .any, .any, .any, .any, .any, .any]) (fun xs i => i = xs.length ∧ i ≤ m.length)
    (fun i => [ebox m, .box [u64 now], .box [.v (.slice none 0 0), .v (.slice none 0 0)], .box [.own 5 7 0 (q16 m now i).2.length], ebox (q16 m now i).1, .row 163 7 (chgs (q16 m now i).2)]) 0 rfl rfl
    (fun x hx => by simp only [q33, List.mem_map] at hx; obtain ⟨p, _, rfl⟩ := hx; rfl) (Nat.zero_le _) (by decide) (by rfl) ⟨rfl, Nat.zero_le _⟩ rfl ?_ ?_
  · rintro xs x _ hpre ⟨rfl, hle⟩
    obtain ⟨hi, _, rfl⟩ := q55 hpre
    have hs := q49 h.1 now xs.length
    have hs2 := q49 h.1 now (xs.length + 1)
    have hnx := sweep_next (now := now) hi
    have hel := (h.2.2 _ (List.getElem_mem hi)).2
    have ev0 : En.av m[xs.length].2 = .agg [.sl 4 (avs m[xs.length].2.l), i64 m[xs.length].2.t.st, i64 m[xs.length].2.t.pr, i64 m[xs.length].2.t.n] := rfl
    obtain ⟨s, hO⟩ : ∃ s, q16 m now xs.length = s := ⟨_, rfl⟩
    rw [hO] at hnx hs
    rw [hnx] at hs2
    simp only [hO]
    generalize m[xs.length] = p at *
    have hll : (lives now p.2.l).length ≤ p.2.l.length := List.length_filter_le _ _
    have hst := q5a s.1 p.1 (lives now p.2.l) now hs.1 (by omega) (by omega)
    have hcl := settleC_len s.1 p.1 (lives now p.2.l) now
    unfold q10 at hst
    try simp (maxSteps := 1000000) only [seval, ev0]
    refine q0w tyOk (by rfl) (by simp only [List.length_cons, List.length_nil, Nat.reduceAdd, Nat.reduceLeDiff]) (by kernel_rfl) rfl ?_
    try simp (maxSteps := 1000000) only [seval]
    refine q3y (sess_Purge p.2.l now (by omega)) rfl ?_
    try simp (maxSteps := 1000000) only [seval]
    refine q3y hst rfl ?_
    try simp (maxSteps := 1000000) only [seval]
    refine ⟨by kernel_rfl, ?_⟩
    try simp (maxSteps := 1000000) only [seval, chgs_len]
    refine ⟨⟨by simp only [maxLen]; omega, by omega⟩, ?_⟩
    try simp (maxSteps := 1000000) only [seval]
    simp only [q2z, St.trunc, q00, q01, AB.trunc, q15, AV.pure, Bool.and_self, List.drop_zero, List.take_succ_cons, List.take_zero, List.map_cons, List.map_nil, List.getElem?_cons_zero, List.getElem?_cons_succ, Nat.reduceLeDiff, Nat.le_refl, ↓reduceIte]
    refine ⟨xs.length + 1, ⟨by first | rfl | simp, by omega⟩, ?_⟩
    rw [hnx]
    simp only [q3z, List.length_append, chgs, List.map_append]
  · rintro _ ⟨rfl, hle⟩
    have e1 : (q33 m).length = m.length := by simp [q33]
    have e2 : q16 m now m.length = q1q m now := by rw [q16, List.take_length, q1q]
    rw [e1, e2]
    try simp (maxSteps := 1000000) only [seval]
    refine q0w tyOk (by rfl) (by simp only [List.length_cons, List.length_nil, Nat.reduceAdd, Nat.zero_le]) (by kernel_rfl) rfl ?_
    try simp (maxSteps := 1000000) only [seval]
    refine ⟨by kernel_rfl, ?_⟩
    try simp (maxSteps := 1000000) only [seval]
    apply hK
    simp only [Tryz.results63, retK, ares, List.take_nil, Bool.and_true, Bool.true_and, AV.ofResults, St.trunc, q00, q01, aload, acell, T, TI.isAgg, List.getD_cons_zero, List.getD_cons_succ, List.take_zero, List.take_succ_cons, List.drop_zero, List.map_nil, List.getElem?_cons_zero, List.getElem?_cons_succ, List.length_cons, List.length_nil, Nat.reduceAdd, Nat.reduceLeDiff, Nat.le_refl, true_and, and_true, ↓reduceIte, List.cons.injEq, exists_eq_left']
    rw [q2h (chgs_len _)]
    try rfl
end Go.Proofs.YtdkcpcflfnakdaaGreat
namespace Go.Proofs.YtdkcpcflfnakdaaGreat
open Go Go.Proofs.YtdkcpcflfnakdaaGreat.Sym
attribute [-sevalprocAttr] Int.reduceToNat Int.reduceNatCast Int.reduceNatCast' Nat.reduceSubDiff
set_option maxRecDepth 100000
set_option maxHeartbeats 1000000
set_option linter.unusedSimpArgs false
set_option linter.unusedVariables false

section
variable {α β : Type} {lt eq : α → α → Bool}
theorem mid_parts (O : StrictOrd lt) {A D : List (α × β)} {k : α} {x : β} (h : q2r lt (A ++ (k, x) :: D)) :
    (∀ p ∈ A, lt p.1 k = true ∧ lt k p.1 = false) ∧ (∀ p ∈ D, lt k p.1 = true ∧ lt p.1 k = false) := by
  have hp := List.pairwise_append.1 (q35.1 h)
  have hc := List.pairwise_cons.1 hp.2.1
  have anti : ∀ a b, lt a b = true → lt b a = false := fun a b hab => by
    cases hb : lt b a with
    | false => rfl
    | true => have := O.trans _ _ _ hab hb; rw [O.irrefl] at this; cases this
  exact ⟨fun p hpA => by have := hp.2.2 p hpA (k, x) List.mem_cons_self; exact ⟨this, anti _ _ this⟩, fun p hpD => ⟨hc.1 p hpD, anti _ _ (hc.1 p hpD)⟩⟩
theorem with_mid (O : StrictOrd lt) (he : ∀ a b, eq a b = true ↔ a = b) {A D : List (α × β)} {k : α} {x : β} (v : β) (h : q2r lt (A ++ (k, x) :: D)) :
    withG lt eq (A ++ (k, x) :: D) k v = A ++ (k, v) :: D := by
  obtain ⟨hA, hD⟩ := mid_parts O h
  rw [with_eq O he h, List.filter_append, List.filter_append, List.filter_cons, List.filter_cons, O.irrefl, q3s (fun p hp => (hA p hp).1), filter_none' (l := D) (fun p hp => (hD p hp).2),
    filter_none' (l := A) (fun p hp => (hA p hp).2), q3s (fun p hp => (hD p hp).1)]
  simp
theorem without_mid (O : StrictOrd lt) (he : ∀ a b, eq a b = true ↔ a = b) {A D : List (α × β)} {k : α} {x : β} (h : q2r lt (A ++ (k, x) :: D)) :
    q1x lt eq (A ++ (k, x) :: D) k = A ++ D := by
  obtain ⟨hA, hD⟩ := mid_parts O h
  have ne : ∀ a b, (lt a b = true ∨ lt b a = true) → eq a b = false := fun a b hab => by
    cases hb : eq a b with
    | false => rfl
    | true =>
      have := (he _ _).1 hb
      subst this
      rw [O.irrefl] at hab; simp at hab
  rw [q3n O he h, List.filter_append, List.filter_cons, q3s (l := A) (fun p hp => by rw [ne _ _ (.inl (hA p hp).1)]; rfl), q3s (l := D) (fun p hp => by rw [ne _ _ (.inr (hD p hp).1)]; rfl), (he k k).2 rfl]
  simp
end

def sweptE (now : Int) (p : ByteArray × En) : Option (ByteArray × En) := if (lives now p.2.l).length = 0 then none else some (p.1, ⟨lives now p.2.l, ofP (lives now p.2.l) now⟩)
theorem sweepTo_eq {m : Bk} (h : q1w m) (now : Int) : ∀ i, (q16 m now i).1 = (m.take i).filterMap (sweptE now) ++ m.drop i := by
  intro i
  induction i with
  | zero => rfl
  | succ i ih =>
    by_cases hi : i < m.length
    · have hr := (q49 h now i).1
      rw [ih, List.drop_eq_getElem_cons hi] at hr
      rw [sweep_next hi, q3z, ih, q23 hi, List.filterMap_append, List.drop_eq_getElem_cons hi]
      simp only
      generalize (m.take i).filterMap (sweptE now) = A at hr ⊢
      generalize m.drop (i + 1) = D at hr ⊢
      generalize m[i] = p at hr ⊢
      obtain ⟨k, e⟩ := p
      unfold q21
      by_cases hl : (lives now e.l).length = 0
      · rw [if_pos hl, without_mid ordS q0x hr]
        simp [sweptE, hl]
      · rw [if_neg hl, with_mid ordS q0x _ hr]
        simp [sweptE, hl]
    · have e : q16 m now (i + 1) = q16 m now i := by
        rw [q16, q16, List.take_of_length_le (by omega), List.take_of_length_le (by omega)]
      rw [e, ih, List.take_of_length_le (by omega), List.take_of_length_le (l := m) (by omega), List.drop_of_length_le (by omega), List.drop_of_length_le (by omega)]
theorem sweepF_eq {m : Bk} (h : q1w m) (now : Int) : (q1q m now).1 = m.filterMap (sweptE now) := by
  have := sweepTo_eq h now m.length
  rw [List.take_length, List.drop_length, List.append_nil] at this
  rw [← this, q16, List.take_length, q1q]
theorem swept_mem {m : Bk} {now : Int} {p : ByteArray × En} (h : p ∈ m.filterMap (sweptE now)) : ∃ q ∈ m, p = (q.1, ⟨lives now q.2.l, ofP (lives now q.2.l) now⟩) ∧ (lives now q.2.l).length ≠ 0 := by
  obtain ⟨q, hq, he⟩ := List.mem_filterMap.1 h
  unfold sweptE at he
  split at he
  · cases he
  · rename_i hn; cases he; exact ⟨q, hq, rfl, hn⟩
theorem book_sweep {n : Nat} {m : Bk} (h : bookOk n m) (now : Int) : bookOk n (q1q m now).1 := by
  have e := sweepF_eq h.1 now
  have hr := (q49 h.1 now m.length).1
  rw [show q16 m now m.length = q1q m now by rw [q16, List.take_length, q1q]] at hr
  refine ⟨hr, ?_, ?_⟩
  · rw [e]; exact Nat.le_trans (List.length_filterMap_le _ _) h.2.1
  · intro p hp
    rw [e] at hp
    obtain ⟨q, hq, rfl, _⟩ := swept_mem hp
    have := h.2.2 q hq
    exact ⟨lives_up this.1 now, Nat.le_trans (List.length_filter_le _ _) this.2⟩
theorem settle_mem {m : Bk} (hr : q1w m) {u : ByteArray} {l : List Ses} {now : Int} {p : ByteArray × En} (h : p ∈ q21 m u l now) : p ∈ m ∨ (p = (u, ⟨l, ofP l now⟩) ∧ l.length ≠ 0) := by
  unfold q21 at h
  split at h
  · rw [q3n ordS q0x hr] at h
    exact .inl (List.mem_filter.1 h).1
  · rename_i hn
    rcases (mem_with ordS q0x hr).1 h with h | h
    · exact .inr ⟨h, hn⟩
    · exact .inl h.1
theorem book_write {n : Nat} {m : Bk} (h : bookOk n m) (o : Opb) (now most : Int) : bookOk (n + 1) (writeB m o now most) := by
  have hs := q5d h.1 o.u (q2s m o now most).1 now
  refine ⟨hs.1, Nat.le_trans hs.2 (by have := h.2.1; omega), ?_⟩
  intro p hp
  rcases settle_mem h.1 hp with hp | ⟨rfl, _⟩
  · have := h.2.2 p hp; exact ⟨this.1, by omega⟩
  · exact writeL_ok h o now most
theorem bookOk.mono {n k : Nat} {m : Bk} (h : bookOk n m) (hk : n ≤ k) : bookOk k m := ⟨h.1, Nat.le_trans h.2.1 hk, fun p hp => ⟨(h.2.2 p hp).1, Nat.le_trans (h.2.2 p hp).2 hk⟩⟩

structure ActB where
  sw : Bool
  op : Opb
  by_ : Int
def ActB.av (a : ActB) : AV := .agg [bool a.sw, i64 a.op.kind, str a.op.u, i64 a.op.id, i64 a.op.st, i64 a.op.pr, u64 a.op.ttl, .sl 1 (a.op.us.map fun x => str x), u64 a.by_]
theorem nil_se : weak (.agg [.v (.slice none 0 0), .v (.slice none 0 0)]) (q10 []) := .inr ⟨_, rfl, _, _, rfl, weak_nil 1, _, _, rfl, weak_nil 4, rfl⟩
end Go.Proofs.YtdkcpcflfnakdaaGreat
namespace Go.Proofs.YtdkcpcflfnakdaaGreat
open Go Go.Proofs.YtdkcpcflfnakdaaGreat.Sym
attribute [-sevalprocAttr] Int.reduceToNat Int.reduceNatCast Int.reduceNatCast' Nat.reduceSubDiff
set_option maxRecDepth 100000
set_option maxHeartbeats 1000000
set_option linter.unusedSimpArgs false
set_option linter.unusedVariables false

abbrev u32 (n : Int) : AV := .v (.int .u32 n)
theorem clone_u32 (xs : List AV) (hlen : xs.length ≤ 1000000) :
    ACall P 105 [] [.sl 1 xs] (fun x m' => x = .own 0 1 0 xs.length ∧ m' = [.row 130 1 xs]) := by
  have hm : xs.length ≤ maxLen := by simp only [maxLen]; omega
  have hby : xs.length * 4 ≤ 140737488355328 := by omega
  by_cases h0 : xs = []
  · subst h0
    refine ACall.empty fun a cap => ?_
    cases a with
    | none =>
      refine ACall.weaken (K := fun x m' => x = .v (.slice none 0 0) ∧ m' = []) (q0s.toA (q1z tyOk Tryz.func105 rfl rfl (N := 0) (M := 1) (Nat.zero_le _) (by simp) ?_)) ?_
      · intro K hK
        simp only [Tryz.ntmps105, List.length_cons, List.length_nil, Nat.reduceAdd, Nat.reduceSub, List.replicate, List.cons_append, List.nil_append]
        try simp (maxSteps := 1000000) only [seval]
        apply hK
        simp only [Tryz.results105, retK, ares, List.take_nil, Bool.and_true, AV.ofResults, St.trunc, q00, q01, List.getD_cons_zero, List.getD_cons_succ, List.map_nil, and_true, List.cons.injEq, exists_eq_left']
      · rintro x m' ⟨rfl, rfl⟩
        exact ⟨_, _, Turns.adopt (i := 0) 130 1 rfl, rfl, rfl⟩
    | some a =>
      refine q0s.toA (q1z tyOk Tryz.func105 rfl rfl (N := 0) (M := 1) (Nat.zero_le _) (by simp) ?_)
      intro K hK
      simp only [Tryz.ntmps105, List.length_cons, List.length_nil, Nat.reduceAdd, Nat.reduceSub, List.replicate, List.cons_append, List.nil_append]
      try simp (maxSteps := 1000000) only [seval]
      apply hK
      simp only [Tryz.results105, retK, ares, List.take_nil, Bool.and_true, AV.ofResults, St.trunc, q00, q01, AB.trunc, List.getD_cons_zero, List.getD_cons_succ, List.take_succ_cons, List.map_nil, List.map_cons, List.length_nil, Nat.reduceLeDiff, and_true, ↓reduceIte, List.cons.injEq, exists_eq_left']
  · have hpos : 0 < xs.length := List.length_pos_iff.2 h0
    refine q0s.toA (q1z tyOk Tryz.func105 rfl rfl (N := 0) (M := 1) (Nat.zero_le _) (by simp) ?_)
    intro K hK
    simp only [Tryz.ntmps105, List.length_cons, List.length_nil, Nat.reduceAdd, Nat.reduceSub, List.replicate, List.cons_append, List.nil_append]
    try simp (maxSteps := 1000000) only [seval, hpos]
    refine ⟨⟨hm, hby⟩, ?_⟩
    try simp (maxSteps := 1000000) only [seval]
    apply hK
    simp only [Tryz.results105, retK, ares, List.take_nil, Bool.and_true, AV.ofResults, St.trunc, q00, q01, AB.trunc, List.getD_cons_zero, List.getD_cons_succ, List.take_succ_cons, List.map_nil, List.map_cons, Nat.reduceLeDiff, and_true, ↓reduceIte, List.cons.injEq, exists_eq_left']

theorem delete_u32 (xs : List AV) (i : Nat) (hi : i < xs.length) (hlen : xs.length ≤ 1000000) :
    ACall P 104 [.row 130 1 xs] [.own 0 1 0 xs.length, i64 (i : Int), i64 ((i + 1 : Nat) : Int)] (fun x m' => x = .own 0 1 0 (xs.length - 1) ∧ m' = [.row 130 1 (xs.take i ++ xs.drop (i + 1) ++ [u32 0])]) := by
  refine ACall.weaken (K := fun x m' => x = .own 0 1 0 (xs.length - 1) ∧ ∃ N, m' = [.rowc 130 1 (xs.take i ++ xs.drop (i + 1) ++ [u32 0]) N]) (q0s.toA (m := [_]) (q0s.room (by decide) fun N hN _ => ?_)) ?_
  · refine q2y tyOk Tryz.func104 rfl rfl (by simp) ?_
    intro K hK
    simp only [Tryz.ntmps104, List.length_cons, List.length_nil, Nat.reduceAdd, Nat.reduceSub, List.replicate, List.cons_append, List.nil_append]
    have f1 : ((i : Int) == ((i + 1 : Nat) : Int)) = false := by simp; omega
    try simp (maxSteps := 1000000) only [seval, Int.toNat_natCast, f1]
    refine ⟨by omega, ?_⟩
    by_cases he : i + 1 = xs.length
    · have e1 : (xs.take i ++ xs.drop i).length = xs.length := by rw [List.take_append_drop]
      have e2 : ((xs.take i ++ xs.drop i).take i ++ List.replicate (xs.length - i) (u32 0)) ++ (xs.take i ++ xs.drop i).drop (i + (xs.length - i)) = xs.take i ++ xs.drop (i + 1) ++ [u32 0] := by
        rw [List.take_append_drop, List.drop_of_length_le (by omega), List.drop_of_length_le (by omega), show xs.length - i = 1 by omega, List.append_nil, List.append_nil]
        rfl
      have hni : ¬ i = xs.length := by omega
      refine q0w tyOk (by rfl) (by simp only [List.length_cons, List.length_nil, Nat.reduceAdd, Nat.le_refl]) (by kernel_rfl) rfl ?_
      try simp (maxSteps := 1000000) only [seval, Int.toNat_natCast, he]
      refine ⟨by omega, by omega, by omega, ?_⟩
      refine ⟨by kernel_rfl, ?_⟩
      try simp (maxSteps := 1000000) only [seval, Int.toNat_natCast, hni, e1]
      refine ⟨by omega, by omega, ?_⟩
      apply hK
      simp only [Tryz.results104, retK, ares, List.take_nil, Bool.and_true, AV.ofResults, St.trunc, q00, q01, AB.trunc, List.getD_cons_zero, List.getD_cons_succ, List.take_succ_cons, List.map_nil, List.map_cons, List.length_cons, List.length_nil, Nat.reduceAdd, Nat.reduceLeDiff, and_true, ↓reduceIte, List.cons.injEq, exists_eq_left']
      simp only [e2]
      exact ⟨by congr 1; omega, N, rfl⟩
    · have hd : (xs.drop (i + 1)).length = xs.length - (i + 1) := by simp
      have ht : (xs.drop (i + 1)).take (xs.length - (i + 1)) = xs.drop (i + 1) := List.take_of_length_le (by simp)
      have hni : ¬ i + (xs.length - (i + 1)) = xs.length := by omega
      have e1 : (xs.take i ++ xs.drop (i + 1) ++ xs.drop (i + (xs.length - (i + 1)))).length = xs.length := by simp; omega
      have e2 : (xs.take i ++ xs.drop (i + 1) ++ xs.drop (i + (xs.length - (i + 1)))).take (i + (xs.length - (i + 1))) ++ List.replicate (xs.length - (i + (xs.length - (i + 1)))) (u32 0) ++
          (xs.take i ++ xs.drop (i + 1) ++ xs.drop (i + (xs.length - (i + 1)))).drop (i + (xs.length - (i + 1)) + (xs.length - (i + (xs.length - (i + 1))))) = xs.take i ++ xs.drop (i + 1) ++ [u32 0] := by
        rw [show xs.length - (i + (xs.length - (i + 1))) = 1 by omega, List.drop_of_length_le (l := xs.take i ++ xs.drop (i + 1) ++ xs.drop (i + (xs.length - (i + 1)))) (by rw [e1]; omega), List.append_nil,
          List.take_append_of_le_length (by simp; omega), List.take_of_length_le (by simp; omega)]
        rfl
      refine q0w tyOk (by rfl) (by simp only [List.length_cons, List.length_nil, Nat.reduceAdd, Nat.le_refl]) (by kernel_rfl) rfl ?_
      try simp (maxSteps := 1000000) only [seval, Int.toNat_natCast, he, ht, hd]
      refine ⟨by omega, by omega, by omega, ?_⟩
      refine ⟨by kernel_rfl, ?_⟩
      try simp (maxSteps := 1000000) only [seval, Int.toNat_natCast, hni, e1]
      refine ⟨by omega, by omega, ?_⟩
      apply hK
      simp only [Tryz.results104, retK, ares, List.take_nil, Bool.and_true, AV.ofResults, St.trunc, q00, q01, AB.trunc, List.getD_cons_zero, List.getD_cons_succ, List.take_succ_cons, List.map_nil, List.map_cons, List.length_cons, List.length_nil, Nat.reduceAdd, Nat.reduceLeDiff, and_true, ↓reduceIte, List.cons.injEq, exists_eq_left']
      simp only [e2]
      exact ⟨by congr 1; omega, N, rfl⟩
  · rintro x m' ⟨rfl, N, rfl⟩
    exact ⟨_, _, Turns.unroom, rfl, rfl⟩

theorem insert_u32 (xs : List AV) (v : AV) (i : Nat) (hi : i ≤ xs.length) (hlen : xs.length ≤ 1000000) :
    q17 P (fun _ => false) 107 [.row 130 1 xs] [.own 0 1 0 xs.length, i64 (i : Int), .sl 1 [v]] (fun x m' => x = .own 0 1 0 (xs.length + 1) ∧ m' = [.row 130 1 (xs.take i ++ [v] ++ xs.drop i)]) := by
  refine q0s.relocate (q0s.room (by decide) fun N hN _ => q1z tyOk Tryz.func107 rfl rfl (N := 0) (M := 2) (Nat.zero_le _) (by simp) ?_)
  intro K hK
  simp only [Tryz.ntmps107, List.length_cons, List.length_nil, Nat.reduceAdd, Nat.reduceSub, List.replicate, List.cons_append, List.nil_append]
  have w1 : IntKind.i64.wrap ((xs.length : Int) + ((1 : Nat) : Int)) = ((xs.length + 1 : Nat) : Int) := by rw [wrap_i64 (by omega) (by omega)]; rfl
  have w2 : IntKind.i64.wrap ((i : Int) + ((1 : Nat) : Int)) = ((i + 1 : Nat) : Int) := by rw [wrap_i64 (by omega) (by omega)]; rfl
  have w3 : IntKind.i64.wrap (((xs.length + 1 : Nat) : Int) - (i : Int)) = ((xs.length + 1 - i : Nat) : Int) := by rw [wrap_i64 (by omega) (by omega)]; omega
  have c1 : (((1 : Nat) : Int) == 0) = false := by decide
  by_cases hin : i = xs.length
  · subst hin
    try simp (maxSteps := 1000000) only [seval, Int.toNat_natCast, c1]
    refine ⟨by omega, ?_⟩
    by_cases hr : xs.length + 1 ≤ N
    · try simp (maxSteps := 1000000) only [seval, hr]
      apply hK
      simp only [Tryz.results107, retK, ares, List.take_nil, Bool.and_true, Bool.true_and, AV.ofResults, St.trunc, q00, q01, AB.trunc, List.getD_cons_zero, List.getD_cons_succ, List.take_succ_cons, List.map_nil, List.map_cons, Nat.reduceLeDiff, true_and, and_true, ↓reduceIte, List.cons.injEq, exists_eq_left']
      exact .inl ⟨N, [], by simp⟩
    · try simp (maxSteps := 1000000) only [seval, hr]
      refine ⟨⟨by simp only [maxLen]; omega, by omega⟩, ?_⟩
      try simp (maxSteps := 1000000) only [seval]
      apply hK
      simp only [Tryz.results107, retK, ares, List.take_nil, Bool.and_true, Bool.true_and, AV.ofResults, St.trunc, q00, q01, AB.trunc, List.getD_cons_zero, List.getD_cons_succ, List.take_succ_cons, List.map_nil, List.map_cons, Nat.reduceLeDiff, true_and, and_true, ↓reduceIte, List.cons.injEq, exists_eq_left']
      exact .inr (by simp)
  · have hlt : i < xs.length := by omega
    have c2 : ((i : Int) == (xs.length : Int)) = false := by simp; omega
    by_cases hr : xs.length + 1 ≤ N
    · have d1 : decide ((N : Int) < ((xs.length + 1 : Nat) : Int)) = false := decide_eq_false (by omega)
      have n1 : ¬ i + 1 = xs.length + 1 := by omega
      have n2 : ¬ i = xs.length + 1 := by omega
      try simp (maxSteps := 1000000) only [seval, Int.toNat_natCast, c1, c2, w1, w2, Nat.sub_zero, d1, hin, n1, n2]
      refine ⟨by omega, by omega, by omega, ?_⟩
      refine q3b ?_
      try simp (maxSteps := 1000000) only [seval]
      refine callG_ext (q4w (tS := 120) (tR := 4) (e := 130) tyOk Tryz.func126 rfl rfl (by kernel_rfl) (by kernel_rfl) rfl rfl rfl (by decide) rfl rfl) ?_
      try simp (maxSteps := 1000000) only [seval]
      have ek : (xs.drop i).take (min (xs.length + 1 - (i + 1)) (xs.length + 1 - i)) = xs.drop i := List.take_of_length_le (by simp; omega)
      refine q0w tyOk (by rfl) (by simp only [List.length_cons, List.length_nil, Nat.reduceAdd, Nat.zero_le]) (by kernel_rfl) rfl ?_
      try simp (maxSteps := 1000000) only [seval, Int.toNat_natCast, w2, n1, n2, ek]
      refine ⟨by omega, by omega, by omega, ?_⟩
      refine ⟨by kernel_rfl, ?_⟩
      have es : List.take (xs.length + 1 - i) [v] = [v] := List.take_of_length_le (by simp; omega)
      have e3 : (xs.take (i + 1) ++ xs.drop i ++ xs.drop (i + 1 + (xs.drop i).length)).take i ++ [v] ++ (xs.take (i + 1) ++ xs.drop i ++ xs.drop (i + 1 + (xs.drop i).length)).drop (i + 1) = xs.take i ++ [v] ++ xs.drop i := by
        have hl : (xs.take (i + 1)).length = i + 1 := by simp; omega
        have hd : xs.drop (i + 1 + (xs.drop i).length) = [] := List.drop_of_length_le (by simp; omega)
        rw [hd, List.append_nil, List.take_append_of_le_length (by omega), List.take_take, Nat.min_eq_left (by omega),
          List.drop_append_of_le_length (by omega), List.drop_of_length_le (by omega), List.nil_append]
      try simp (maxSteps := 1000000) only [seval, Int.toNat_natCast, n2, es]
      refine ⟨by omega, ⟨by omega, by simp; omega⟩, ?_⟩
      apply hK
      simp only [Tryz.results107, retK, ares, List.take_nil, Bool.and_true, Bool.true_and, AV.ofResults, St.trunc, q00, q01, AB.trunc, List.getD_cons_zero, List.getD_cons_succ, List.take_succ_cons, List.map_nil, List.map_cons, Nat.reduceLeDiff, true_and, and_true, ↓reduceIte, List.cons.injEq, exists_eq_left']
      exact .inl ⟨N, [], by rw [e3, List.append_nil]⟩
    · have d1 : decide ((N : Int) < ((xs.length + 1 : Nat) : Int)) = true := decide_eq_true (by omega)
      have g1 : ¬ i + (xs.length + 1 - i) ≤ N := by omega
      have g2 : ¬ i = i + (xs.length + 1 - i) := by omega
      have g3 : ¬ i + 1 = i + (xs.length + 1 - i) := by omega
      have g4 : List.take (i + (xs.length + 1 - i) - i) [v] = [v] := List.take_of_length_le (by simp; omega)
      have g5 : (xs.drop i).take (min (i + (xs.length + 1 - i) - (i + 1)) (xs.length - i)) = xs.drop i := List.take_of_length_le (by simp; omega)
      try simp (maxSteps := 1000000) only [seval, Int.toNat_natCast, c1, c2, w1, w2, w3, Nat.sub_zero, d1, hin, g1, g2, g4]
      refine ⟨by omega, by omega, ⟨by omega, by omega, by omega, by omega, by simp only [maxLen]; omega, by omega⟩, by omega, ⟨by omega, by simp; omega⟩, ?_⟩
      refine q0w tyOk (by rfl) (by simp only [List.length_cons, List.length_nil, Nat.reduceAdd, Nat.zero_le]) (by kernel_rfl) rfl ?_
      try simp (maxSteps := 1000000) only [seval, Int.toNat_natCast, w2, g3, g5, hin]
      have hB : (xs.take i ++ List.replicate (xs.length + 1 - i) (u32 0)).take i = xs.take i := by
        rw [List.take_append_of_le_length (by simp; omega), List.take_take, Nat.min_self]
      have hli : (xs.take i).length = i := by simp; omega
      rw [hB]
      refine ⟨by omega, by omega, ⟨by omega, by omega, by simp; omega⟩, ?_⟩
      refine ⟨by kernel_rfl, ?_⟩
      try simp (maxSteps := 1000000) only [seval, hB]
      apply hK
      simp only [Tryz.results107, retK, ares, List.take_nil, Bool.and_true, AV.ofResults, St.trunc, q00, q01, AB.trunc, List.getD_cons_zero, List.getD_cons_succ, List.take_succ_cons, List.map_nil, List.map_cons, Nat.reduceLeDiff, and_true, ↓reduceIte, List.cons.injEq, exists_eq_left']
      have e4 : ∀ D : List AV, (xs.take i ++ [v] ++ D).take (i + 1) = xs.take i ++ [v] := fun D => by
        rw [List.take_append_of_le_length (by simp; omega), List.take_of_length_le (by simp; omega)]
      have e5 : (xs.take i ++ [v] ++ (xs.take i ++ List.replicate (xs.length + 1 - i) (u32 0)).drop (i + 1)).drop (i + 1 + (xs.drop i).length) = [] := List.drop_of_length_le (by simp; omega)
      refine .inr ?_
      rw [e4, e5, List.append_nil]
      exact ⟨by congr 1; omega, rfl⟩

def q2x (m : List (ByteArray × Int)) : AV := .agg [.sl 1 (m.map fun p => str p.1), .sl 1 (m.map fun p => u32 p.2)]
abbrev q2u (m : List (ByteArray × Int)) : Prop := q2r ltS m
theorem find_su (m : List (ByteArray × Int)) (k : ByteArray) (hr : q2u m) (hlen : m.length ≤ 1000000) :
    PCall P 101 [q2x m, str k] (fun x => x = .tup [i64 ((lb ltS (m.map Prod.fst) k : Nat) : Int), bool (hasAt ltS eqS (m.map Prod.fst) k)]) := by
  refine q0r tyOk Tryz.func101 rfl rfl ?_
  intro K hK
  simp only [Tryz.ntmps101, List.length_cons, List.length_nil, Nat.reduceAdd, Nat.reduceSub, List.replicate, List.cons_append, List.nil_append]
  have em : (m.map fun p => str p.1) = (m.map Prod.fst).map fun x => str x := by rw [List.map_map]; rfl
  try simp (maxSteps := 1000000) only [seval, q2x, em]
  (refine q07 (search_str (m.map Prod.fst) hr k (by rw [List.length_map]; exact hlen)) rfl ?_; rintro _ rfl)
  try simp (maxSteps := 1000000) only [seval]
  apply hK
  simp only [Tryz.results101, retK, ares, Bool.and_true, Bool.true_and, AV.ofResults, St.trunc, q00, q01, List.getD_cons_zero, List.getD_cons_succ, List.take_zero, List.map_nil, true_and, and_true, List.cons.injEq, exists_eq_left']
theorem lb_len_su {m : List (ByteArray × Int)} {k : ByteArray} (h : hasAt ltS eqS (m.map Prod.fst) k = true) : lb ltS (m.map Prod.fst) k < m.length := by
  apply Nat.lt_of_not_le
  intro hc
  rw [hasAt_ge (by rw [List.length_map]; omega)] at h
  cases h
theorem with_call_su (m : List (ByteArray × Int)) (k : ByteArray) (v : Int) (hr : q2u m) (hlen : m.length ≤ 900000) :
    PCall P 76 [q2x m, str k, u32 v] (fun x => x = q2x (withG ltS eqS m k v)) := by
  refine q0r tyOk Tryz.func76 rfl rfl ?_
  intro K hK
  simp only [Tryz.ntmps76, List.length_cons, List.length_nil, Nat.reduceAdd, Nat.reduceSub, List.replicate, List.cons_append, List.nil_append]
  have hfind := find_su m k hr (by omega)
  unfold q2x at hfind
  try simp (maxSteps := 1000000) only [seval, q2x]
  (refine q07 hfind rfl ?_; rintro _ rfl)
  unfold withG at hK
  have lm1 : (m.map fun p => str p.1).length ≤ 1000000 := by rw [List.length_map]; omega
  have lm2 : (m.map fun p => u32 p.2).length ≤ 1000000 := by rw [List.length_map]; omega
  have hle : lb ltS (m.map Prod.fst) k ≤ m.length := by have := lb_le (lt := ltS) (m.map Prod.fst) k; rwa [List.length_map] at this
  cases hh : hasAt ltS eqS (m.map Prod.fst) k
  · rw [hh] at hK
    try simp (maxSteps := 1000000) only [seval]
    refine q0w tyOk (by rfl) (by simp only [List.length_cons, List.length_nil, Nat.reduceAdd, Nat.zero_le]) (by kernel_rfl) rfl ?_
    try simp (maxSteps := 1000000) only [seval]
    refine q2k (clone_str _ lm1) rfl rfl ?_
    try simp (maxSteps := 1000000) only [seval]
    refine q5l (insert_str _ (str k) (lb ltS (m.map Prod.fst) k) (by rw [List.length_map]; exact hle) lm1) 2 (by decide) rfl rfl rfl rfl ?_
    try simp (maxSteps := 1000000) only [seval]
    refine q2k (clone_u32 _ lm2) rfl rfl ?_
    try simp (maxSteps := 1000000) only [seval]
    refine q5l (insert_u32 _ (u32 v) (lb ltS (m.map Prod.fst) k) (by rw [List.length_map]; exact hle) lm2) 3 (by decide) rfl rfl rfl rfl ?_
    try simp (maxSteps := 1000000) only [seval]
    refine ⟨by kernel_rfl, ?_⟩
    try simp (maxSteps := 1000000) only [seval]
    apply hK
    simp only [Tryz.results76, retK, ares, List.take_nil, Bool.and_true, Bool.true_and, AV.ofResults, St.trunc, q00, q01, aload, acell, T, TI.isAgg, List.getD_cons_zero, List.getD_cons_succ, List.take_zero, List.take_succ_cons, List.drop_zero, List.map_nil, List.getElem?_cons_zero, List.getElem?_cons_succ, List.length_cons, List.length_nil, Nat.reduceAdd, Nat.reduceLeDiff, Nat.le_refl, true_and, and_true, ↓reduceIte, Bool.false_eq_true, List.cons.injEq, exists_eq_left']
    rw [q2h (by simp; omega), q2h (by simp; omega)]
    simp only [q2x, List.map_append, List.map_take, List.map_drop, List.map_cons, List.map_nil]
  · rw [hh] at hK
    have hl := lb_len_su hh
    have eg : (m.map fun p => u32 p.2).getD (Int.toNat ((lb ltS (m.map Prod.fst) k : Nat) : Int)) .any = u32 m[lb ltS (m.map Prod.fst) k].2 := at_map hl
    have k1 : (0 : Int) ≤ ((lb ltS (m.map Prod.fst) k : Nat) : Int) ∧ Int.toNat ((lb ltS (m.map Prod.fst) k : Nat) : Int) < m.length := by omega
    try simp (maxSteps := 1000000) only [seval]
    refine q0w tyOk (by rfl) (by simp only [List.length_cons, List.length_nil, Nat.reduceAdd, Nat.zero_le]) (by kernel_rfl) rfl ?_
    try simp (maxSteps := 1000000) only [seval]
    refine q2k (clone_u32 _ lm2) rfl rfl ?_
    try simp (maxSteps := 1000000) only [seval]
    refine ⟨by kernel_rfl, ?_⟩
    try simp (maxSteps := 1000000) only [seval, eg, k1, List.length_map]
    apply hK
    simp only [Tryz.results76, retK, ares, List.take_nil, Bool.and_true, Bool.true_and, AV.ofResults, St.trunc, q00, q01, aload, acell, T, TI.isAgg, List.getD_cons_zero, List.getD_cons_succ, List.take_zero, List.take_succ_cons, List.drop_zero, List.map_nil, List.getElem?_cons_zero, List.getElem?_cons_succ, List.length_cons, List.length_nil, Nat.reduceAdd, Nat.reduceLeDiff, Nat.le_refl, true_and, and_true, ↓reduceIte, List.cons.injEq, exists_eq_left']
    have he : m[lb ltS (m.map Prod.fst) k].1 = k := by
      have h1 := hh
      rw [hasAt_lt (by rw [List.length_map]; exact hl)] at h1
      have h2 := (q0x _ _).1 h1
      simpa using h2
    rw [q2h (by simp)]
    simp only [q2x, List.map_set, Int.toNat_natCast]
    congr 2
    congr 1
    refine (set_same_map (f := fun p : ByteArray × Int => str p.1) hl ?_).symm
    simp only [he]
theorem all_call_su (m : List (ByteArray × Int)) : PCall P 99 [q2x m] (fun x => x = .fn 122 [.rp [.sl 1 (m.map fun p => str p.1), .sl 1 (m.map fun p => u32 p.2)]]) := by
  refine q0r tyOk Tryz.func99 rfl rfl ?_
  intro K hK
  simp only [Tryz.ntmps99, List.length_cons, List.length_nil, Nat.reduceAdd, Nat.reduceSub, List.replicate, List.cons_append, List.nil_append]
  try simp (maxSteps := 1000000) only [seval, q2x]
  apply hK
  simp only [Tryz.results99, retK, ares, q15, AV.pure, Bool.and_self, Bool.and_true, Bool.true_and, AV.ofResults, St.trunc, q00, q01, List.getD_cons_zero, List.getD_cons_succ, List.take_zero, List.drop_zero, List.map_nil, List.getElem?_cons_zero, Nat.le_refl, true_and, and_true, ↓reduceIte, List.cons.injEq, exists_eq_left']
def q3v (m : List (ByteArray × Int)) : List (List AV) := m.map fun p => [str p.1, u32 p.2]
theorem pairs_pre_su {m : List (ByteArray × Int)} (i : Nat) : q3v (m.take i) <+: q3v m := (List.take_prefix i m).map _
theorem seq_su (m : List (ByteArray × Int)) (hlen : m.length ≤ 1000000) : ICall P 122 [.rp [.sl 1 (m.map fun p => str p.1), .sl 1 (m.map fun p => u32 p.2)]] (q3v m) := by
  refine icall_goY tyOk Tryz.func122 rfl rfl rfl ?_
  intro y K hK
  simp only [Tryz.ntmps122, List.length_cons, List.length_nil, Nat.reduceAdd, Nat.reduceSub, List.replicate, List.cons_append, List.nil_append]
  try simp (maxSteps := 1000000) only [seval, List.length_map]
  refine loopY_rule tyOk (α := Nat) 0 [0, 1, 6, 7, 8] (fun i => i ≤ m.length)
    (fun i => ⟨[.v y, .rp [.sl 1 (m.map fun p => str p.1), .sl 1 (m.map fun p => u32 p.2)], .any, .any, .any, .any, .sl 1 (m.map fun p => str p.1), i64 m.length, i64 i, .any, .any, .any, .any, .any, .any, .any, .any, .any, .any, .any, .any, .any, .any], []⟩)
    (fun i => (q3v (m.take i), false)) (fun i => m.length - i) 0 (Nat.le_refl _) (Nat.zero_le _) rfl rfl ?_
  intro i hi
  try simp (maxSteps := 1000000) only [seval]
  (first | refine q0g ?_ ?_ | refine q0k ?_ ?_ | refine q0l ?_ ?_ | refine q0m ?_ ?_ | refine q0h ?_ ?_) <;> intro h <;> try simp (maxSteps := 1000000) only [seval]
  · have hlt : i < m.length := by simpa using h
    have e1 := at_map (f := fun p : ByteArray × Int => str p.1) hlt
    have e2 := at_map (f := fun p : ByteArray × Int => u32 p.2) hlt
    have c1 : (0 : Int) ≤ (i : Int) ∧ Int.toNat (i : Int) < m.length := by omega
    have ew : IntKind.i64.wrap ((i : Int) + 1) = ((i + 1 : Nat) : Int) := by rw [wrap_i64 (by omega) (by omega)]; rfl
    have e3 : q3v (m.take i) ++ [[str m[i].1, u32 m[i].2]] = q3v (m.take (i + 1)) := by
      rw [q23 hlt]; simp only [q3v, List.map_append, List.map_cons, List.map_nil]
    try simp (maxSteps := 1000000) only [seval, e1, e2, c1, List.length_map]
    refine ⟨⟨by rw [e3]; exact pairs_pre_su _, rfl⟩, ?_⟩
    intro b
    cases b with
    | true =>
      try simp (maxSteps := 1000000) only [seval, ew]
      simp only [q4b, St.trunc, St.keep, q00, q01, keepV, List.elem_cons, List.elem_nil, List.take_zero, List.map_nil, Nat.reduceAdd, Nat.reduceBEq, Nat.zero_add, Bool.false_eq_true, ↓reduceIte]
      exact ⟨i + 1, hlt, by omega, rfl, by rw [e3]⟩
    | false =>
      try simp (maxSteps := 1000000) only [seval]
      exact hK _ _ _ (itK_ret ⟨by rw [e3]; exact pairs_pre_su _, fun h => by cases h⟩)
  · have hge : i = m.length := by have : ¬ ((i : Int) < (m.length : Int)) := by simpa using h
                                  omega
    subst hge
    refine hK _ _ _ (itK_normal ⟨pairs_pre_su _, fun _ => by rw [List.take_length]⟩)

theorem get_call_su (m : List (ByteArray × Int)) (k : ByteArray) (hr : q2u m) (hlen : m.length ≤ 1000000) :
    PCall P 73 [q2x m, str k] (fun x => x = .tup [u32 (getG ltS eqS 0 m k).1, bool (getG ltS eqS 0 m k).2]) := by
  refine q0r tyOk Tryz.func73 rfl rfl ?_
  intro K hK
  simp only [Tryz.ntmps73, List.length_cons, List.length_nil, Nat.reduceAdd, Nat.reduceSub, List.replicate, List.cons_append, List.nil_append]
  have hfind := find_su m k hr hlen
  unfold q2x at hfind
  try simp (maxSteps := 1000000) only [seval, q2x]
  (refine q07 hfind rfl ?_; rintro _ rfl)
  unfold getG at hK
  cases hh : hasAt ltS eqS (m.map Prod.fst) k
  · rw [hh] at hK
    try simp (maxSteps := 1000000) only [seval]
    apply hK
    simp only [Tryz.results73, retK, ares, Bool.and_true, Bool.true_and, AV.ofResults, St.trunc, q00, q01, List.getD_cons_zero, List.getD_cons_succ, List.take_zero, List.map_nil, true_and, and_true, ↓reduceIte, Bool.false_eq_true, List.cons.injEq, exists_eq_left']
  · rw [hh] at hK
    have hl := lb_len_su hh
    have eg : (m.map fun p => u32 p.2).getD (Int.toNat ((lb ltS (m.map Prod.fst) k : Nat) : Int)) .any = u32 ((m.map Prod.snd).getD (lb ltS (m.map Prod.fst) k) 0) := by
      rw [at_map hl, List.getD_eq_getElem?_getD, List.getElem?_map, List.getElem?_eq_getElem hl]; rfl
    have k1 : (0 : Int) ≤ ((lb ltS (m.map Prod.fst) k : Nat) : Int) ∧ Int.toNat ((lb ltS (m.map Prod.fst) k : Nat) : Int) < m.length := by omega
    try simp (maxSteps := 1000000) only [seval, eg, k1, List.length_map]
    apply hK
    simp only [Tryz.results73, retK, ares, Bool.and_true, Bool.true_and, AV.ofResults, St.trunc, q00, q01, List.getD_cons_zero, List.getD_cons_succ, List.take_zero, List.map_nil, true_and, and_true, ↓reduceIte, List.cons.injEq, exists_eq_left']

theorem without_call_su (m : List (ByteArray × Int)) (k : ByteArray) (hr : q2u m) (hlen : m.length ≤ 900000) :
    PCall P 75 [q2x m, str k] (fun x => x = q2x (q1x ltS eqS m k)) := by
  refine q0r tyOk Tryz.func75 rfl rfl ?_
  intro K hK
  simp only [Tryz.ntmps75, List.length_cons, List.length_nil, Nat.reduceAdd, Nat.reduceSub, List.replicate, List.cons_append, List.nil_append]
  have hfind := find_su m k hr (by omega)
  unfold q2x at hfind
  try simp (maxSteps := 1000000) only [seval, q2x]
  (refine q07 hfind rfl ?_; rintro _ rfl)
  unfold q1x at hK
  have lm1 : (m.map fun p => str p.1).length ≤ 1000000 := by rw [List.length_map]; omega
  have lm2 : (m.map fun p => u32 p.2).length ≤ 1000000 := by rw [List.length_map]; omega
  cases hh : hasAt ltS eqS (m.map Prod.fst) k
  · rw [hh] at hK
    try simp (maxSteps := 1000000) only [seval]
    apply hK
    simp only [Tryz.results75, retK, ares, List.take_nil, Bool.and_true, Bool.true_and, AV.ofResults, St.trunc, q00, q01, aload, acell, T, TI.isAgg, List.getD_cons_zero, List.getD_cons_succ, List.take_zero, List.take_succ_cons, List.drop_zero, List.map_nil, List.getElem?_cons_zero, List.getElem?_cons_succ, List.length_cons, List.length_nil, Nat.reduceAdd, Nat.le_refl, true_and, and_true, ↓reduceIte, Bool.false_eq_true, List.cons.injEq, exists_eq_left']
    rfl
  · rw [hh] at hK
    have hl := lb_len_su hh
    have w1 : IntKind.i64.wrap (((lb ltS (m.map Prod.fst) k : Nat) : Int) + 1) = ((lb ltS (m.map Prod.fst) k + 1 : Nat) : Int) := by rw [wrap_i64 (by omega) (by omega)]; rfl
    try simp (maxSteps := 1000000) only [seval]
    refine q0w tyOk (by rfl) (by simp only [List.length_cons, List.length_nil, Nat.reduceAdd, Nat.zero_le]) (by kernel_rfl) rfl ?_
    try simp (maxSteps := 1000000) only [seval, w1]
    refine q2k (clone_str _ lm1) rfl rfl ?_
    try simp (maxSteps := 1000000) only [seval, w1]
    refine drawCall_on (delete_str _ (lb ltS (m.map Prod.fst) k) (by rw [List.length_map]; exact hl) lm1) 2 rfl rfl rfl rfl rfl ?_
    try simp (maxSteps := 1000000) only [seval, w1]
    refine q2k (clone_u32 _ lm2) rfl rfl ?_
    try simp (maxSteps := 1000000) only [seval, w1]
    refine drawCall_on (delete_u32 _ (lb ltS (m.map Prod.fst) k) (by rw [List.length_map]; exact hl) lm2) 3 rfl rfl rfl rfl rfl ?_
    try simp (maxSteps := 1000000) only [seval, w1]
    refine ⟨by kernel_rfl, ?_⟩
    try simp (maxSteps := 1000000) only [seval]
    apply hK
    simp only [Tryz.results75, retK, ares, List.take_nil, Bool.and_true, Bool.true_and, AV.ofResults, St.trunc, q00, q01, aload, acell, T, TI.isAgg, List.getD_cons_zero, List.getD_cons_succ, List.take_zero, List.take_succ_cons, List.drop_zero, List.map_nil, List.getElem?_cons_zero, List.getElem?_cons_succ, List.length_cons, List.length_nil, Nat.reduceAdd, Nat.reduceLeDiff, Nat.le_refl, true_and, and_true, ↓reduceIte, List.cons.injEq, exists_eq_left']
    rw [cut_last (by rw [List.length_map]; exact hl), cut_last (by rw [List.length_map]; exact hl)]
    simp only [q2x, List.map_append, List.map_take, List.map_drop]

end Go.Proofs.YtdkcpcflfnakdaaGreat
namespace Go.Proofs.YtdkcpcflfnakdaaGreat
open Go Go.Proofs.YtdkcpcflfnakdaaGreat.Sym
attribute [-sevalprocAttr] Int.reduceToNat Int.reduceNatCast Int.reduceNatCast' Nat.reduceSubDiff
set_option maxRecDepth 100000
set_option maxHeartbeats 1000000
set_option linter.unusedSimpArgs false
set_option linter.unusedVariables false

def kpF (b : Nat) : Bool := decide (b < 9) || decide (17 ≤ b)
structure Ev where
  u : ByteArray
  old : Pr
  new : Pr
  seq : Int
  deriving DecidableEq
def Ev.av (e : Ev) : AV := .agg [str e.u, i64 e.old.st, i64 e.old.pr, i64 e.old.n, i64 e.new.st, i64 e.new.pr, i64 e.new.n, u64 e.seq]
def evts (l : List Ev) : List AV := l.map Ev.av
theorem q38 (l : List Ev) : (evts l).length = l.length := by simp [evts]
theorem evts_snoc (l : List Ev) (e : Ev) : evts l ++ [.agg [str e.u, i64 e.old.st, i64 e.old.pr, i64 e.old.n, i64 e.new.st, i64 e.new.pr, i64 e.new.n, u64 e.seq]] = evts (l ++ [e]) := by simp [evts, Ev.av]

def ringB (room : Int) (l : List Ev) (lost : Bool) : AB := .box [i64 room, .own 1 8 0 l.length, bool lost]
def ringM (room : Int) (l : List Ev) (lost : Bool) : List AB := [ringB room l lost, .row 49 8 (evts l)]
def putR (room : Int) (q : List Ev × Bool) (e : Ev) : List Ev × Bool := if room ≤ (q.1.length : Int) then (q.1, true) else (q.1 ++ [e], q.2)
theorem ring_Put (room : Int) (l : List Ev) (lost : Bool) (e : Ev) (hl : l.length ≤ 100000) : q0s P 1 93 (ringM room l lost) [.ptr 0 0, e.av]
    (fun x m' => (∃ b, x = bool b) ∧ m' = ringM room (putR room (l, lost) e).1 (putR room (l, lost) e).2) := by
  unfold ringM ringB
  refine q2y tyOk Tryz.func93 rfl rfl (by simp) ?_
  intro K hK
  simp only [Tryz.ntmps93, List.length_cons, List.length_nil, Nat.reduceAdd, Nat.reduceSub, List.replicate, List.cons_append, List.nil_append]
  try simp (maxSteps := 1000000) only [seval, Ev.av]
  refine q0w tyOk (by rfl) (by simp only [List.length_cons, List.length_nil, Nat.reduceAdd, Nat.reduceLeDiff]) (by kernel_rfl) rfl ?_
  try simp (maxSteps := 1000000) only [seval]
  refine ⟨by kernel_rfl, ?_⟩
  (first | refine q0g ?_ ?_ | refine q0k ?_ ?_ | refine q0l ?_ ?_ | refine q0m ?_ ?_ | refine q0h ?_ ?_) <;> intro h
  · have h' : room ≤ (l.length : Int) := by simpa using h
    try simp (maxSteps := 1000000) only [seval]
    apply hK
    simp only [Tryz.results93, retK, ares, Bool.and_true, AV.ofResults, St.trunc, q00, q01, AB.trunc, List.getD_cons_zero, List.getD_cons_succ, List.take_zero, List.take_succ_cons, List.map_nil, List.map_cons, List.length_cons, List.length_nil, Nat.reduceAdd, Nat.reduceLeDiff, and_true, ↓reduceIte, List.cons.injEq, exists_eq_left']
    rw [putR, if_pos h']
    exact ⟨⟨_, rfl⟩, rfl, rfl⟩
  · have h' : ¬ room ≤ (l.length : Int) := by simpa using h
    try simp (maxSteps := 1000000) only [seval]
    refine q0w tyOk (by rfl) (by simp only [List.length_cons, List.length_nil, Nat.reduceAdd, Nat.reduceLeDiff]) (by kernel_rfl) rfl ?_
    try simp (maxSteps := 1000000) only [seval, q38]
    refine ⟨⟨by simp only [maxLen]; omega, by omega⟩, ?_⟩
    refine ⟨by kernel_rfl, ?_⟩
    try simp (maxSteps := 1000000) only [seval]
    apply hK
    simp only [Tryz.results93, retK, ares, Bool.and_true, AV.ofResults, St.trunc, q00, q01, AB.trunc, List.getD_cons_zero, List.getD_cons_succ, List.take_zero, List.take_succ_cons, List.map_nil, List.map_cons, List.length_cons, List.length_nil, Nat.reduceAdd, Nat.reduceLeDiff, and_true, ↓reduceIte, List.cons.injEq, exists_eq_left']
    rw [putR, if_neg h']
    simp only [evts_snoc, List.length_append, List.length_singleton]
    exact ⟨⟨_, rfl⟩, trivial, trivial⟩
def q3u (l : List Ev) : List (List AV) := l.map fun e => [e.av]
theorem ring_seq (room : Int) (l : List Ev) (lost : Bool) (hlen : l.length ≤ 100000) : ICall P 138 [.rp [.rp [i64 room, .sl 8 (evts l), bool lost]]] (q3u l) := by
  refine icall_goY tyOk Tryz.func138 rfl rfl rfl ?_
  intro y K hK
  simp only [Tryz.ntmps138, List.length_cons, List.length_nil, Nat.reduceAdd, Nat.reduceSub, List.replicate, List.cons_append, List.nil_append]
  try simp (maxSteps := 1000000) only [seval, q38]
  refine loopY_rule tyOk (α := Nat) 0 [0, 1, 8, 9, 10] (fun i => i ≤ l.length)
    (fun i => ⟨[.v y, .rp [.rp [i64 room, .sl 8 (evts l), bool lost]], .any, .any, .any, .any, .any, .any, .sl 8 (evts l), i64 l.length, i64 i, .any, .any, .any, .any, .any, .any, .any, .any], []⟩)
    (fun i => (q3u (l.take i), false)) (fun i => l.length - i) 0 (Nat.le_refl _) (Nat.zero_le _) rfl rfl ?_
  intro i hi
  try simp (maxSteps := 1000000) only [seval]
  (first | refine q0g ?_ ?_ | refine q0k ?_ ?_ | refine q0l ?_ ?_ | refine q0m ?_ ?_ | refine q0h ?_ ?_) <;> intro h <;> try simp (maxSteps := 1000000) only [seval]
  · have hlt : i < l.length := by simpa using h
    have e1 := at_map (f := Ev.av) hlt
    have c1 : (0 : Int) ≤ (i : Int) ∧ Int.toNat (i : Int) < l.length := by omega
    have ew : IntKind.i64.wrap ((i : Int) + 1) = ((i + 1 : Nat) : Int) := by rw [wrap_i64 (by omega) (by omega)]; rfl
    have e3 : q3u (l.take i) ++ [[l[i].av]] = q3u (l.take (i + 1)) := by
      rw [q23 hlt]; simp only [q3u, List.map_append, List.map_cons, List.map_nil]
    have pre : q3u (l.take (i + 1)) <+: q3u l := (List.take_prefix _ l).map _
    change (evts l).getD _ _ = _ at e1
    unfold Ev.av at e1 e3
    try simp (maxSteps := 1000000) only [seval, e1, c1, q38]
    refine ⟨⟨by rw [e3]; exact pre, rfl⟩, ?_⟩
    intro b
    cases b with
    | true =>
      try simp (maxSteps := 1000000) only [seval, ew]
      simp only [q4b, St.trunc, St.keep, q00, q01, keepV, q15, AV.pure, Bool.and_self, List.drop_zero, List.elem_cons, List.elem_nil, List.take_zero, List.map_nil, List.getElem?_cons_zero, Nat.reduceAdd, Nat.reduceBEq, Nat.le_refl, Nat.zero_add, Bool.false_eq_true, ↓reduceIte]
      exact ⟨i + 1, hlt, by omega, rfl, by rw [e3]⟩
    | false =>
      try simp (maxSteps := 1000000) only [seval]
      exact hK _ _ _ (itK_ret ⟨by rw [e3]; exact pre, fun h => by cases h⟩)
  · have hge : i = l.length := by have : ¬ ((i : Int) < (l.length : Int)) := by simpa using h
                                  omega
    subst hge
    refine hK _ _ _ (itK_normal ⟨(List.take_prefix _ l).map _, fun _ => by rw [List.take_length]⟩)
theorem ring_All (room : Int) (l : List Ev) (lost : Bool) (cs : List AV) : ACall P 121 [ringB room l lost, .row 49 8 (evts l), .box [.v (.slice none 0 0)]] [.ptr 0 0]
    (fun x m' => x = .fn 138 [.ptr 3 0] ∧ m' = [ringB room l lost, .row 49 8 (evts l), .box [.v (.slice none 0 0)], .box [.ptr 0 0]]) := by
  unfold ringB
  refine q0s.toA (q1z tyOk Tryz.func121 rfl rfl (N := 3) (M := 4) (by simp) (by simp) ?_)
  intro K hK
  simp only [Tryz.ntmps121, List.length_cons, List.length_nil, Nat.reduceAdd, Nat.reduceSub, List.replicate, List.cons_append, List.nil_append]
  try simp (maxSteps := 1000000) only [seval]
  apply hK
  simp only [Tryz.results121, retK, ares, List.take_nil, Bool.and_true, AV.ofResults, St.trunc, q00, q01, AB.trunc, List.getD_cons_zero, List.getD_cons_succ, List.take_succ_cons, List.map_nil, List.map_cons, Nat.reduceLeDiff, and_true, ↓reduceIte, List.cons.injEq, exists_eq_left']
theorem evts_bare (fz : List Nat) (l : List Ev) : baresV fz (evts l) = true := by
  induction l with
  | nil => rfl
  | cons e l ih => rw [evts, List.map_cons, baresV, ← evts, ih]; rfl
theorem ring_Drain0 (room : Int) (l : List Ev) (lost : Bool) (hl : l.length ≤ 100000) : ACall P 98 (ringM room l lost) [.ptr 0 0]
    (fun x m' => x = .tup [.sl 8 (evts l), bool lost] ∧ m' = [.box [i64 room, .v (.slice none 0 0), bool false], .row 49 8 (evts l)]) := by
  unfold ringM
  have hall := ring_All room l lost []
  unfold ringB at hall ⊢
  refine acall_goY tyOk Tryz.func98 rfl rfl ?_
  intro K hK
  simp only [Tryz.ntmps98, List.length_cons, List.length_nil, Nat.reduceAdd, Nat.reduceSub, List.replicate, List.cons_append, List.nil_append]
  try simp (maxSteps := 1000000) only [seval]
  refine q30 (hall.mono ?_)
  rintro _ _ ⟨rfl, rfl⟩
  try simp (maxSteps := 1000000) only [seval]
  refine restY_turn (Turns.adoptIn (b := 2) (c := 0) 49 8 rfl rfl) ?_
  refine restY_thaw [0] [1, 0, 3] (by simp [St.adoptIn]) (by simp [St.adoptIn, AB.fzOk, q0n, bks]) (by simp [St.adoptIn, bks]) ?_
  intro vs
  have hsl : (if 0 + l.length ≤ (evts l).length then AV.sl 8 ((evts l).take l.length) else AV.any) = .sl 8 (evts l) := q2h (q38 l)
  simp only [St.adoptIn, litT, St.colds, St.cold, coldVs, coldV, AB.cold, shutV, List.set, List.map_cons, List.map_nil, List.getElem?_cons_zero, List.getElem?_cons_succ, List.length_cons, List.length_nil, Nat.reduceAdd, Nat.reduceEqDiff, ↓reduceIte, List.cons_append, List.nil_append, true_and, hsl, q15, AV.pure, List.drop_zero, Bool.and_self, Nat.succ_ne_zero]
  refine range_rule tyOk (ring_seq room l lost hl) (α := Nat) 4 5 [0, 4] ([.v (vs.getD 0 undef), .any, .any, .any, .ptr 2 0, .any, .any, .any, .any, .any, .any, .any, .any, .any, .any, .any, .any, .any, .any, .any, .any, .any, .any, .any, .any, .any]) (fun xs i => i = xs.length ∧ i ≤ l.length)
    (fun i => [.gone, .gone, .box [.own 4 8 0 i], .gone, .row 49 8 (evts (l.take i))]) 0 rfl rfl
    (fun x hx => by simp only [q3u, List.mem_map] at hx; obtain ⟨p, _, rfl⟩ := hx; rfl) (by decide) (by decide) (by rfl) ⟨rfl, Nat.zero_le _⟩ rfl ?_ ?_
  · rintro xs x _ hpre ⟨rfl, hle⟩
    obtain ⟨hi, _, rfl⟩ := q55 hpre
    have hn : evts (l.take xs.length) ++ [l[xs.length].av] = evts (l.take (xs.length + 1)) := by rw [q23 hi]; simp only [evts, List.map_append, List.map_cons, List.map_nil]
    have hl2 : (evts (l.take xs.length)).length = xs.length := by rw [q38, List.length_take]; omega
    generalize l[xs.length] = e at *
    unfold Ev.av at hn
    try simp (maxSteps := 1000000) only [seval, Ev.av, hl2]
    refine ⟨⟨by simp only [maxLen]; omega, by omega⟩, ?_⟩
    try simp (maxSteps := 1000000) only [seval]
    simp only [q2z, St.trunc, q00, q01, AB.trunc, q15, AV.pure, Bool.and_self, List.drop_zero, List.take_succ_cons, List.take_zero, List.map_cons, List.map_nil, List.getElem?_cons_zero, List.getElem?_cons_succ, List.length_cons, List.length_nil, Nat.reduceLeDiff, Nat.le_refl, Nat.zero_add, ↓reduceIte]
    exact ⟨xs.length + 1, ⟨by first | rfl | simp, by omega⟩, by rw [hn]⟩
  · rintro _ ⟨rfl, hle⟩
    have e1 : (q3u l).length = l.length := by simp [q3u]
    rw [e1, List.take_length]
    refine ⟨by simp, by simp, ?_⟩
    simp only [thawT, thawM, List.elem_cons, List.elem_nil, Nat.reduceAdd, Nat.reduceBEq, ↓reduceIte, Bool.false_eq_true, AV.bare, AB.bare, baresV, evts_bare, Bool.and_self, Bool.not_false, Nat.reduceLT, decide_true, decide_false, Bool.and_false, goYE_normal, beq_self_eq_true]
    try simp (maxSteps := 1000000) only [seval]
    apply hK
    simp only [Tryz.results98, retK, ares, Bool.and_true, Bool.true_and, AV.ofResults, St.trunc, q00, q01, AB.trunc, List.getD_cons_zero, List.getD_cons_succ, List.take_zero, List.take_succ_cons, List.drop_zero, List.map_nil, List.map_cons, List.getElem?_cons_zero, List.getElem?_cons_succ, List.length_cons, List.length_nil, Nat.reduceAdd, Nat.reduceLeDiff, true_and, and_true, ↓reduceIte, List.cons.injEq, exists_eq_left']
    rw [q2h (q38 l)]
theorem ring_Drain (room : Int) (l : List Ev) (lost : Bool) (hl : l.length ≤ 100000) : q17 P (fun i => i != 1) 98 (ringM room l lost) [.ptr 0 0]
    (fun x m' => x = .tup [.sl 8 (evts l), bool lost] ∧ m' = ringM room [] false) := by
  refine (ring_Drain0 room l lost hl).readopt 0 1 1 49 8 ?_
  rintro x m' ⟨rfl, rfl⟩
  exact ⟨_, rfl, rfl, by simp, rfl, rfl⟩
end Go.Proofs.YtdkcpcflfnakdaaGreat
