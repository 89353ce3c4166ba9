/- The base of the laws of this seat: texts of this session, joined by a program. -/
import Derived.Test.YtdkcpcflfnakdaaGreatMb
import Derived.Test.YtdkcpcflfnakdaaGreatMa
namespace Go.Proofs.YtdkcpcflfnakdaaGreat
open Go Go.Proofs.YtdkcpcflfnakdaaGreat.Sym
attribute [-sevalprocAttr] Int.reduceToNat Int.reduceNatCast Int.reduceNatCast' Nat.reduceSubDiff
set_option maxRecDepth 100000
set_option maxHeartbeats 1000000
set_option linter.unusedSimpArgs false
set_option linter.unusedVariables false

structure En where
  l : List Ses
  t : Pr
  deriving DecidableEq
def En.av (e : En) : AV := .agg [.sl 4 (avs e.l), i64 e.t.st, i64 e.t.pr, i64 e.t.n]
def nilEn : En := ⟨[], ⟨0, 0, 0⟩⟩
abbrev rawNil : AV := .agg [.v (.slice none 0 0), i64 0, i64 0, i64 0]
theorem weak_en : weak rawNil (En.av nilEn) := .inr ⟨_, rfl, _, _, rfl, weak_nil 4, _, _, rfl, q2a _, _, _, rfl, q2a _, _, _, rfl, q2a _, rfl⟩
theorem clone_ent (xs : List AV) (hlen : xs.length ≤ 1000000) :
    ACall P 130 [] [.sl 4 xs] (fun x m' => x = .own 0 4 0 xs.length ∧ m' = [.row 138 4 xs]) := by
  have hm : xs.length ≤ maxLen := by simp only [maxLen]; omega
  have hby : xs.length * 48 ≤ 140737488355328 := by omega
  by_cases h0 : xs = []
  · subst h0
    refine ACall.empty fun a cap => ?_
    cases a with
    | none =>
      refine ACall.weaken (K := fun x m' => x = .v (.slice none 0 0) ∧ m' = []) (q0s.toA (q1z tyOk Tryz.func130 rfl rfl (N := 0) (M := 1) (Nat.zero_le _) (by simp) ?_)) ?_
      · intro K hK
        simp only [Tryz.ntmps130, List.length_cons, List.length_nil, Nat.reduceAdd, Nat.reduceSub, List.replicate, List.cons_append, List.nil_append]
        try simp (maxSteps := 1000000) only [seval]
        apply hK
        simp only [Tryz.results130, retK, ares, List.take_nil, Bool.and_true, AV.ofResults, St.trunc, q00, q01, List.getD_cons_zero, List.getD_cons_succ, List.map_nil, and_true, List.cons.injEq, exists_eq_left']
      · rintro x m' ⟨rfl, rfl⟩
        exact ⟨_, _, Turns.adopt (i := 0) 138 4 rfl, rfl, rfl⟩
    | some a =>
      refine q0s.toA (q1z tyOk Tryz.func130 rfl rfl (N := 0) (M := 1) (Nat.zero_le _) (by simp) ?_)
      intro K hK
      simp only [Tryz.ntmps130, List.length_cons, List.length_nil, Nat.reduceAdd, Nat.reduceSub, List.replicate, List.cons_append, List.nil_append]
      try simp (maxSteps := 1000000) only [seval]
      apply hK
      simp only [Tryz.results130, retK, ares, List.take_nil, Bool.and_true, AV.ofResults, St.trunc, q00, q01, AB.trunc, List.getD_cons_zero, List.getD_cons_succ, List.take_succ_cons, List.map_nil, List.map_cons, List.length_nil, Nat.reduceLeDiff, and_true, ↓reduceIte, List.cons.injEq, exists_eq_left']
  · have hpos : 0 < xs.length := List.length_pos_iff.2 h0
    refine q0s.toA (q1z tyOk Tryz.func130 rfl rfl (N := 0) (M := 1) (Nat.zero_le _) (by simp) ?_)
    intro K hK
    simp only [Tryz.ntmps130, List.length_cons, List.length_nil, Nat.reduceAdd, Nat.reduceSub, List.replicate, List.cons_append, List.nil_append]
    try simp (maxSteps := 1000000) only [seval, hpos]
    refine ⟨⟨hm, hby⟩, ?_⟩
    try simp (maxSteps := 1000000) only [seval]
    apply hK
    simp only [Tryz.results130, retK, ares, List.take_nil, Bool.and_true, AV.ofResults, St.trunc, q00, q01, AB.trunc, List.getD_cons_zero, List.getD_cons_succ, List.take_succ_cons, List.map_nil, List.map_cons, Nat.reduceLeDiff, and_true, ↓reduceIte, List.cons.injEq, exists_eq_left']

theorem delete_ent (xs : List AV) (i : Nat) (hi : i < xs.length) (hlen : xs.length ≤ 1000000) :
    ACall P 129 [.row 138 4 xs] [.own 0 4 0 xs.length, i64 (i : Int), i64 ((i + 1 : Nat) : Int)] (fun x m' => x = .own 0 4 0 (xs.length - 1) ∧ m' = [.row 138 4 (xs.take i ++ xs.drop (i + 1) ++ [rawNil])]) := by
  refine ACall.weaken (K := fun x m' => x = .own 0 4 0 (xs.length - 1) ∧ ∃ N, m' = [.rowc 138 4 (xs.take i ++ xs.drop (i + 1) ++ [rawNil]) N]) (q0s.toA (m := [_]) (q0s.room (by decide) fun N hN _ => ?_)) ?_
  · refine q30 tyOk Tryz.func129 rfl rfl (by simp) ?_
    intro K hK
    simp only [Tryz.ntmps129, List.length_cons, List.length_nil, Nat.reduceAdd, Nat.reduceSub, List.replicate, List.cons_append, List.nil_append]
    have f1 : ((i : Int) == ((i + 1 : Nat) : Int)) = false := by simp; omega
    try simp (maxSteps := 1000000) only [seval, Int.toNat_natCast, f1]
    refine ⟨by omega, ?_⟩
    by_cases he : i + 1 = xs.length
    · have e1 : (xs.take i ++ xs.drop i).length = xs.length := by rw [List.take_append_drop]
      have e2 : ((xs.take i ++ xs.drop i).take i ++ List.replicate (xs.length - i) (rawNil)) ++ (xs.take i ++ xs.drop i).drop (i + (xs.length - i)) = xs.take i ++ xs.drop (i + 1) ++ [rawNil] := by
        rw [List.take_append_drop, List.drop_of_length_le (by omega), List.drop_of_length_le (by omega), show xs.length - i = 1 by omega, List.append_nil, List.append_nil]
        rfl
      have hni : ¬ i = xs.length := by omega
      refine q0u tyOk (by rfl) (by simp only [List.length_cons, List.length_nil, Nat.reduceAdd, Nat.le_refl]) (by kernel_rfl) rfl ?_
      try simp (maxSteps := 1000000) only [seval, Int.toNat_natCast, he]
      refine ⟨by omega, by omega, by omega, ?_⟩
      refine ⟨by kernel_rfl, ?_⟩
      try simp (maxSteps := 1000000) only [seval, Int.toNat_natCast, hni, e1]
      refine ⟨by omega, by omega, ?_⟩
      apply hK
      simp only [Tryz.results129, retK, ares, List.take_nil, Bool.and_true, AV.ofResults, St.trunc, q00, q01, AB.trunc, List.getD_cons_zero, List.getD_cons_succ, List.take_succ_cons, List.map_nil, List.map_cons, List.length_cons, List.length_nil, Nat.reduceAdd, Nat.reduceLeDiff, and_true, ↓reduceIte, List.cons.injEq, exists_eq_left']
      simp only [e2]
      exact ⟨by congr 1; omega, N, rfl⟩
    · have hd : (xs.drop (i + 1)).length = xs.length - (i + 1) := by simp
      have ht : (xs.drop (i + 1)).take (xs.length - (i + 1)) = xs.drop (i + 1) := List.take_of_length_le (by simp)
      have hni : ¬ i + (xs.length - (i + 1)) = xs.length := by omega
      have e1 : (xs.take i ++ xs.drop (i + 1) ++ xs.drop (i + (xs.length - (i + 1)))).length = xs.length := by simp; omega
      have e2 : (xs.take i ++ xs.drop (i + 1) ++ xs.drop (i + (xs.length - (i + 1)))).take (i + (xs.length - (i + 1))) ++ List.replicate (xs.length - (i + (xs.length - (i + 1)))) (rawNil) ++
          (xs.take i ++ xs.drop (i + 1) ++ xs.drop (i + (xs.length - (i + 1)))).drop (i + (xs.length - (i + 1)) + (xs.length - (i + (xs.length - (i + 1))))) = xs.take i ++ xs.drop (i + 1) ++ [rawNil] := by
        rw [show xs.length - (i + (xs.length - (i + 1))) = 1 by omega, List.drop_of_length_le (l := xs.take i ++ xs.drop (i + 1) ++ xs.drop (i + (xs.length - (i + 1)))) (by rw [e1]; omega), List.append_nil,
          List.take_append_of_le_length (by simp; omega), List.take_of_length_le (by simp; omega)]
        rfl
      refine q0u tyOk (by rfl) (by simp only [List.length_cons, List.length_nil, Nat.reduceAdd, Nat.le_refl]) (by kernel_rfl) rfl ?_
      try simp (maxSteps := 1000000) only [seval, Int.toNat_natCast, he, ht, hd]
      refine ⟨by omega, by omega, by omega, ?_⟩
      refine ⟨by kernel_rfl, ?_⟩
      try simp (maxSteps := 1000000) only [seval, Int.toNat_natCast, hni, e1]
      refine ⟨by omega, by omega, ?_⟩
      apply hK
      simp only [Tryz.results129, retK, ares, List.take_nil, Bool.and_true, AV.ofResults, St.trunc, q00, q01, AB.trunc, List.getD_cons_zero, List.getD_cons_succ, List.take_succ_cons, List.map_nil, List.map_cons, List.length_cons, List.length_nil, Nat.reduceAdd, Nat.reduceLeDiff, and_true, ↓reduceIte, List.cons.injEq, exists_eq_left']
      simp only [e2]
      exact ⟨by congr 1; omega, N, rfl⟩
  · rintro x m' ⟨rfl, N, rfl⟩
    exact ⟨_, _, Turns.unroom, rfl, rfl⟩

theorem insert_ent (xs : List AV) (v : AV) (i : Nat) (hi : i ≤ xs.length) (hlen : xs.length ≤ 1000000) :
    q16 P (fun _ => false) 131 [.row 138 4 xs] [.own 0 4 0 xs.length, i64 (i : Int), .sl 4 [v]] (fun x m' => x = .own 0 4 0 (xs.length + 1) ∧ m' = [.row 138 4 (xs.take i ++ [v] ++ xs.drop i)]) := by
  refine q0s.relocate (q0s.room (by decide) fun N hN _ => q1z tyOk Tryz.func131 rfl rfl (N := 0) (M := 2) (Nat.zero_le _) (by simp) ?_)
  intro K hK
  simp only [Tryz.ntmps131, List.length_cons, List.length_nil, Nat.reduceAdd, Nat.reduceSub, List.replicate, List.cons_append, List.nil_append]
  have w1 : IntKind.i64.wrap ((xs.length : Int) + ((1 : Nat) : Int)) = ((xs.length + 1 : Nat) : Int) := by rw [wrap_i64 (by omega) (by omega)]; rfl
  have w2 : IntKind.i64.wrap ((i : Int) + ((1 : Nat) : Int)) = ((i + 1 : Nat) : Int) := by rw [wrap_i64 (by omega) (by omega)]; rfl
  have w3 : IntKind.i64.wrap (((xs.length + 1 : Nat) : Int) - (i : Int)) = ((xs.length + 1 - i : Nat) : Int) := by rw [wrap_i64 (by omega) (by omega)]; omega
  have c1 : (((1 : Nat) : Int) == 0) = false := by decide
  by_cases hin : i = xs.length
  · subst hin
    try simp (maxSteps := 1000000) only [seval, Int.toNat_natCast, c1]
    refine ⟨by omega, ?_⟩
    by_cases hr : xs.length + 1 ≤ N
    · try simp (maxSteps := 1000000) only [seval, hr]
      apply hK
      simp only [Tryz.results131, retK, ares, List.take_nil, Bool.and_true, Bool.true_and, AV.ofResults, St.trunc, q00, q01, AB.trunc, List.getD_cons_zero, List.getD_cons_succ, List.take_succ_cons, List.map_nil, List.map_cons, Nat.reduceLeDiff, true_and, and_true, ↓reduceIte, List.cons.injEq, exists_eq_left']
      exact .inl ⟨N, [], by simp⟩
    · try simp (maxSteps := 1000000) only [seval, hr]
      refine ⟨⟨by simp only [maxLen]; omega, by omega⟩, ?_⟩
      try simp (maxSteps := 1000000) only [seval]
      apply hK
      simp only [Tryz.results131, retK, ares, List.take_nil, Bool.and_true, Bool.true_and, AV.ofResults, St.trunc, q00, q01, AB.trunc, List.getD_cons_zero, List.getD_cons_succ, List.take_succ_cons, List.map_nil, List.map_cons, Nat.reduceLeDiff, true_and, and_true, ↓reduceIte, List.cons.injEq, exists_eq_left']
      exact .inr (by simp)
  · have hlt : i < xs.length := by omega
    have c2 : ((i : Int) == (xs.length : Int)) = false := by simp; omega
    by_cases hr : xs.length + 1 ≤ N
    · have d1 : decide ((N : Int) < ((xs.length + 1 : Nat) : Int)) = false := decide_eq_false (by omega)
      have n1 : ¬ i + 1 = xs.length + 1 := by omega
      have n2 : ¬ i = xs.length + 1 := by omega
      try simp (maxSteps := 1000000) only [seval, Int.toNat_natCast, c1, c2, w1, w2, Nat.sub_zero, d1, hin, n1, n2]
      refine ⟨by omega, by omega, by omega, ?_⟩
      refine q3f ?_
      try simp (maxSteps := 1000000) only [seval]
      refine callG_ext (q4q (tS := 85) (tR := 4) (e := 138) tyOk Tryz.func143 rfl rfl (by kernel_rfl) (by kernel_rfl) rfl rfl rfl (by decide) rfl rfl) ?_
      try simp (maxSteps := 1000000) only [seval]
      have ek : (xs.drop i).take (min (xs.length + 1 - (i + 1)) (xs.length + 1 - i)) = xs.drop i := List.take_of_length_le (by simp; omega)
      refine q0u tyOk (by rfl) (by simp only [List.length_cons, List.length_nil, Nat.reduceAdd, Nat.zero_le]) (by kernel_rfl) rfl ?_
      try simp (maxSteps := 1000000) only [seval, Int.toNat_natCast, w2, n1, n2, ek]
      refine ⟨by omega, by omega, by omega, ?_⟩
      refine ⟨by kernel_rfl, ?_⟩
      have es : List.take (xs.length + 1 - i) [v] = [v] := List.take_of_length_le (by simp; omega)
      have e3 : (xs.take (i + 1) ++ xs.drop i ++ xs.drop (i + 1 + (xs.drop i).length)).take i ++ [v] ++ (xs.take (i + 1) ++ xs.drop i ++ xs.drop (i + 1 + (xs.drop i).length)).drop (i + 1) = xs.take i ++ [v] ++ xs.drop i := by
        have hl : (xs.take (i + 1)).length = i + 1 := by simp; omega
        have hd : xs.drop (i + 1 + (xs.drop i).length) = [] := List.drop_of_length_le (by simp; omega)
        rw [hd, List.append_nil, List.take_append_of_le_length (by omega), List.take_take, Nat.min_eq_left (by omega),
          List.drop_append_of_le_length (by omega), List.drop_of_length_le (by omega), List.nil_append]
      try simp (maxSteps := 1000000) only [seval, Int.toNat_natCast, n2, es]
      refine ⟨by omega, ⟨by omega, by simp; omega⟩, ?_⟩
      apply hK
      simp only [Tryz.results131, retK, ares, List.take_nil, Bool.and_true, Bool.true_and, AV.ofResults, St.trunc, q00, q01, AB.trunc, List.getD_cons_zero, List.getD_cons_succ, List.take_succ_cons, List.map_nil, List.map_cons, Nat.reduceLeDiff, true_and, and_true, ↓reduceIte, List.cons.injEq, exists_eq_left']
      exact .inl ⟨N, [], by rw [e3, List.append_nil]⟩
    · have d1 : decide ((N : Int) < ((xs.length + 1 : Nat) : Int)) = true := decide_eq_true (by omega)
      have g1 : ¬ i + (xs.length + 1 - i) ≤ N := by omega
      have g2 : ¬ i = i + (xs.length + 1 - i) := by omega
      have g3 : ¬ i + 1 = i + (xs.length + 1 - i) := by omega
      have g4 : List.take (i + (xs.length + 1 - i) - i) [v] = [v] := List.take_of_length_le (by simp; omega)
      have g5 : (xs.drop i).take (min (i + (xs.length + 1 - i) - (i + 1)) (xs.length - i)) = xs.drop i := List.take_of_length_le (by simp; omega)
      try simp (maxSteps := 1000000) only [seval, Int.toNat_natCast, c1, c2, w1, w2, w3, Nat.sub_zero, d1, hin, g1, g2, g4]
      refine ⟨by omega, by omega, ⟨by omega, by omega, by omega, by omega, by simp only [maxLen]; omega, by omega⟩, by omega, ⟨by omega, by simp; omega⟩, ?_⟩
      refine q0u tyOk (by rfl) (by simp only [List.length_cons, List.length_nil, Nat.reduceAdd, Nat.zero_le]) (by kernel_rfl) rfl ?_
      try simp (maxSteps := 1000000) only [seval, Int.toNat_natCast, w2, g3, g5, hin]
      have hB : (xs.take i ++ List.replicate (xs.length + 1 - i) (rawNil)).take i = xs.take i := by
        rw [List.take_append_of_le_length (by simp; omega), List.take_take, Nat.min_self]
      have hli : (xs.take i).length = i := by simp; omega
      rw [hB]
      refine ⟨by omega, by omega, ⟨by omega, by omega, by simp; omega⟩, ?_⟩
      refine ⟨by kernel_rfl, ?_⟩
      try simp (maxSteps := 1000000) only [seval, hB]
      apply hK
      simp only [Tryz.results131, retK, ares, List.take_nil, Bool.and_true, AV.ofResults, St.trunc, q00, q01, AB.trunc, List.getD_cons_zero, List.getD_cons_succ, List.take_succ_cons, List.map_nil, List.map_cons, Nat.reduceLeDiff, and_true, ↓reduceIte, List.cons.injEq, exists_eq_left']
      have e4 : ∀ D : List AV, (xs.take i ++ [v] ++ D).take (i + 1) = xs.take i ++ [v] := fun D => by
        rw [List.take_append_of_le_length (by simp; omega), List.take_of_length_le (by simp; omega)]
      have e5 : (xs.take i ++ [v] ++ (xs.take i ++ List.replicate (xs.length + 1 - i) (rawNil)).drop (i + 1)).drop (i + 1 + (xs.drop i).length) = [] := List.drop_of_length_le (by simp; omega)
      refine .inr ?_
      rw [e4, e5, List.append_nil]
      exact ⟨by congr 1; omega, rfl⟩

end Go.Proofs.YtdkcpcflfnakdaaGreat
namespace Go.Proofs.YtdkcpcflfnakdaaGreat
open Go Go.Proofs.YtdkcpcflfnakdaaGreat.Sym
attribute [-sevalprocAttr] Int.reduceToNat Int.reduceNatCast Int.reduceNatCast' Nat.reduceSubDiff
set_option maxRecDepth 100000
set_option maxHeartbeats 1000000
set_option linter.unusedSimpArgs false
set_option linter.unusedVariables false

theorem avs_refs (l : List Ses) : q0h (avs l) = [] := by
  induction l with
  | nil => rfl
  | cons s l ih => simp only [avs, List.map_cons, q0h] at ih ⊢; rw [ih]; rfl
theorem en_refs (k : ByteArray) (e : En) : q0h [.v (.string k), .agg [.sl 4 (avs e.l), i64 e.t.st, i64 e.t.pr, i64 e.t.n]] = [] := by
  simp [q0h, AV.refs, avs_refs]
def q0y (m : List (ByteArray × En)) : AV := .agg [.sl 1 (m.map fun p => str p.1), .sl 4 (m.map fun p => En.av p.2)]
abbrev q2c (m : List (ByteArray × En)) : Prop := RisesM ltS m
theorem find_se (m : List (ByteArray × En)) (k : ByteArray) (hr : q2c m) (hlen : m.length ≤ 1000000) :
    PCall P 108 [q0y m, str k] (fun x => x = .tup [i64 ((lb ltS (m.map Prod.fst) k : Nat) : Int), bool (hasAt ltS eqS (m.map Prod.fst) k)]) := by
  refine q0r tyOk Tryz.func108 rfl rfl ?_
  intro K hK
  simp only [Tryz.ntmps108, List.length_cons, List.length_nil, Nat.reduceAdd, Nat.reduceSub, List.replicate, List.cons_append, List.nil_append]
  have em : (m.map fun p => str p.1) = (m.map Prod.fst).map fun x => str x := by rw [List.map_map]; rfl
  try simp (maxSteps := 1000000) only [seval, q0y, em]
  (refine q0g (search_str (m.map Prod.fst) hr k (by rw [List.length_map]; exact hlen)) rfl ?_; rintro _ rfl)
  try simp (maxSteps := 1000000) only [seval]
  apply hK
  simp only [Tryz.results108, retK, ares, Bool.and_true, Bool.true_and, AV.ofResults, St.trunc, q00, q01, List.getD_cons_zero, List.getD_cons_succ, List.take_zero, List.map_nil, true_and, and_true, List.cons.injEq, exists_eq_left']
theorem lb_len_se {m : List (ByteArray × En)} {k : ByteArray} (h : hasAt ltS eqS (m.map Prod.fst) k = true) : lb ltS (m.map Prod.fst) k < m.length := by
  apply Nat.lt_of_not_le
  intro hc
  rw [hasAt_ge (by rw [List.length_map]; omega)] at h
  cases h
theorem with_call_se (m : List (ByteArray × En)) (k : ByteArray) (v : En) (hr : q2c m) (hlen : m.length ≤ 900000) :
    PCall P 113 [q0y m, str k, En.av v] (fun x => x = q0y (withG ltS eqS m k v)) := by
  refine q0r tyOk Tryz.func113 rfl rfl ?_
  intro K hK
  simp only [Tryz.ntmps113, List.length_cons, List.length_nil, Nat.reduceAdd, Nat.reduceSub, List.replicate, List.cons_append, List.nil_append]
  have ev0 : En.av v = .agg [.sl 4 (avs v.l), i64 v.t.st, i64 v.t.pr, i64 v.t.n] := rfl
  have hfind := find_se m k hr (by omega)
  unfold q0y at hfind
  try simp (maxSteps := 1000000) only [seval, q0y, ev0]
  (refine q0g hfind rfl ?_; rintro _ rfl)
  unfold withG at hK
  have lm1 : (m.map fun p => str p.1).length ≤ 1000000 := by rw [List.length_map]; omega
  have lm2 : (m.map fun p => En.av p.2).length ≤ 1000000 := by rw [List.length_map]; omega
  have hle : lb ltS (m.map Prod.fst) k ≤ m.length := by have := lb_le (lt := ltS) (m.map Prod.fst) k; rwa [List.length_map] at this
  cases hh : hasAt ltS eqS (m.map Prod.fst) k
  · rw [hh] at hK
    try simp (maxSteps := 1000000) only [seval]
    refine q0u tyOk (by rfl) (by simp only [List.length_cons, List.length_nil, Nat.reduceAdd, Nat.zero_le]) (by kernel_rfl) rfl ?_
    try simp (maxSteps := 1000000) only [seval]
    refine q2p (clone_str _ lm1) rfl rfl ?_
    try simp (maxSteps := 1000000) only [seval]
    refine q5c (insert_str _ (str k) (lb ltS (m.map Prod.fst) k) (by rw [List.length_map]; exact hle) lm1) 3 (by decide) rfl rfl rfl rfl ?_
    try simp (maxSteps := 1000000) only [seval]
    refine q2p (clone_ent _ lm2) rfl rfl ?_
    try simp (maxSteps := 1000000) only [seval]
    refine q5c (insert_ent _ (En.av v) (lb ltS (m.map Prod.fst) k) (by rw [List.length_map]; exact hle) lm2) 4 (by decide) rfl rfl rfl rfl ?_
    try simp (maxSteps := 1000000) only [seval]
    refine ⟨by kernel_rfl, ?_⟩
    try simp (maxSteps := 1000000) only [seval]
    apply hK
    simp only [Tryz.results113, retK, ares, List.take_nil, Bool.and_true, Bool.true_and, AV.ofResults, St.trunc, q00, q01, aload, acell, T, TI.isAgg, List.getD_cons_zero, List.getD_cons_succ, List.take_zero, List.take_succ_cons, List.drop_zero, List.map_nil, List.getElem?_cons_zero, List.getElem?_cons_succ, List.length_cons, List.length_nil, Nat.reduceAdd, Nat.reduceLeDiff, Nat.le_refl, true_and, and_true, ↓reduceIte, Bool.false_eq_true, List.cons.injEq, exists_eq_left']
    rw [q2l (by simp; omega), q2l (by simp; omega)]
    simp only [q0y, List.map_append, List.map_take, List.map_drop, List.map_cons, List.map_nil]
  · rw [hh] at hK
    have hl := lb_len_se hh
    have eg : (m.map fun p => En.av p.2).getD (Int.toNat ((lb ltS (m.map Prod.fst) k : Nat) : Int)) .any = En.av m[lb ltS (m.map Prod.fst) k].2 := at_map hl
    have k1 : (0 : Int) ≤ ((lb ltS (m.map Prod.fst) k : Nat) : Int) ∧ Int.toNat ((lb ltS (m.map Prod.fst) k : Nat) : Int) < m.length := by omega
    try simp (maxSteps := 1000000) only [seval]
    refine q0u tyOk (by rfl) (by simp only [List.length_cons, List.length_nil, Nat.reduceAdd, Nat.zero_le]) (by kernel_rfl) rfl ?_
    try simp (maxSteps := 1000000) only [seval]
    refine q2p (clone_ent _ lm2) rfl rfl ?_
    try simp (maxSteps := 1000000) only [seval]
    refine ⟨by kernel_rfl, ?_⟩
    have eg' : (m.map fun p => En.av p.2).getD (Int.toNat ((lb ltS (m.map Prod.fst) k : Nat) : Int)) .any = .agg [.sl 4 (avs (m[lb ltS (m.map Prod.fst) k].2).l), i64 (m[lb ltS (m.map Prod.fst) k].2).t.st, i64 (m[lb ltS (m.map Prod.fst) k].2).t.pr, i64 (m[lb ltS (m.map Prod.fst) k].2).t.n] := eg
    try simp (maxSteps := 1000000) only [seval, eg', k1, List.length_map, ev0]
    apply hK
    simp only [Tryz.results113, retK, ares, List.take_nil, Bool.and_true, Bool.true_and, AV.ofResults, St.trunc, q00, q01, aload, acell, T, TI.isAgg, List.getD_cons_zero, List.getD_cons_succ, List.take_zero, List.take_succ_cons, List.drop_zero, List.map_nil, List.getElem?_cons_zero, List.getElem?_cons_succ, List.length_cons, List.length_nil, Nat.reduceAdd, Nat.reduceLeDiff, Nat.le_refl, true_and, and_true, ↓reduceIte, List.cons.injEq, exists_eq_left']
    rw [← ev0]
    have he : m[lb ltS (m.map Prod.fst) k].1 = k := by
      have h1 := hh
      rw [hasAt_lt (by rw [List.length_map]; exact hl)] at h1
      have h2 := (q1t _ _).1 h1
      simpa using h2
    rw [q2l (by simp)]
    simp only [q0y, List.map_set, Int.toNat_natCast]
    congr 2
    congr 1
    refine (set_same_map (f := fun p : ByteArray × En => str p.1) hl ?_).symm
    simp only [he]
theorem all_call_se (m : List (ByteArray × En)) : PCall P 89 [q0y m] (fun x => x = .fn 111 [.rp [.sl 1 (m.map fun p => str p.1), .sl 4 (m.map fun p => En.av p.2)]]) := by
  refine q0r tyOk Tryz.func89 rfl rfl ?_
  intro K hK
  simp only [Tryz.ntmps89, List.length_cons, List.length_nil, Nat.reduceAdd, Nat.reduceSub, List.replicate, List.cons_append, List.nil_append]
  try simp (maxSteps := 1000000) only [seval, q0y]
  apply hK
  simp only [Tryz.results89, retK, ares, q14, AV.pure, Bool.and_self, Bool.and_true, Bool.true_and, AV.ofResults, St.trunc, q00, q01, List.getD_cons_zero, List.getD_cons_succ, List.take_zero, List.drop_zero, List.map_nil, List.getElem?_cons_zero, Nat.le_refl, true_and, and_true, ↓reduceIte, List.cons.injEq, exists_eq_left']
def q33 (m : List (ByteArray × En)) : List (List AV) := m.map fun p => [str p.1, En.av p.2]
theorem pairs_pre_se {m : List (ByteArray × En)} (i : Nat) : q33 (m.take i) <+: q33 m := (List.take_prefix i m).map _
theorem seq_se (m : List (ByteArray × En)) (hlen : m.length ≤ 1000000) : ICall P 111 [.rp [.sl 1 (m.map fun p => str p.1), .sl 4 (m.map fun p => En.av p.2)]] (q33 m) := by
  refine icall_goY tyOk Tryz.func111 rfl rfl rfl ?_
  intro y K hK
  simp only [Tryz.ntmps111, List.length_cons, List.length_nil, Nat.reduceAdd, Nat.reduceSub, List.replicate, List.cons_append, List.nil_append]
  try simp (maxSteps := 1000000) only [seval, List.length_map]
  refine loopY_rule tyOk (α := Nat) 0 [0, 1, 6, 7, 8] (fun i => i ≤ m.length)
    (fun i => ⟨[.v y, .rp [.sl 1 (m.map fun p => str p.1), .sl 4 (m.map fun p => En.av p.2)], .any, .any, .any, .any, .sl 1 (m.map fun p => str p.1), i64 m.length, i64 i, .any, .any, .any, .any, .any, .any, .any, .any, .any, .any, .any, .any, .any, .any], []⟩)
    (fun i => (q33 (m.take i), false)) (fun i => m.length - i) 0 (Nat.le_refl _) (Nat.zero_le _) rfl rfl ?_
  intro i hi
  try simp (maxSteps := 1000000) only [seval]
  (first | refine q0j ?_ ?_ | refine q0k ?_ ?_ | refine q0l ?_ ?_ | refine q0m ?_ ?_ | refine q0i ?_ ?_) <;> intro h <;> try simp (maxSteps := 1000000) only [seval]
  · have hlt : i < m.length := by simpa using h
    have e1 := at_map (f := fun p : ByteArray × En => str p.1) hlt
    have e2 := at_map (f := fun p : ByteArray × En => En.av p.2) hlt
    have c1 : (0 : Int) ≤ (i : Int) ∧ Int.toNat (i : Int) < m.length := by omega
    have ew : IntKind.i64.wrap ((i : Int) + 1) = ((i + 1 : Nat) : Int) := by rw [wrap_i64 (by omega) (by omega)]; rfl
    have e3 : q33 (m.take i) ++ [[str m[i].1, En.av m[i].2]] = q33 (m.take (i + 1)) := by
      rw [q24 hlt]; simp only [q33, List.map_append, List.map_cons, List.map_nil]
    simp only [En.av] at e3
    have e2' : (m.map fun p => En.av p.2).getD (Int.toNat (i : Int)) .any = .agg [.sl 4 (avs m[i].2.l), i64 m[i].2.t.st, i64 m[i].2.t.pr, i64 m[i].2.t.n] := e2
    try simp (maxSteps := 1000000) only [seval, e1, e2', c1, List.length_map]
    refine ⟨⟨by rw [e3]; exact pairs_pre_se _, en_refs _ _⟩, ?_⟩
    intro b
    cases b with
    | true =>
      try simp (maxSteps := 1000000) only [seval, ew]
      simp only [q47, St.trunc, St.keep, q00, q01, keepV, List.elem_cons, List.elem_nil, List.take_zero, List.map_nil, Nat.reduceAdd, Nat.reduceBEq, Nat.zero_add, Bool.false_eq_true, ↓reduceIte]
      exact ⟨i + 1, hlt, by omega, rfl, by rw [e3]⟩
    | false =>
      try simp (maxSteps := 1000000) only [seval]
      exact hK _ _ _ (itK_ret ⟨by rw [e3]; exact pairs_pre_se _, fun h => by cases h⟩)
  · have hge : i = m.length := by have : ¬ ((i : Int) < (m.length : Int)) := by simpa using h
                                  omega
    subst hge
    refine hK _ _ _ (itK_normal ⟨pairs_pre_se _, fun _ => by rw [List.take_length]⟩)
theorem get_raw_se (m : List (ByteArray × En)) (k : ByteArray) (hr : q2c m) (hlen : m.length ≤ 1000000) :
    PCall P 78 [q0y m, str k] (fun x => x = .tup [if hasAt ltS eqS (m.map Prod.fst) k = true then En.av (getG ltS eqS nilEn m k).1 else rawNil, bool (getG ltS eqS nilEn m k).2]) := by
  refine q0r tyOk Tryz.func78 rfl rfl ?_
  intro K hK
  simp only [Tryz.ntmps78, List.length_cons, List.length_nil, Nat.reduceAdd, Nat.reduceSub, List.replicate, List.cons_append, List.nil_append]
  have hfind := find_se m k hr hlen
  unfold q0y at hfind
  try simp (maxSteps := 1000000) only [seval, q0y]
  (refine q0g hfind rfl ?_; rintro _ rfl)
  unfold getG at hK
  cases hh : hasAt ltS eqS (m.map Prod.fst) k
  · rw [hh] at hK
    try simp (maxSteps := 1000000) only [seval]
    apply hK
    simp only [Tryz.results78, retK, ares, List.take_nil, Bool.and_true, Bool.true_and, AV.ofResults, St.trunc, q00, q01, aload, acell, T, TI.isAgg, List.getD_cons_zero, List.getD_cons_succ, List.take_zero, List.take_succ_cons, List.drop_zero, List.map_nil, List.getElem?_cons_zero, List.getElem?_cons_succ, List.length_cons, List.length_nil, Nat.reduceAdd, Nat.le_refl, true_and, and_true, ↓reduceIte, Bool.false_eq_true, List.cons.injEq, exists_eq_left']
  · rw [hh] at hK
    have hl := lb_len_se hh
    have eg : (m.map fun p => En.av p.2).getD (Int.toNat ((lb ltS (m.map Prod.fst) k : Nat) : Int)) .any = En.av ((m.map Prod.snd).getD (lb ltS (m.map Prod.fst) k) nilEn) := by
      rw [at_map hl, List.getD_eq_getElem?_getD, List.getElem?_map, List.getElem?_eq_getElem hl]; rfl
    have k1 : (0 : Int) ≤ ((lb ltS (m.map Prod.fst) k : Nat) : Int) ∧ Int.toNat ((lb ltS (m.map Prod.fst) k : Nat) : Int) < m.length := by omega
    obtain ⟨en, hen⟩ : ∃ en, (m.map Prod.snd).getD (lb ltS (m.map Prod.fst) k) nilEn = en := ⟨_, rfl⟩
    rw [hen] at eg hK
    have eg' : (m.map fun p => En.av p.2).getD (Int.toNat ((lb ltS (m.map Prod.fst) k : Nat) : Int)) .any = .agg [.sl 4 (avs en.l), i64 en.t.st, i64 en.t.pr, i64 en.t.n] := eg
    try simp (maxSteps := 1000000) only [seval, eg', k1, List.length_map]
    apply hK
    simp only [Tryz.results78, retK, ares, List.take_nil, Bool.and_true, Bool.true_and, AV.ofResults, St.trunc, q00, q01, aload, acell, T, TI.isAgg, List.getD_cons_zero, List.getD_cons_succ, List.take_zero, List.take_succ_cons, List.drop_zero, List.map_nil, List.getElem?_cons_zero, List.getElem?_cons_succ, List.length_cons, List.length_nil, Nat.reduceAdd, Nat.le_refl, true_and, and_true, ↓reduceIte, List.cons.injEq, exists_eq_left']
    rfl
theorem get_call_se (m : List (ByteArray × En)) (k : ByteArray) (hr : q2c m) (hlen : m.length ≤ 1000000) :
    PCall P 78 [q0y m, str k] (fun x => x = .tup [En.av (getG ltS eqS nilEn m k).1, bool (getG ltS eqS nilEn m k).2]) := by
  refine (get_raw_se m k hr hlen).weaken (.inr ⟨_, rfl, _, _, rfl, ?_, _, _, rfl, q2a _, rfl⟩)
  unfold getG
  split
  · exact q2a _
  · exact weak_en
theorem without_call_se (m : List (ByteArray × En)) (k : ByteArray) (hr : q2c m) (hlen : m.length ≤ 900000) :
    PCall P 112 [q0y m, str k] (fun x => x = q0y (q21 ltS eqS m k)) := by
  refine q0r tyOk Tryz.func112 rfl rfl ?_
  intro K hK
  simp only [Tryz.ntmps112, List.length_cons, List.length_nil, Nat.reduceAdd, Nat.reduceSub, List.replicate, List.cons_append, List.nil_append]
  have hfind := find_se m k hr (by omega)
  unfold q0y at hfind
  try simp (maxSteps := 1000000) only [seval, q0y]
  (refine q0g hfind rfl ?_; rintro _ rfl)
  unfold q21 at hK
  have lm1 : (m.map fun p => str p.1).length ≤ 1000000 := by rw [List.length_map]; omega
  have lm2 : (m.map fun p => En.av p.2).length ≤ 1000000 := by rw [List.length_map]; omega
  cases hh : hasAt ltS eqS (m.map Prod.fst) k
  · rw [hh] at hK
    try simp (maxSteps := 1000000) only [seval]
    apply hK
    simp only [Tryz.results112, retK, ares, List.take_nil, Bool.and_true, Bool.true_and, AV.ofResults, St.trunc, q00, q01, aload, acell, T, TI.isAgg, List.getD_cons_zero, List.getD_cons_succ, List.take_zero, List.take_succ_cons, List.drop_zero, List.map_nil, List.getElem?_cons_zero, List.getElem?_cons_succ, List.length_cons, List.length_nil, Nat.reduceAdd, Nat.le_refl, true_and, and_true, ↓reduceIte, Bool.false_eq_true, List.cons.injEq, exists_eq_left']
    rfl
  · rw [hh] at hK
    have hl := lb_len_se hh
    have w1 : IntKind.i64.wrap (((lb ltS (m.map Prod.fst) k : Nat) : Int) + 1) = ((lb ltS (m.map Prod.fst) k + 1 : Nat) : Int) := by rw [wrap_i64 (by omega) (by omega)]; rfl
    try simp (maxSteps := 1000000) only [seval]
    refine q0u tyOk (by rfl) (by simp only [List.length_cons, List.length_nil, Nat.reduceAdd, Nat.zero_le]) (by kernel_rfl) rfl ?_
    try simp (maxSteps := 1000000) only [seval, w1]
    refine q2p (clone_str _ lm1) rfl rfl ?_
    try simp (maxSteps := 1000000) only [seval, w1]
    refine drawCall_on (delete_str _ (lb ltS (m.map Prod.fst) k) (by rw [List.length_map]; exact hl) lm1) 2 rfl rfl rfl rfl rfl ?_
    try simp (maxSteps := 1000000) only [seval, w1]
    refine q2p (clone_ent _ lm2) rfl rfl ?_
    try simp (maxSteps := 1000000) only [seval, w1]
    refine drawCall_on (delete_ent _ (lb ltS (m.map Prod.fst) k) (by rw [List.length_map]; exact hl) lm2) 3 rfl rfl rfl rfl rfl ?_
    try simp (maxSteps := 1000000) only [seval, w1]
    refine ⟨by kernel_rfl, ?_⟩
    try simp (maxSteps := 1000000) only [seval]
    apply hK
    simp only [Tryz.results112, retK, ares, List.take_nil, Bool.and_true, Bool.true_and, AV.ofResults, St.trunc, q00, q01, aload, acell, T, TI.isAgg, List.getD_cons_zero, List.getD_cons_succ, List.take_zero, List.take_succ_cons, List.drop_zero, List.map_nil, List.getElem?_cons_zero, List.getElem?_cons_succ, List.length_cons, List.length_nil, Nat.reduceAdd, Nat.reduceLeDiff, Nat.le_refl, true_and, and_true, ↓reduceIte, List.cons.injEq, exists_eq_left']
    rw [cut_last (by rw [List.length_map]; exact hl), cut_last (by rw [List.length_map]; exact hl)]
    simp only [q0y, List.map_append, List.map_take, List.map_drop]
end Go.Proofs.YtdkcpcflfnakdaaGreat
namespace Go.Proofs.YtdkcpcflfnakdaaGreat
open Go Go.Proofs.YtdkcpcflfnakdaaGreat.Sym
attribute [-sevalprocAttr] Int.reduceToNat Int.reduceNatCast Int.reduceNatCast' Nat.reduceSubDiff
set_option maxRecDepth 100000
set_option maxHeartbeats 1000000
set_option linter.unusedSimpArgs false
set_option linter.unusedVariables false

def addW (a b : Int) : Int := if IntKind.u64.wrap (18446744073709551615 - a) < b then 18446744073709551615 else IntKind.u64.wrap (a + b)
theorem tick_Add (a b : Int) : PCall P 94 [u64 a, u64 b] (fun x => x = u64 (addW a b)) := by
  refine q0r tyOk Tryz.func94 rfl rfl ?_
  intro K hK
  simp only [Tryz.ntmps94, List.length_cons, List.length_nil, Nat.reduceAdd, Nat.reduceSub, List.replicate, List.cons_append, List.nil_append]
  try simp (maxSteps := 1000000) only [seval]
  (first | refine q0j ?_ ?_ | refine q0k ?_ ?_ | refine q0l ?_ ?_ | refine q0m ?_ ?_ | refine q0i ?_ ?_) <;> intro h <;> try simp (maxSteps := 1000000) only [seval]
  · apply hK
    simp only [Tryz.results94, retK, ares, List.take_nil, Bool.and_true, Bool.true_and, AV.ofResults, St.trunc, q00, q01, List.getD_cons_zero, List.getD_cons_succ, List.map_nil, true_and, and_true, List.cons.injEq, exists_eq_left']
    rw [addW, if_pos (by simpa using h)]
  · apply hK
    simp only [Tryz.results94, retK, ares, List.take_nil, Bool.and_true, Bool.true_and, AV.ofResults, St.trunc, q00, q01, List.getD_cons_zero, List.getD_cons_succ, List.map_nil, true_and, and_true, List.cons.injEq, exists_eq_left']
    rw [addW, if_neg (by simpa using h)]
abbrev Bk := List (ByteArray × En)
def ofP (l : List Ses) (now : Int) : Pr := ⟨(bestF (lives now l)).1.st, (bestF (lives now l)).1.pr, (bestF (lives now l)).2⟩
def wasOf (m : Bk) (u : ByteArray) : En := (getG ltS eqS nilEn m u).1
def q2n (m : Bk) (u : ByteArray) (l : List Ses) (now : Int) : Bk := if l.length = 0 then q21 ltS eqS m u else withG ltS eqS m u ⟨l, ofP l now⟩
def settleC (m : Bk) (u : ByteArray) (l : List Ses) (now : Int) : List Chg := if ofP l now = (wasOf m u).t then [] else [⟨u, (wasOf m u).t, ofP l now⟩]

theorem of_call (l : List Ses) (now : Int) (h : l.length ≤ 1000000) : PCall P 79 [.sl 4 (avs l), u64 now] (fun x => x = .agg [i64 (ofP l now).st, i64 (ofP l now).pr, i64 (ofP l now).n]) := aggr_Of l now (by omega)
theorem get_open (m : Bk) (u : ByteArray) (hr : q2c m) (hlen : m.length ≤ 800000) : PCall P 78 [q0y m, str u]
    (fun x => x = .tup [.agg [.sl 4 (avs (wasOf m u).l), i64 (wasOf m u).t.st, i64 (wasOf m u).t.pr, i64 (wasOf m u).t.n], bool (getG ltS eqS nilEn m u).2]) := get_call_se m u hr (by omega)

theorem settle_raw (m : Bk) (u : ByteArray) (l : List Ses) (now : Int) (hr : q2c m) (hlen : m.length ≤ 800000) (hl : l.length ≤ 800000) :
    PCall P 91 [q0y m, str u, .sl 4 (avs l), u64 now] (fun x => x = .tup [q0y (q2n m u l now), if settleC m u l now = [] then .v (.slice none 0 0) else .sl 7 (chgs (settleC m u l now))]) := by
  refine q0r tyOk Tryz.func91 rfl rfl ?_
  intro K hK
  simp only [Tryz.ntmps91, List.length_cons, List.length_nil, Nat.reduceAdd, Nat.reduceSub, List.replicate, List.cons_append, List.nil_append]
  try simp (maxSteps := 1000000) only [seval, q0y]
  (refine q0g (get_open m u hr hlen) rfl ?_; rintro _ rfl)
  try simp (maxSteps := 1000000) only [seval]
  (refine q0g (of_call l now (by omega)) rfl ?_; rintro _ rfl)
  try simp (maxSteps := 1000000) only [seval, pr_beq, q11]
  (first | refine q0j ?_ ?_ | refine q0k ?_ ?_ | refine q0l ?_ ?_ | refine q0m ?_ ?_ | refine q0i ?_ ?_) <;> intro h
  · have hne : ¬ ofP l now = (wasOf m u).t := by simpa using h
    have hc : settleC m u l now = [⟨u, (wasOf m u).t, ofP l now⟩] := by rw [settleC, if_neg hne]
    try simp (maxSteps := 1000000) only [seval, q11]
    (first | refine q0j ?_ ?_ | refine q0k ?_ ?_ | refine q0l ?_ ?_ | refine q0m ?_ ?_ | refine q0i ?_ ?_) <;> intro h2
    · have hl0 : l.length = 0 := by simpa using h2
      have hs : q2n m u l now = q21 ltS eqS m u := by rw [q2n, if_pos hl0]
      try simp (maxSteps := 1000000) only [seval]
      (refine q0g (without_call_se m u hr (by omega)) rfl ?_; rintro _ rfl)
      try simp (maxSteps := 1000000) only [seval, q0y]
      apply hK
      simp only [Tryz.results91, retK, ares, List.take_nil, Bool.and_true, Bool.true_and, AV.ofResults, St.trunc, q00, q01, aload, acell, T, TI.isAgg, List.getD_cons_zero, List.getD_cons_succ, List.take_zero, List.take_succ_cons, List.drop_zero, List.map_nil, List.getElem?_cons_zero, List.getElem?_cons_succ, List.length_cons, List.length_nil, Nat.reduceAdd, Nat.reduceLeDiff, Nat.le_refl, true_and, and_true, ↓reduceIte, List.cons.injEq, exists_eq_left']
      rw [hc, hs]
      try rfl
    · have hl0 : ¬ l.length = 0 := by simpa using h2
      have hs : q2n m u l now = withG ltS eqS m u ⟨l, ofP l now⟩ := by rw [q2n, if_neg hl0]
      have hw := with_call_se m u ⟨l, ofP l now⟩ hr (by omega)
      unfold En.av at hw
      try simp (maxSteps := 1000000) only [seval]
      (refine q0g hw rfl ?_; rintro _ rfl)
      try simp (maxSteps := 1000000) only [seval, q0y]
      apply hK
      simp only [Tryz.results91, retK, ares, List.take_nil, Bool.and_true, Bool.true_and, AV.ofResults, St.trunc, q00, q01, aload, acell, T, TI.isAgg, List.getD_cons_zero, List.getD_cons_succ, List.take_zero, List.take_succ_cons, List.drop_zero, List.map_nil, List.getElem?_cons_zero, List.getElem?_cons_succ, List.length_cons, List.length_nil, Nat.reduceAdd, Nat.reduceLeDiff, Nat.le_refl, true_and, and_true, ↓reduceIte, List.cons.injEq, exists_eq_left']
      rw [hc, hs]
      try rfl
  · have hne : ofP l now = (wasOf m u).t := by simpa using h
    have hc : settleC m u l now = [] := by rw [settleC, if_pos hne]
    try simp (maxSteps := 1000000) only [seval, q11]
    (first | refine q0j ?_ ?_ | refine q0k ?_ ?_ | refine q0l ?_ ?_ | refine q0m ?_ ?_ | refine q0i ?_ ?_) <;> intro h2
    · have hl0 : l.length = 0 := by simpa using h2
      have hs : q2n m u l now = q21 ltS eqS m u := by rw [q2n, if_pos hl0]
      try simp (maxSteps := 1000000) only [seval]
      (refine q0g (without_call_se m u hr (by omega)) rfl ?_; rintro _ rfl)
      try simp (maxSteps := 1000000) only [seval, q0y]
      apply hK
      simp only [Tryz.results91, retK, ares, List.take_nil, Bool.and_true, Bool.true_and, AV.ofResults, St.trunc, q00, q01, aload, acell, T, TI.isAgg, List.getD_cons_zero, List.getD_cons_succ, List.take_zero, List.take_succ_cons, List.drop_zero, List.map_nil, List.getElem?_cons_zero, List.getElem?_cons_succ, List.length_cons, List.length_nil, Nat.reduceAdd, Nat.le_refl, true_and, and_true, ↓reduceIte, List.cons.injEq, exists_eq_left']
      rw [hc, hs]
      try rfl
    · have hl0 : ¬ l.length = 0 := by simpa using h2
      have hs : q2n m u l now = withG ltS eqS m u ⟨l, ofP l now⟩ := by rw [q2n, if_neg hl0]
      have hw := with_call_se m u ⟨l, ofP l now⟩ hr (by omega)
      unfold En.av at hw
      try simp (maxSteps := 1000000) only [seval]
      (refine q0g hw rfl ?_; rintro _ rfl)
      try simp (maxSteps := 1000000) only [seval, q0y]
      apply hK
      simp only [Tryz.results91, retK, ares, List.take_nil, Bool.and_true, Bool.true_and, AV.ofResults, St.trunc, q00, q01, aload, acell, T, TI.isAgg, List.getD_cons_zero, List.getD_cons_succ, List.take_zero, List.take_succ_cons, List.drop_zero, List.map_nil, List.getElem?_cons_zero, List.getElem?_cons_succ, List.length_cons, List.length_nil, Nat.reduceAdd, Nat.le_refl, true_and, and_true, ↓reduceIte, List.cons.injEq, exists_eq_left']
      rw [hc, hs]
      try rfl
theorem q57 (m : Bk) (u : ByteArray) (l : List Ses) (now : Int) (hr : q2c m) (hlen : m.length ≤ 800000) (hl : l.length ≤ 800000) :
    PCall P 91 [q0y m, str u, .sl 4 (avs l), u64 now] (fun x => x = .tup [q0y (q2n m u l now), .sl 7 (chgs (settleC m u l now))]) := by
  refine (settle_raw m u l now hr hlen hl).weaken (.inr ⟨_, rfl, _, _, rfl, q2a _, _, _, rfl, ?_, rfl⟩)
  split
  · rename_i h; rw [h]; exact weak_nil 7
  · exact q2a _

structure Opb where
  kind : Int
  u : ByteArray
  id : Int
  st : Int
  pr : Int
  ttl : Int
  us : List ByteArray
def Opb.av (o : Opb) : AV := .agg [i64 o.kind, str o.u, i64 o.id, i64 o.st, i64 o.pr, u64 o.ttl, .sl 1 (o.us.map fun x => str x)]
def bookOk (n : Nat) (m : Bk) : Prop := q2c m ∧ m.length ≤ n ∧ ∀ p ∈ m, Up p.2.l ∧ p.2.l.length ≤ n
def writeL (m : Bk) (o : Opb) (now most : Int) : List Ses × Int :=
  let l := lives now (wasOf m o.u).l
  if o.kind = 1 then setF l ⟨o.id, o.st, o.pr, addW now o.ttl⟩ most
  else if o.kind = 2 then beatF l o.id (addW now o.ttl)
  else if o.kind = 3 then (clear l o.id, if has l o.id = true then 0 else 3)
  else (l, 0)
def writeB (m : Bk) (o : Opb) (now most : Int) : Bk := q2n m o.u (writeL m o now most).1 now
def writeC (m : Bk) (o : Opb) (now most : Int) : List Chg := settleC m o.u (writeL m o now most).1 now
theorem was_ok {n : Nat} {m : Bk} (h : bookOk n m) (u : ByteArray) : Up (wasOf m u).l ∧ (wasOf m u).l.length ≤ n := by
  by_cases hk : u ∈ m.map Prod.fst
  · obtain ⟨⟨k, e⟩, hp, rfl⟩ := List.mem_map.1 hk
    rw [wasOf, get_mem ordS q1t h.1 hp]
    exact h.2.2 _ hp
  · rw [wasOf, get_none ordS q1t h.1 hk]
    exact ⟨List.Pairwise.nil, Nat.zero_le _⟩
theorem put_len {l : List Ses} (hr : Up l) (s : Ses) : (put l s).length ≤ l.length + 1 := by
  rw [← put_at hr s]
  split
  · rw [List.length_set]; omega
  · simp; omega
theorem setF_ok {l : List Ses} (hr : Up l) (s : Ses) (most : Int) : Up (setF l s most).1 ∧ (setF l s most).1.length ≤ l.length + 1 := by
  unfold setF
  split
  · exact ⟨hr, Nat.le_succ _⟩
  · rw [ins_eq hr]; exact ⟨put_up hr s, put_len hr s⟩
theorem bmpS_id (id u : Int) (s : Ses) : (bmpS id u s).id = s.id := by unfold bmpS; split <;> rfl
theorem beatF_ok {l : List Ses} (hr : Up l) (id u : Int) : Up (beatF l id u).1 ∧ (beatF l id u).1.length = l.length := by
  unfold beatF
  split
  · refine ⟨?_, by simp⟩
    have e : ids (l.map (bmpS id u)) = ids l := by
      rw [ids, ids, List.map_map]
      exact List.map_congr_left fun s _ => bmpS_id id u s
    show Rises ltI (ids (l.map (bmpS id u)))
    rw [e]; exact hr
  · exact ⟨hr, rfl⟩
theorem writeL_ok {n : Nat} {m : Bk} (h : bookOk n m) (o : Opb) (now most : Int) : Up (writeL m o now most).1 ∧ (writeL m o now most).1.length ≤ n + 1 := by
  obtain ⟨h1, h2⟩ := was_ok h o.u
  have h3 := lives_up h1 now
  have h4 : (lives now (wasOf m o.u).l).length ≤ (wasOf m o.u).l.length := List.length_filter_le _ _
  unfold writeL
  simp only
  split
  · have := setF_ok h3 ⟨o.id, o.st, o.pr, addW now o.ttl⟩ most; exact ⟨this.1, by omega⟩
  · split
    · have := beatF_ok h3 o.id (addW now o.ttl); exact ⟨this.1, by omega⟩
    · split
      · exact ⟨clear_up h3 _, by have : (clear (lives now (wasOf m o.u).l) o.id).length ≤ _ := List.length_filter_le _ _; simp only; omega⟩
      · exact ⟨h3, by simp only; omega⟩
end Go.Proofs.YtdkcpcflfnakdaaGreat
namespace Go.Proofs.YtdkcpcflfnakdaaGreat
open Go Go.Proofs.YtdkcpcflfnakdaaGreat.Sym
attribute [-sevalprocAttr] Int.reduceToNat Int.reduceNatCast Int.reduceNatCast' Nat.reduceSubDiff
set_option maxRecDepth 100000
set_option maxHeartbeats 1000000
set_option linter.unusedSimpArgs false
set_option linter.unusedVariables false

theorem write_call (n : Nat) (m : Bk) (o : Opb) (now most : Int) (h : bookOk n m) (hn : n ≤ 700000) :
    PCall P 66 [q0y m, o.av, u64 now, i64 most] (fun x => x = .tup [q0y (writeB m o now most), .sl 7 (chgs (writeC m o now most)), i64 (writeL m o now most).2]) := by
  refine q0r tyOk Tryz.func66 rfl rfl ?_
  intro K hK
  simp only [Tryz.ntmps66, List.length_cons, List.length_nil, Nat.reduceAdd, Nat.reduceSub, List.replicate, List.cons_append, List.nil_append]
  obtain ⟨hw1, hw2⟩ := was_ok h o.u
  have hlv := lives_up hw1 now
  have hll : (lives now (wasOf m o.u).l).length ≤ (wasOf m o.u).l.length := List.length_filter_le _ _
  have hok := writeL_ok h o now most
  have hml := h.2.1
  try simp (maxSteps := 1000000) only [seval, q0y, Opb.av]
  (refine q0g (get_open m o.u h.1 (by omega)) rfl ?_; rintro _ rfl)
  try simp (maxSteps := 1000000) only [seval]
  (refine q0g (sess_Purge (wasOf m o.u).l now (by omega)) rfl ?_; rintro _ rfl)
  try simp (maxSteps := 1000000) only [seval]
  (refine q0g (tick_Add now o.ttl) rfl ?_; rintro _ rfl)
  try simp (maxSteps := 1000000) only [seval]
  (first | refine q0j ?_ ?_ | refine q0k ?_ ?_ | refine q0l ?_ ?_ | refine q0m ?_ ?_ | refine q0i ?_ ?_) <;> intro h1
  · have k1 : o.kind = 1 := by simpa using h1
    obtain ⟨⟨L, e⟩, hL⟩ : ∃ r, writeL m o now most = r := ⟨_, rfl⟩
    have hS := sess_Set (lives now (wasOf m o.u).l) ⟨o.id, o.st, o.pr, addW now o.ttl⟩ most hlv (by omega)
    have e1 : setF (lives now (wasOf m o.u).l) ⟨o.id, o.st, o.pr, addW now o.ttl⟩ most = (L, e) := by rw [← hL, writeL]; simp only [k1, if_true]
    rw [e1] at hS
    rw [hL] at hok hK
    simp only at hok
    try simp (maxSteps := 1000000) only [seval]
    (refine q0g hS rfl ?_; rintro _ rfl)
    try simp (maxSteps := 1000000) only [seval]
    (refine q0g (q57 m o.u L now h.1 (by omega) (by omega)) rfl ?_; rintro _ rfl)
    try simp (maxSteps := 1000000) only [seval, q0y]
    apply hK
    simp only [Tryz.results66, retK, ares, List.take_nil, Bool.and_true, Bool.true_and, AV.ofResults, St.trunc, q00, q01, aload, acell, T, TI.isAgg, List.getD_cons_zero, List.getD_cons_succ, List.take_zero, List.take_succ_cons, List.drop_zero, List.map_nil, List.getElem?_cons_zero, List.getElem?_cons_succ, List.length_cons, List.length_nil, Nat.reduceAdd, Nat.le_refl, true_and, and_true, ↓reduceIte, List.cons.injEq, exists_eq_left']
    rw [writeB, writeC, hL]
    try rfl
  · have k1 : ¬ o.kind = 1 := by simpa using h1
    try simp (maxSteps := 1000000) only [seval]
    (first | refine q0j ?_ ?_ | refine q0k ?_ ?_ | refine q0l ?_ ?_ | refine q0m ?_ ?_ | refine q0i ?_ ?_) <;> intro h2
    · have k2 : o.kind = 2 := by simpa using h2
      obtain ⟨⟨L, e⟩, hL⟩ : ∃ r, writeL m o now most = r := ⟨_, rfl⟩
      have hS := sess_Beat (lives now (wasOf m o.u).l) o.id (addW now o.ttl) hlv (by omega)
      have e1 : beatF (lives now (wasOf m o.u).l) o.id (addW now o.ttl) = (L, e) := by rw [← hL, writeL]; simp only [if_neg k1, if_pos k2]
      rw [e1] at hS
      rw [hL] at hok hK
      simp only at hok
      try simp (maxSteps := 1000000) only [seval]
      (refine q0g hS rfl ?_; rintro _ rfl)
      try simp (maxSteps := 1000000) only [seval]
      (refine q0g (q57 m o.u L now h.1 (by omega) (by omega)) rfl ?_; rintro _ rfl)
      try simp (maxSteps := 1000000) only [seval, q0y]
      apply hK
      simp only [Tryz.results66, retK, ares, List.take_nil, Bool.and_true, Bool.true_and, AV.ofResults, St.trunc, q00, q01, aload, acell, T, TI.isAgg, List.getD_cons_zero, List.getD_cons_succ, List.take_zero, List.take_succ_cons, List.drop_zero, List.map_nil, List.getElem?_cons_zero, List.getElem?_cons_succ, List.length_cons, List.length_nil, Nat.reduceAdd, Nat.le_refl, true_and, and_true, ↓reduceIte, List.cons.injEq, exists_eq_left']
      rw [writeB, writeC, hL]
      try rfl
    · have k2 : ¬ o.kind = 2 := by simpa using h2
      try simp (maxSteps := 1000000) only [seval]
      (first | refine q0j ?_ ?_ | refine q0k ?_ ?_ | refine q0l ?_ ?_ | refine q0m ?_ ?_ | refine q0i ?_ ?_) <;> intro h3
      · have k3 : o.kind = 3 := by simpa using h3
        obtain ⟨⟨L, e⟩, hL⟩ : ∃ r, writeL m o now most = r := ⟨_, rfl⟩
        have hS := sess_Clear (lives now (wasOf m o.u).l) o.id hlv (by omega)
        have e1 : (clear (lives now (wasOf m o.u).l) o.id, if has (lives now (wasOf m o.u).l) o.id = true then (0 : Int) else 3) = (L, e) := by rw [← hL, writeL]; simp only [if_neg k1, if_neg k2, if_pos k3]
        have e2 := congrArg Prod.fst e1
        have e3 := congrArg Prod.snd e1
        simp only at e2 e3
        rw [e2, e3] at hS
        rw [hL] at hok hK
        simp only at hok
        try simp (maxSteps := 1000000) only [seval]
        (refine q0g hS rfl ?_; rintro _ rfl)
        try simp (maxSteps := 1000000) only [seval]
        (refine q0g (q57 m o.u L now h.1 (by omega) (by omega)) rfl ?_; rintro _ rfl)
        try simp (maxSteps := 1000000) only [seval, q0y]
        apply hK
        simp only [Tryz.results66, retK, ares, List.take_nil, Bool.and_true, Bool.true_and, AV.ofResults, St.trunc, q00, q01, aload, acell, T, TI.isAgg, List.getD_cons_zero, List.getD_cons_succ, List.take_zero, List.take_succ_cons, List.drop_zero, List.map_nil, List.getElem?_cons_zero, List.getElem?_cons_succ, List.length_cons, List.length_nil, Nat.reduceAdd, Nat.le_refl, true_and, and_true, ↓reduceIte, List.cons.injEq, exists_eq_left']
        rw [writeB, writeC, hL]
        try rfl
      · have k3 : ¬ o.kind = 3 := by simpa using h3
        obtain ⟨⟨L, e⟩, hL⟩ : ∃ r, writeL m o now most = r := ⟨_, rfl⟩
        have e1 : (lives now (wasOf m o.u).l, (0 : Int)) = (L, e) := by rw [← hL, writeL]; simp only [if_neg k1, if_neg k2, if_neg k3]
        have e2 := congrArg Prod.fst e1
        have e3 := congrArg Prod.snd e1
        simp only at e2 e3
        rw [hL] at hok hK
        simp only at hok
        rw [e2]
        rw [← e3] at hK
        rw [← e3] at hL
        try simp (maxSteps := 1000000) only [seval]
        (refine q0g (q57 m o.u L now h.1 (by omega) (by omega)) rfl ?_; rintro _ rfl)
        try simp (maxSteps := 1000000) only [seval, q0y]
        apply hK
        simp only [Tryz.results66, retK, ares, List.take_nil, Bool.and_true, Bool.true_and, AV.ofResults, St.trunc, q00, q01, aload, acell, T, TI.isAgg, List.getD_cons_zero, List.getD_cons_succ, List.take_zero, List.take_succ_cons, List.drop_zero, List.map_nil, List.getElem?_cons_zero, List.getElem?_cons_succ, List.length_cons, List.length_nil, Nat.reduceAdd, Nat.le_refl, true_and, and_true, ↓reduceIte, List.cons.injEq, exists_eq_left']
        rw [writeB, writeC, hL]
        try rfl

def q4p (now : Int) (s : Bk × List Chg) (p : ByteArray × En) : Bk × List Chg :=
  (q2n s.1 p.1 (lives now p.2.l) now, s.2 ++ settleC s.1 p.1 (lives now p.2.l) now)
def q2g (m : Bk) (now : Int) : Bk × List Chg := m.foldl (q4p now) (m, [])
def q1r (m : Bk) (now : Int) (i : Nat) : Bk × List Chg := (m.take i).foldl (q4p now) (m, [])
theorem sweep_next {m : Bk} {now : Int} {i : Nat} (h : i < m.length) : q1r m now (i + 1) = q4p now (q1r m now i) m[i] := by
  rw [q1r, q24 h, List.foldl_append]; rfl
theorem settleB_rises {m : Bk} (h : q2c m) (u : ByteArray) (l : List Ses) (now : Int) : q2c (q2n m u l now) ∧ (q2n m u l now).length ≤ m.length + 1 := by
  unfold q2n
  split
  · exact ⟨without_rises ordS q1t h _, Nat.le_succ_of_le (without_len _ _)⟩
  · exact ⟨with_rises ordS q1t h _ _, with_len _ _ _⟩
theorem settleC_len (m : Bk) (u : ByteArray) (l : List Ses) (now : Int) : (settleC m u l now).length ≤ 1 := by
  unfold settleC; split <;> simp
theorem sweep_ok {m : Bk} (h : q2c m) (now : Int) : ∀ i, q2c (q1r m now i).1 ∧ (q1r m now i).1.length ≤ m.length + i ∧ (q1r m now i).2.length ≤ i := by
  intro i
  induction i with
  | zero => exact ⟨h, Nat.le_refl _, Nat.le_refl _⟩
  | succ i ih =>
    by_cases hi : i < m.length
    · rw [sweep_next hi]
      have h1 := settleB_rises ih.1 m[i].1 (lives now m[i].2.l) now
      have h2 := settleC_len (q1r m now i).1 m[i].1 (lives now m[i].2.l) now
      refine ⟨h1.1, ?_, ?_⟩
      · have := h1.2; simp only [q4p]; omega
      · simp only [q4p, List.length_append]; omega
    · have e : q1r m now (i + 1) = q1r m now i := by
        rw [q1r, q1r, List.take_of_length_le (by omega), List.take_of_length_le (by omega)]
      rw [e]
      exact ⟨ih.1, by omega, by omega⟩
abbrev ebox (m : Bk) : AB := .box [.sl 1 (m.map fun p => str p.1), .sl 4 (m.map fun p => En.av p.2)]
theorem sweep_call (n : Nat) (m : Bk) (now : Int) (h : bookOk n m) (hn : n ≤ 200000) :
    PCall P 63 [q0y m, u64 now] (fun x => x = .tup [q0y (q2g m now).1, .sl 7 (chgs (q2g m now).2)]) := by
  refine pcall_goY tyOk Tryz.func63 rfl rfl ?_
  intro K hK
  simp only [Tryz.ntmps63, List.length_cons, List.length_nil, Nat.reduceAdd, Nat.reduceSub, List.replicate, List.cons_append, List.nil_append]
  have hall := all_call_se m
  unfold q0y at hall
  have hml := h.2.1
  try simp (maxSteps := 1000000) only [seval, q0y]
  (refine q0g hall rfl ?_; rintro _ rfl)
  try simp (maxSteps := 1000000) only [seval]
  refine restY_turn (Turns.adoptIn (b := 3) (c := 0) 163 7 rfl rfl) ?_
  refine range_rule tyOk (seq_se m (by omega)) (α := Nat) 5 6 [2, 3, 4, 6, 7] ([.any, .any, .ptr 0 0, .ptr 1 0, .ptr 2 0, .any, .ptr 3 0, .ptr 4 0, .any, .any, .any, .any, .any, .any, .any, .any, .any, .any, .any, .any, .any, .any, .any, .any, .any, .any, .any, .any, .any, .any, .any, .any]) (fun xs i => i = xs.length ∧ i ≤ m.length)
    (fun i => [ebox m, .box [u64 now], .box [.v (.slice none 0 0), .v (.slice none 0 0)], .box [.own 5 7 0 (q1r m now i).2.length], ebox (q1r m now i).1, .row 163 7 (chgs (q1r m now i).2)]) 0 rfl rfl
    (fun x hx => by simp only [q33, List.mem_map] at hx; obtain ⟨p, _, rfl⟩ := hx; rfl) (Nat.zero_le _) (by decide) (by rfl) ⟨rfl, Nat.zero_le _⟩ rfl ?_ ?_
  · rintro xs x _ hpre ⟨rfl, hle⟩
    obtain ⟨hi, _, rfl⟩ := q50 hpre
    have hs := sweep_ok h.1 now xs.length
    have hs2 := sweep_ok h.1 now (xs.length + 1)
    have hnx := sweep_next (now := now) hi
    have hel := (h.2.2 _ (List.getElem_mem hi)).2
    have ev0 : En.av m[xs.length].2 = .agg [.sl 4 (avs m[xs.length].2.l), i64 m[xs.length].2.t.st, i64 m[xs.length].2.t.pr, i64 m[xs.length].2.t.n] := rfl
    obtain ⟨s, hO⟩ : ∃ s, q1r m now xs.length = s := ⟨_, rfl⟩
    rw [hO] at hnx hs
    rw [hnx] at hs2
    simp only [hO]
    generalize m[xs.length] = p at *
    have hll : (lives now p.2.l).length ≤ p.2.l.length := List.length_filter_le _ _
    have hst := q57 s.1 p.1 (lives now p.2.l) now hs.1 (by omega) (by omega)
    have hcl := settleC_len s.1 p.1 (lives now p.2.l) now
    unfold q0y at hst
    try simp (maxSteps := 1000000) only [seval, ev0]
    refine q0u tyOk (by rfl) (by simp only [List.length_cons, List.length_nil, Nat.reduceAdd, Nat.reduceLeDiff]) (by kernel_rfl) rfl ?_
    try simp (maxSteps := 1000000) only [seval]
    refine q3w (sess_Purge p.2.l now (by omega)) rfl ?_
    try simp (maxSteps := 1000000) only [seval]
    refine q3w hst rfl ?_
    try simp (maxSteps := 1000000) only [seval]
    refine ⟨by kernel_rfl, ?_⟩
    try simp (maxSteps := 1000000) only [seval, chgs_len]
    refine ⟨⟨by simp only [maxLen]; omega, by omega⟩, ?_⟩
    try simp (maxSteps := 1000000) only [seval]
    simp only [q31, St.trunc, q00, q01, AB.trunc, q14, AV.pure, Bool.and_self, List.drop_zero, List.take_succ_cons, List.take_zero, List.map_cons, List.map_nil, List.getElem?_cons_zero, List.getElem?_cons_succ, Nat.reduceLeDiff, Nat.le_refl, ↓reduceIte]
    refine ⟨xs.length + 1, ⟨by first | rfl | simp, by omega⟩, ?_⟩
    rw [hnx]
    simp only [q4p, List.length_append, chgs, List.map_append]
  · rintro _ ⟨rfl, hle⟩
    have e1 : (q33 m).length = m.length := by simp [q33]
    have e2 : q1r m now m.length = q2g m now := by rw [q1r, List.take_length, q2g]
    rw [e1, e2]
    try simp (maxSteps := 1000000) only [seval]
    refine q0u tyOk (by rfl) (by simp only [List.length_cons, List.length_nil, Nat.reduceAdd, Nat.zero_le]) (by kernel_rfl) rfl ?_
    try simp (maxSteps := 1000000) only [seval]
    refine ⟨by kernel_rfl, ?_⟩
    try simp (maxSteps := 1000000) only [seval]
    apply hK
    simp only [Tryz.results63, retK, ares, List.take_nil, Bool.and_true, Bool.true_and, AV.ofResults, St.trunc, q00, q01, aload, acell, T, TI.isAgg, List.getD_cons_zero, List.getD_cons_succ, List.take_zero, List.take_succ_cons, List.drop_zero, List.map_nil, List.getElem?_cons_zero, List.getElem?_cons_succ, List.length_cons, List.length_nil, Nat.reduceAdd, Nat.reduceLeDiff, Nat.le_refl, true_and, and_true, ↓reduceIte, List.cons.injEq, exists_eq_left']
    rw [q2l (chgs_len _)]
    try rfl
end Go.Proofs.YtdkcpcflfnakdaaGreat
namespace Go.Proofs.YtdkcpcflfnakdaaGreat
open Go Go.Proofs.YtdkcpcflfnakdaaGreat.Sym
set_option maxRecDepth 100000
set_option maxHeartbeats 1000000
set_option linter.unusedSimpArgs false
set_option linter.unusedVariables false

section
variable {α β : Type} {lt eq : α → α → Bool}
theorem mid_parts (O : StrictOrd lt) {A D : List (α × β)} {k : α} {x : β} (h : RisesM lt (A ++ (k, x) :: D)) :
    (∀ p ∈ A, lt p.1 k = true ∧ lt k p.1 = false) ∧ (∀ p ∈ D, lt k p.1 = true ∧ lt p.1 k = false) := by
  have hp := List.pairwise_append.1 (q3b.1 h)
  have hc := List.pairwise_cons.1 hp.2.1
  have anti : ∀ a b, lt a b = true → lt b a = false := fun a b hab => by
    cases hb : lt b a with
    | false => rfl
    | true => have := O.trans _ _ _ hab hb; rw [O.irrefl] at this; cases this
  exact ⟨fun p hpA => by have := hp.2.2 p hpA (k, x) List.mem_cons_self; exact ⟨this, anti _ _ this⟩, fun p hpD => ⟨hc.1 p hpD, anti _ _ (hc.1 p hpD)⟩⟩
theorem with_mid (O : StrictOrd lt) (he : ∀ a b, eq a b = true ↔ a = b) {A D : List (α × β)} {k : α} {x : β} (v : β) (h : RisesM lt (A ++ (k, x) :: D)) :
    withG lt eq (A ++ (k, x) :: D) k v = A ++ (k, v) :: D := by
  obtain ⟨hA, hD⟩ := mid_parts O h
  rw [with_eq O he h, List.filter_append, List.filter_append, List.filter_cons, List.filter_cons, O.irrefl, q3t (fun p hp => (hA p hp).1), filter_none' (l := D) (fun p hp => (hD p hp).2),
    filter_none' (l := A) (fun p hp => (hA p hp).2), q3t (fun p hp => (hD p hp).1)]
  simp
theorem without_mid (O : StrictOrd lt) (he : ∀ a b, eq a b = true ↔ a = b) {A D : List (α × β)} {k : α} {x : β} (h : RisesM lt (A ++ (k, x) :: D)) :
    q21 lt eq (A ++ (k, x) :: D) k = A ++ D := by
  obtain ⟨hA, hD⟩ := mid_parts O h
  have ne : ∀ a b, (lt a b = true ∨ lt b a = true) → eq a b = false := fun a b hab => by
    cases hb : eq a b with
    | false => rfl
    | true =>
      have := (he _ _).1 hb
      subst this
      rw [O.irrefl] at hab; simp at hab
  rw [without_eq O he h, List.filter_append, List.filter_cons, q3t (l := A) (fun p hp => by rw [ne _ _ (.inl (hA p hp).1)]; rfl), q3t (l := D) (fun p hp => by rw [ne _ _ (.inr (hD p hp).1)]; rfl), (he k k).2 rfl]
  simp
end

def sweptE (now : Int) (p : ByteArray × En) : Option (ByteArray × En) := if (lives now p.2.l).length = 0 then none else some (p.1, ⟨lives now p.2.l, ofP (lives now p.2.l) now⟩)
theorem sweepTo_eq {m : Bk} (h : q2c m) (now : Int) : ∀ i, (q1r m now i).1 = (m.take i).filterMap (sweptE now) ++ m.drop i := by
  intro i
  induction i with
  | zero => rfl
  | succ i ih =>
    by_cases hi : i < m.length
    · have hr := (sweep_ok h now i).1
      rw [ih, List.drop_eq_getElem_cons hi] at hr
      rw [sweep_next hi, q4p, ih, q24 hi, List.filterMap_append, List.drop_eq_getElem_cons hi]
      simp only
      generalize (m.take i).filterMap (sweptE now) = A at hr ⊢
      generalize m.drop (i + 1) = D at hr ⊢
      generalize m[i] = p at hr ⊢
      obtain ⟨k, e⟩ := p
      unfold q2n
      by_cases hl : (lives now e.l).length = 0
      · rw [if_pos hl, without_mid ordS q1t hr]
        simp [sweptE, hl]
      · rw [if_neg hl, with_mid ordS q1t _ hr]
        simp [sweptE, hl]
    · have e : q1r m now (i + 1) = q1r m now i := by
        rw [q1r, q1r, List.take_of_length_le (by omega), List.take_of_length_le (by omega)]
      rw [e, ih, List.take_of_length_le (by omega), List.take_of_length_le (l := m) (by omega), List.drop_of_length_le (by omega), List.drop_of_length_le (by omega)]
theorem sweepF_eq {m : Bk} (h : q2c m) (now : Int) : (q2g m now).1 = m.filterMap (sweptE now) := by
  have := sweepTo_eq h now m.length
  rw [List.take_length, List.drop_length, List.append_nil] at this
  rw [← this, q1r, List.take_length, q2g]
theorem swept_mem {m : Bk} {now : Int} {p : ByteArray × En} (h : p ∈ m.filterMap (sweptE now)) : ∃ q ∈ m, p = (q.1, ⟨lives now q.2.l, ofP (lives now q.2.l) now⟩) ∧ (lives now q.2.l).length ≠ 0 := by
  obtain ⟨q, hq, he⟩ := List.mem_filterMap.1 h
  unfold sweptE at he
  split at he
  · cases he
  · rename_i hn; cases he; exact ⟨q, hq, rfl, hn⟩
theorem book_sweep {n : Nat} {m : Bk} (h : bookOk n m) (now : Int) : bookOk n (q2g m now).1 := by
  have e := sweepF_eq h.1 now
  have hr := (sweep_ok h.1 now m.length).1
  rw [show q1r m now m.length = q2g m now by rw [q1r, List.take_length, q2g]] at hr
  refine ⟨hr, ?_, ?_⟩
  · rw [e]; exact Nat.le_trans (List.length_filterMap_le _ _) h.2.1
  · intro p hp
    rw [e] at hp
    obtain ⟨q, hq, rfl, _⟩ := swept_mem hp
    have := h.2.2 q hq
    exact ⟨lives_up this.1 now, Nat.le_trans (List.length_filter_le _ _) this.2⟩
theorem settle_mem {m : Bk} (hr : q2c m) {u : ByteArray} {l : List Ses} {now : Int} {p : ByteArray × En} (h : p ∈ q2n m u l now) : p ∈ m ∨ (p = (u, ⟨l, ofP l now⟩) ∧ l.length ≠ 0) := by
  unfold q2n at h
  split at h
  · rw [without_eq ordS q1t hr] at h
    exact .inl (List.mem_filter.1 h).1
  · rename_i hn
    rcases (mem_with ordS q1t hr).1 h with h | h
    · exact .inr ⟨h, hn⟩
    · exact .inl h.1
theorem book_write {n : Nat} {m : Bk} (h : bookOk n m) (o : Opb) (now most : Int) : bookOk (n + 1) (writeB m o now most) := by
  have hs := settleB_rises h.1 o.u (writeL m o now most).1 now
  refine ⟨hs.1, Nat.le_trans hs.2 (by have := h.2.1; omega), ?_⟩
  intro p hp
  rcases settle_mem h.1 hp with hp | ⟨rfl, _⟩
  · have := h.2.2 p hp; exact ⟨this.1, by omega⟩
  · exact writeL_ok h o now most
theorem bookOk.mono {n k : Nat} {m : Bk} (h : bookOk n m) (hk : n ≤ k) : bookOk k m := ⟨h.1, Nat.le_trans h.2.1 hk, fun p hp => ⟨(h.2.2 p hp).1, Nat.le_trans (h.2.2 p hp).2 hk⟩⟩

structure ActB where
  sw : Bool
  op : Opb
  by_ : Int
def ActB.av (a : ActB) : AV := .agg [bool a.sw, i64 a.op.kind, str a.op.u, i64 a.op.id, i64 a.op.st, i64 a.op.pr, u64 a.op.ttl, .sl 1 (a.op.us.map fun x => str x), u64 a.by_]
theorem nil_se : weak (.agg [.v (.slice none 0 0), .v (.slice none 0 0)]) (q0y []) := .inr ⟨_, rfl, _, _, rfl, weak_nil 1, _, _, rfl, weak_nil 4, rfl⟩
end Go.Proofs.YtdkcpcflfnakdaaGreat
namespace Go.Proofs.YtdkcpcflfnakdaaGreat
open Go Go.Proofs.YtdkcpcflfnakdaaGreat.Sym
attribute [-sevalprocAttr] Int.reduceToNat Int.reduceNatCast Int.reduceNatCast' Nat.reduceSubDiff
set_option maxRecDepth 100000
set_option maxHeartbeats 1000000
set_option linter.unusedSimpArgs false
set_option linter.unusedVariables false

abbrev u32 (n : Int) : AV := .v (.int .u32 n)
theorem clone_u32 (xs : List AV) (hlen : xs.length ≤ 1000000) :
    ACall P 105 [] [.sl 1 xs] (fun x m' => x = .own 0 1 0 xs.length ∧ m' = [.row 130 1 xs]) := by
  have hm : xs.length ≤ maxLen := by simp only [maxLen]; omega
  have hby : xs.length * 4 ≤ 140737488355328 := by omega
  by_cases h0 : xs = []
  · subst h0
    refine ACall.empty fun a cap => ?_
    cases a with
    | none =>
      refine ACall.weaken (K := fun x m' => x = .v (.slice none 0 0) ∧ m' = []) (q0s.toA (q1z tyOk Tryz.func105 rfl rfl (N := 0) (M := 1) (Nat.zero_le _) (by simp) ?_)) ?_
      · intro K hK
        simp only [Tryz.ntmps105, List.length_cons, List.length_nil, Nat.reduceAdd, Nat.reduceSub, List.replicate, List.cons_append, List.nil_append]
        try simp (maxSteps := 1000000) only [seval]
        apply hK
        simp only [Tryz.results105, retK, ares, List.take_nil, Bool.and_true, AV.ofResults, St.trunc, q00, q01, List.getD_cons_zero, List.getD_cons_succ, List.map_nil, and_true, List.cons.injEq, exists_eq_left']
      · rintro x m' ⟨rfl, rfl⟩
        exact ⟨_, _, Turns.adopt (i := 0) 130 1 rfl, rfl, rfl⟩
    | some a =>
      refine q0s.toA (q1z tyOk Tryz.func105 rfl rfl (N := 0) (M := 1) (Nat.zero_le _) (by simp) ?_)
      intro K hK
      simp only [Tryz.ntmps105, List.length_cons, List.length_nil, Nat.reduceAdd, Nat.reduceSub, List.replicate, List.cons_append, List.nil_append]
      try simp (maxSteps := 1000000) only [seval]
      apply hK
      simp only [Tryz.results105, retK, ares, List.take_nil, Bool.and_true, AV.ofResults, St.trunc, q00, q01, AB.trunc, List.getD_cons_zero, List.getD_cons_succ, List.take_succ_cons, List.map_nil, List.map_cons, List.length_nil, Nat.reduceLeDiff, and_true, ↓reduceIte, List.cons.injEq, exists_eq_left']
  · have hpos : 0 < xs.length := List.length_pos_iff.2 h0
    refine q0s.toA (q1z tyOk Tryz.func105 rfl rfl (N := 0) (M := 1) (Nat.zero_le _) (by simp) ?_)
    intro K hK
    simp only [Tryz.ntmps105, List.length_cons, List.length_nil, Nat.reduceAdd, Nat.reduceSub, List.replicate, List.cons_append, List.nil_append]
    try simp (maxSteps := 1000000) only [seval, hpos]
    refine ⟨⟨hm, hby⟩, ?_⟩
    try simp (maxSteps := 1000000) only [seval]
    apply hK
    simp only [Tryz.results105, retK, ares, List.take_nil, Bool.and_true, AV.ofResults, St.trunc, q00, q01, AB.trunc, List.getD_cons_zero, List.getD_cons_succ, List.take_succ_cons, List.map_nil, List.map_cons, Nat.reduceLeDiff, and_true, ↓reduceIte, List.cons.injEq, exists_eq_left']

theorem delete_u32 (xs : List AV) (i : Nat) (hi : i < xs.length) (hlen : xs.length ≤ 1000000) :
    ACall P 104 [.row 130 1 xs] [.own 0 1 0 xs.length, i64 (i : Int), i64 ((i + 1 : Nat) : Int)] (fun x m' => x = .own 0 1 0 (xs.length - 1) ∧ m' = [.row 130 1 (xs.take i ++ xs.drop (i + 1) ++ [u32 0])]) := by
  refine ACall.weaken (K := fun x m' => x = .own 0 1 0 (xs.length - 1) ∧ ∃ N, m' = [.rowc 130 1 (xs.take i ++ xs.drop (i + 1) ++ [u32 0]) N]) (q0s.toA (m := [_]) (q0s.room (by decide) fun N hN _ => ?_)) ?_
  · refine q30 tyOk Tryz.func104 rfl rfl (by simp) ?_
    intro K hK
    simp only [Tryz.ntmps104, List.length_cons, List.length_nil, Nat.reduceAdd, Nat.reduceSub, List.replicate, List.cons_append, List.nil_append]
    have f1 : ((i : Int) == ((i + 1 : Nat) : Int)) = false := by simp; omega
    try simp (maxSteps := 1000000) only [seval, Int.toNat_natCast, f1]
    refine ⟨by omega, ?_⟩
    by_cases he : i + 1 = xs.length
    · have e1 : (xs.take i ++ xs.drop i).length = xs.length := by rw [List.take_append_drop]
      have e2 : ((xs.take i ++ xs.drop i).take i ++ List.replicate (xs.length - i) (u32 0)) ++ (xs.take i ++ xs.drop i).drop (i + (xs.length - i)) = xs.take i ++ xs.drop (i + 1) ++ [u32 0] := by
        rw [List.take_append_drop, List.drop_of_length_le (by omega), List.drop_of_length_le (by omega), show xs.length - i = 1 by omega, List.append_nil, List.append_nil]
        rfl
      have hni : ¬ i = xs.length := by omega
      refine q0u tyOk (by rfl) (by simp only [List.length_cons, List.length_nil, Nat.reduceAdd, Nat.le_refl]) (by kernel_rfl) rfl ?_
      try simp (maxSteps := 1000000) only [seval, Int.toNat_natCast, he]
      refine ⟨by omega, by omega, by omega, ?_⟩
      refine ⟨by kernel_rfl, ?_⟩
      try simp (maxSteps := 1000000) only [seval, Int.toNat_natCast, hni, e1]
      refine ⟨by omega, by omega, ?_⟩
      apply hK
      simp only [Tryz.results104, retK, ares, List.take_nil, Bool.and_true, AV.ofResults, St.trunc, q00, q01, AB.trunc, List.getD_cons_zero, List.getD_cons_succ, List.take_succ_cons, List.map_nil, List.map_cons, List.length_cons, List.length_nil, Nat.reduceAdd, Nat.reduceLeDiff, and_true, ↓reduceIte, List.cons.injEq, exists_eq_left']
      simp only [e2]
      exact ⟨by congr 1; omega, N, rfl⟩
    · have hd : (xs.drop (i + 1)).length = xs.length - (i + 1) := by simp
      have ht : (xs.drop (i + 1)).take (xs.length - (i + 1)) = xs.drop (i + 1) := List.take_of_length_le (by simp)
      have hni : ¬ i + (xs.length - (i + 1)) = xs.length := by omega
      have e1 : (xs.take i ++ xs.drop (i + 1) ++ xs.drop (i + (xs.length - (i + 1)))).length = xs.length := by simp; omega
      have e2 : (xs.take i ++ xs.drop (i + 1) ++ xs.drop (i + (xs.length - (i + 1)))).take (i + (xs.length - (i + 1))) ++ List.replicate (xs.length - (i + (xs.length - (i + 1)))) (u32 0) ++
          (xs.take i ++ xs.drop (i + 1) ++ xs.drop (i + (xs.length - (i + 1)))).drop (i + (xs.length - (i + 1)) + (xs.length - (i + (xs.length - (i + 1))))) = xs.take i ++ xs.drop (i + 1) ++ [u32 0] := by
        rw [show xs.length - (i + (xs.length - (i + 1))) = 1 by omega, List.drop_of_length_le (l := xs.take i ++ xs.drop (i + 1) ++ xs.drop (i + (xs.length - (i + 1)))) (by rw [e1]; omega), List.append_nil,
          List.take_append_of_le_length (by simp; omega), List.take_of_length_le (by simp; omega)]
        rfl
      refine q0u tyOk (by rfl) (by simp only [List.length_cons, List.length_nil, Nat.reduceAdd, Nat.le_refl]) (by kernel_rfl) rfl ?_
      try simp (maxSteps := 1000000) only [seval, Int.toNat_natCast, he, ht, hd]
      refine ⟨by omega, by omega, by omega, ?_⟩
      refine ⟨by kernel_rfl, ?_⟩
      try simp (maxSteps := 1000000) only [seval, Int.toNat_natCast, hni, e1]
      refine ⟨by omega, by omega, ?_⟩
      apply hK
      simp only [Tryz.results104, retK, ares, List.take_nil, Bool.and_true, AV.ofResults, St.trunc, q00, q01, AB.trunc, List.getD_cons_zero, List.getD_cons_succ, List.take_succ_cons, List.map_nil, List.map_cons, List.length_cons, List.length_nil, Nat.reduceAdd, Nat.reduceLeDiff, and_true, ↓reduceIte, List.cons.injEq, exists_eq_left']
      simp only [e2]
      exact ⟨by congr 1; omega, N, rfl⟩
  · rintro x m' ⟨rfl, N, rfl⟩
    exact ⟨_, _, Turns.unroom, rfl, rfl⟩

theorem insert_u32 (xs : List AV) (v : AV) (i : Nat) (hi : i ≤ xs.length) (hlen : xs.length ≤ 1000000) :
    q16 P (fun _ => false) 107 [.row 130 1 xs] [.own 0 1 0 xs.length, i64 (i : Int), .sl 1 [v]] (fun x m' => x = .own 0 1 0 (xs.length + 1) ∧ m' = [.row 130 1 (xs.take i ++ [v] ++ xs.drop i)]) := by
  refine q0s.relocate (q0s.room (by decide) fun N hN _ => q1z tyOk Tryz.func107 rfl rfl (N := 0) (M := 2) (Nat.zero_le _) (by simp) ?_)
  intro K hK
  simp only [Tryz.ntmps107, List.length_cons, List.length_nil, Nat.reduceAdd, Nat.reduceSub, List.replicate, List.cons_append, List.nil_append]
  have w1 : IntKind.i64.wrap ((xs.length : Int) + ((1 : Nat) : Int)) = ((xs.length + 1 : Nat) : Int) := by rw [wrap_i64 (by omega) (by omega)]; rfl
  have w2 : IntKind.i64.wrap ((i : Int) + ((1 : Nat) : Int)) = ((i + 1 : Nat) : Int) := by rw [wrap_i64 (by omega) (by omega)]; rfl
  have w3 : IntKind.i64.wrap (((xs.length + 1 : Nat) : Int) - (i : Int)) = ((xs.length + 1 - i : Nat) : Int) := by rw [wrap_i64 (by omega) (by omega)]; omega
  have c1 : (((1 : Nat) : Int) == 0) = false := by decide
  by_cases hin : i = xs.length
  · subst hin
    try simp (maxSteps := 1000000) only [seval, Int.toNat_natCast, c1]
    refine ⟨by omega, ?_⟩
    by_cases hr : xs.length + 1 ≤ N
    · try simp (maxSteps := 1000000) only [seval, hr]
      apply hK
      simp only [Tryz.results107, retK, ares, List.take_nil, Bool.and_true, Bool.true_and, AV.ofResults, St.trunc, q00, q01, AB.trunc, List.getD_cons_zero, List.getD_cons_succ, List.take_succ_cons, List.map_nil, List.map_cons, Nat.reduceLeDiff, true_and, and_true, ↓reduceIte, List.cons.injEq, exists_eq_left']
      exact .inl ⟨N, [], by simp⟩
    · try simp (maxSteps := 1000000) only [seval, hr]
      refine ⟨⟨by simp only [maxLen]; omega, by omega⟩, ?_⟩
      try simp (maxSteps := 1000000) only [seval]
      apply hK
      simp only [Tryz.results107, retK, ares, List.take_nil, Bool.and_true, Bool.true_and, AV.ofResults, St.trunc, q00, q01, AB.trunc, List.getD_cons_zero, List.getD_cons_succ, List.take_succ_cons, List.map_nil, List.map_cons, Nat.reduceLeDiff, true_and, and_true, ↓reduceIte, List.cons.injEq, exists_eq_left']
      exact .inr (by simp)
  · have hlt : i < xs.length := by omega
    have c2 : ((i : Int) == (xs.length : Int)) = false := by simp; omega
    by_cases hr : xs.length + 1 ≤ N
    · have d1 : decide ((N : Int) < ((xs.length + 1 : Nat) : Int)) = false := decide_eq_false (by omega)
      have n1 : ¬ i + 1 = xs.length + 1 := by omega
      have n2 : ¬ i = xs.length + 1 := by omega
      try simp (maxSteps := 1000000) only [seval, Int.toNat_natCast, c1, c2, w1, w2, Nat.sub_zero, d1, hin, n1, n2]
      refine ⟨by omega, by omega, by omega, ?_⟩
      refine q3f ?_
      try simp (maxSteps := 1000000) only [seval]
      refine callG_ext (q4q (tS := 120) (tR := 4) (e := 130) tyOk Tryz.func126 rfl rfl (by kernel_rfl) (by kernel_rfl) rfl rfl rfl (by decide) rfl rfl) ?_
      try simp (maxSteps := 1000000) only [seval]
      have ek : (xs.drop i).take (min (xs.length + 1 - (i + 1)) (xs.length + 1 - i)) = xs.drop i := List.take_of_length_le (by simp; omega)
      refine q0u tyOk (by rfl) (by simp only [List.length_cons, List.length_nil, Nat.reduceAdd, Nat.zero_le]) (by kernel_rfl) rfl ?_
      try simp (maxSteps := 1000000) only [seval, Int.toNat_natCast, w2, n1, n2, ek]
      refine ⟨by omega, by omega, by omega, ?_⟩
      refine ⟨by kernel_rfl, ?_⟩
      have es : List.take (xs.length + 1 - i) [v] = [v] := List.take_of_length_le (by simp; omega)
      have e3 : (xs.take (i + 1) ++ xs.drop i ++ xs.drop (i + 1 + (xs.drop i).length)).take i ++ [v] ++ (xs.take (i + 1) ++ xs.drop i ++ xs.drop (i + 1 + (xs.drop i).length)).drop (i + 1) = xs.take i ++ [v] ++ xs.drop i := by
        have hl : (xs.take (i + 1)).length = i + 1 := by simp; omega
        have hd : xs.drop (i + 1 + (xs.drop i).length) = [] := List.drop_of_length_le (by simp; omega)
        rw [hd, List.append_nil, List.take_append_of_le_length (by omega), List.take_take, Nat.min_eq_left (by omega),
          List.drop_append_of_le_length (by omega), List.drop_of_length_le (by omega), List.nil_append]
      try simp (maxSteps := 1000000) only [seval, Int.toNat_natCast, n2, es]
      refine ⟨by omega, ⟨by omega, by simp; omega⟩, ?_⟩
      apply hK
      simp only [Tryz.results107, retK, ares, List.take_nil, Bool.and_true, Bool.true_and, AV.ofResults, St.trunc, q00, q01, AB.trunc, List.getD_cons_zero, List.getD_cons_succ, List.take_succ_cons, List.map_nil, List.map_cons, Nat.reduceLeDiff, true_and, and_true, ↓reduceIte, List.cons.injEq, exists_eq_left']
      exact .inl ⟨N, [], by rw [e3, List.append_nil]⟩
    · have d1 : decide ((N : Int) < ((xs.length + 1 : Nat) : Int)) = true := decide_eq_true (by omega)
      have g1 : ¬ i + (xs.length + 1 - i) ≤ N := by omega
      have g2 : ¬ i = i + (xs.length + 1 - i) := by omega
      have g3 : ¬ i + 1 = i + (xs.length + 1 - i) := by omega
      have g4 : List.take (i + (xs.length + 1 - i) - i) [v] = [v] := List.take_of_length_le (by simp; omega)
      have g5 : (xs.drop i).take (min (i + (xs.length + 1 - i) - (i + 1)) (xs.length - i)) = xs.drop i := List.take_of_length_le (by simp; omega)
      try simp (maxSteps := 1000000) only [seval, Int.toNat_natCast, c1, c2, w1, w2, w3, Nat.sub_zero, d1, hin, g1, g2, g4]
      refine ⟨by omega, by omega, ⟨by omega, by omega, by omega, by omega, by simp only [maxLen]; omega, by omega⟩, by omega, ⟨by omega, by simp; omega⟩, ?_⟩
      refine q0u tyOk (by rfl) (by simp only [List.length_cons, List.length_nil, Nat.reduceAdd, Nat.zero_le]) (by kernel_rfl) rfl ?_
      try simp (maxSteps := 1000000) only [seval, Int.toNat_natCast, w2, g3, g5, hin]
      have hB : (xs.take i ++ List.replicate (xs.length + 1 - i) (u32 0)).take i = xs.take i := by
        rw [List.take_append_of_le_length (by simp; omega), List.take_take, Nat.min_self]
      have hli : (xs.take i).length = i := by simp; omega
      rw [hB]
      refine ⟨by omega, by omega, ⟨by omega, by omega, by simp; omega⟩, ?_⟩
      refine ⟨by kernel_rfl, ?_⟩
      try simp (maxSteps := 1000000) only [seval, hB]
      apply hK
      simp only [Tryz.results107, retK, ares, List.take_nil, Bool.and_true, AV.ofResults, St.trunc, q00, q01, AB.trunc, List.getD_cons_zero, List.getD_cons_succ, List.take_succ_cons, List.map_nil, List.map_cons, Nat.reduceLeDiff, and_true, ↓reduceIte, List.cons.injEq, exists_eq_left']
      have e4 : ∀ D : List AV, (xs.take i ++ [v] ++ D).take (i + 1) = xs.take i ++ [v] := fun D => by
        rw [List.take_append_of_le_length (by simp; omega), List.take_of_length_le (by simp; omega)]
      have e5 : (xs.take i ++ [v] ++ (xs.take i ++ List.replicate (xs.length + 1 - i) (u32 0)).drop (i + 1)).drop (i + 1 + (xs.drop i).length) = [] := List.drop_of_length_le (by simp; omega)
      refine .inr ?_
      rw [e4, e5, List.append_nil]
      exact ⟨by congr 1; omega, rfl⟩

def q2x (m : List (ByteArray × Int)) : AV := .agg [.sl 1 (m.map fun p => str p.1), .sl 1 (m.map fun p => u32 p.2)]
abbrev q2v (m : List (ByteArray × Int)) : Prop := RisesM ltS m
theorem find_su (m : List (ByteArray × Int)) (k : ByteArray) (hr : q2v m) (hlen : m.length ≤ 1000000) :
    PCall P 101 [q2x m, str k] (fun x => x = .tup [i64 ((lb ltS (m.map Prod.fst) k : Nat) : Int), bool (hasAt ltS eqS (m.map Prod.fst) k)]) := by
  refine q0r tyOk Tryz.func101 rfl rfl ?_
  intro K hK
  simp only [Tryz.ntmps101, List.length_cons, List.length_nil, Nat.reduceAdd, Nat.reduceSub, List.replicate, List.cons_append, List.nil_append]
  have em : (m.map fun p => str p.1) = (m.map Prod.fst).map fun x => str x := by rw [List.map_map]; rfl
  try simp (maxSteps := 1000000) only [seval, q2x, em]
  (refine q0g (search_str (m.map Prod.fst) hr k (by rw [List.length_map]; exact hlen)) rfl ?_; rintro _ rfl)
  try simp (maxSteps := 1000000) only [seval]
  apply hK
  simp only [Tryz.results101, retK, ares, Bool.and_true, Bool.true_and, AV.ofResults, St.trunc, q00, q01, List.getD_cons_zero, List.getD_cons_succ, List.take_zero, List.map_nil, true_and, and_true, List.cons.injEq, exists_eq_left']
theorem lb_len_su {m : List (ByteArray × Int)} {k : ByteArray} (h : hasAt ltS eqS (m.map Prod.fst) k = true) : lb ltS (m.map Prod.fst) k < m.length := by
  apply Nat.lt_of_not_le
  intro hc
  rw [hasAt_ge (by rw [List.length_map]; omega)] at h
  cases h
theorem with_call_su (m : List (ByteArray × Int)) (k : ByteArray) (v : Int) (hr : q2v m) (hlen : m.length ≤ 900000) :
    PCall P 76 [q2x m, str k, u32 v] (fun x => x = q2x (withG ltS eqS m k v)) := by
  refine q0r tyOk Tryz.func76 rfl rfl ?_
  intro K hK
  simp only [Tryz.ntmps76, List.length_cons, List.length_nil, Nat.reduceAdd, Nat.reduceSub, List.replicate, List.cons_append, List.nil_append]
  have hfind := find_su m k hr (by omega)
  unfold q2x at hfind
  try simp (maxSteps := 1000000) only [seval, q2x]
  (refine q0g hfind rfl ?_; rintro _ rfl)
  unfold withG at hK
  have lm1 : (m.map fun p => str p.1).length ≤ 1000000 := by rw [List.length_map]; omega
  have lm2 : (m.map fun p => u32 p.2).length ≤ 1000000 := by rw [List.length_map]; omega
  have hle : lb ltS (m.map Prod.fst) k ≤ m.length := by have := lb_le (lt := ltS) (m.map Prod.fst) k; rwa [List.length_map] at this
  cases hh : hasAt ltS eqS (m.map Prod.fst) k
  · rw [hh] at hK
    try simp (maxSteps := 1000000) only [seval]
    refine q0u tyOk (by rfl) (by simp only [List.length_cons, List.length_nil, Nat.reduceAdd, Nat.zero_le]) (by kernel_rfl) rfl ?_
    try simp (maxSteps := 1000000) only [seval]
    refine q2p (clone_str _ lm1) rfl rfl ?_
    try simp (maxSteps := 1000000) only [seval]
    refine q5c (insert_str _ (str k) (lb ltS (m.map Prod.fst) k) (by rw [List.length_map]; exact hle) lm1) 2 (by decide) rfl rfl rfl rfl ?_
    try simp (maxSteps := 1000000) only [seval]
    refine q2p (clone_u32 _ lm2) rfl rfl ?_
    try simp (maxSteps := 1000000) only [seval]
    refine q5c (insert_u32 _ (u32 v) (lb ltS (m.map Prod.fst) k) (by rw [List.length_map]; exact hle) lm2) 3 (by decide) rfl rfl rfl rfl ?_
    try simp (maxSteps := 1000000) only [seval]
    refine ⟨by kernel_rfl, ?_⟩
    try simp (maxSteps := 1000000) only [seval]
    apply hK
    simp only [Tryz.results76, retK, ares, List.take_nil, Bool.and_true, Bool.true_and, AV.ofResults, St.trunc, q00, q01, aload, acell, T, TI.isAgg, List.getD_cons_zero, List.getD_cons_succ, List.take_zero, List.take_succ_cons, List.drop_zero, List.map_nil, List.getElem?_cons_zero, List.getElem?_cons_succ, List.length_cons, List.length_nil, Nat.reduceAdd, Nat.reduceLeDiff, Nat.le_refl, true_and, and_true, ↓reduceIte, Bool.false_eq_true, List.cons.injEq, exists_eq_left']
    rw [q2l (by simp; omega), q2l (by simp; omega)]
    simp only [q2x, List.map_append, List.map_take, List.map_drop, List.map_cons, List.map_nil]
  · rw [hh] at hK
    have hl := lb_len_su hh
    have eg : (m.map fun p => u32 p.2).getD (Int.toNat ((lb ltS (m.map Prod.fst) k : Nat) : Int)) .any = u32 m[lb ltS (m.map Prod.fst) k].2 := at_map hl
    have k1 : (0 : Int) ≤ ((lb ltS (m.map Prod.fst) k : Nat) : Int) ∧ Int.toNat ((lb ltS (m.map Prod.fst) k : Nat) : Int) < m.length := by omega
    try simp (maxSteps := 1000000) only [seval]
    refine q0u tyOk (by rfl) (by simp only [List.length_cons, List.length_nil, Nat.reduceAdd, Nat.zero_le]) (by kernel_rfl) rfl ?_
    try simp (maxSteps := 1000000) only [seval]
    refine q2p (clone_u32 _ lm2) rfl rfl ?_
    try simp (maxSteps := 1000000) only [seval]
    refine ⟨by kernel_rfl, ?_⟩
    try simp (maxSteps := 1000000) only [seval, eg, k1, List.length_map]
    apply hK
    simp only [Tryz.results76, retK, ares, List.take_nil, Bool.and_true, Bool.true_and, AV.ofResults, St.trunc, q00, q01, aload, acell, T, TI.isAgg, List.getD_cons_zero, List.getD_cons_succ, List.take_zero, List.take_succ_cons, List.drop_zero, List.map_nil, List.getElem?_cons_zero, List.getElem?_cons_succ, List.length_cons, List.length_nil, Nat.reduceAdd, Nat.reduceLeDiff, Nat.le_refl, true_and, and_true, ↓reduceIte, List.cons.injEq, exists_eq_left']
    have he : m[lb ltS (m.map Prod.fst) k].1 = k := by
      have h1 := hh
      rw [hasAt_lt (by rw [List.length_map]; exact hl)] at h1
      have h2 := (q1t _ _).1 h1
      simpa using h2
    rw [q2l (by simp)]
    simp only [q2x, List.map_set, Int.toNat_natCast]
    congr 2
    congr 1
    refine (set_same_map (f := fun p : ByteArray × Int => str p.1) hl ?_).symm
    simp only [he]
theorem all_call_su (m : List (ByteArray × Int)) : PCall P 99 [q2x m] (fun x => x = .fn 122 [.rp [.sl 1 (m.map fun p => str p.1), .sl 1 (m.map fun p => u32 p.2)]]) := by
  refine q0r tyOk Tryz.func99 rfl rfl ?_
  intro K hK
  simp only [Tryz.ntmps99, List.length_cons, List.length_nil, Nat.reduceAdd, Nat.reduceSub, List.replicate, List.cons_append, List.nil_append]
  try simp (maxSteps := 1000000) only [seval, q2x]
  apply hK
  simp only [Tryz.results99, retK, ares, q14, AV.pure, Bool.and_self, Bool.and_true, Bool.true_and, AV.ofResults, St.trunc, q00, q01, List.getD_cons_zero, List.getD_cons_succ, List.take_zero, List.drop_zero, List.map_nil, List.getElem?_cons_zero, Nat.le_refl, true_and, and_true, ↓reduceIte, List.cons.injEq, exists_eq_left']
def q3q (m : List (ByteArray × Int)) : List (List AV) := m.map fun p => [str p.1, u32 p.2]
theorem pairs_pre_su {m : List (ByteArray × Int)} (i : Nat) : q3q (m.take i) <+: q3q m := (List.take_prefix i m).map _
theorem seq_su (m : List (ByteArray × Int)) (hlen : m.length ≤ 1000000) : ICall P 122 [.rp [.sl 1 (m.map fun p => str p.1), .sl 1 (m.map fun p => u32 p.2)]] (q3q m) := by
  refine icall_goY tyOk Tryz.func122 rfl rfl rfl ?_
  intro y K hK
  simp only [Tryz.ntmps122, List.length_cons, List.length_nil, Nat.reduceAdd, Nat.reduceSub, List.replicate, List.cons_append, List.nil_append]
  try simp (maxSteps := 1000000) only [seval, List.length_map]
  refine loopY_rule tyOk (α := Nat) 0 [0, 1, 6, 7, 8] (fun i => i ≤ m.length)
    (fun i => ⟨[.v y, .rp [.sl 1 (m.map fun p => str p.1), .sl 1 (m.map fun p => u32 p.2)], .any, .any, .any, .any, .sl 1 (m.map fun p => str p.1), i64 m.length, i64 i, .any, .any, .any, .any, .any, .any, .any, .any, .any, .any, .any, .any, .any, .any], []⟩)
    (fun i => (q3q (m.take i), false)) (fun i => m.length - i) 0 (Nat.le_refl _) (Nat.zero_le _) rfl rfl ?_
  intro i hi
  try simp (maxSteps := 1000000) only [seval]
  (first | refine q0j ?_ ?_ | refine q0k ?_ ?_ | refine q0l ?_ ?_ | refine q0m ?_ ?_ | refine q0i ?_ ?_) <;> intro h <;> try simp (maxSteps := 1000000) only [seval]
  · have hlt : i < m.length := by simpa using h
    have e1 := at_map (f := fun p : ByteArray × Int => str p.1) hlt
    have e2 := at_map (f := fun p : ByteArray × Int => u32 p.2) hlt
    have c1 : (0 : Int) ≤ (i : Int) ∧ Int.toNat (i : Int) < m.length := by omega
    have ew : IntKind.i64.wrap ((i : Int) + 1) = ((i + 1 : Nat) : Int) := by rw [wrap_i64 (by omega) (by omega)]; rfl
    have e3 : q3q (m.take i) ++ [[str m[i].1, u32 m[i].2]] = q3q (m.take (i + 1)) := by
      rw [q24 hlt]; simp only [q3q, List.map_append, List.map_cons, List.map_nil]
    try simp (maxSteps := 1000000) only [seval, e1, e2, c1, List.length_map]
    refine ⟨⟨by rw [e3]; exact pairs_pre_su _, rfl⟩, ?_⟩
    intro b
    cases b with
    | true =>
      try simp (maxSteps := 1000000) only [seval, ew]
      simp only [q47, St.trunc, St.keep, q00, q01, keepV, List.elem_cons, List.elem_nil, List.take_zero, List.map_nil, Nat.reduceAdd, Nat.reduceBEq, Nat.zero_add, Bool.false_eq_true, ↓reduceIte]
      exact ⟨i + 1, hlt, by omega, rfl, by rw [e3]⟩
    | false =>
      try simp (maxSteps := 1000000) only [seval]
      exact hK _ _ _ (itK_ret ⟨by rw [e3]; exact pairs_pre_su _, fun h => by cases h⟩)
  · have hge : i = m.length := by have : ¬ ((i : Int) < (m.length : Int)) := by simpa using h
                                  omega
    subst hge
    refine hK _ _ _ (itK_normal ⟨pairs_pre_su _, fun _ => by rw [List.take_length]⟩)

theorem get_call_su (m : List (ByteArray × Int)) (k : ByteArray) (hr : q2v m) (hlen : m.length ≤ 1000000) :
    PCall P 73 [q2x m, str k] (fun x => x = .tup [u32 (getG ltS eqS 0 m k).1, bool (getG ltS eqS 0 m k).2]) := by
  refine q0r tyOk Tryz.func73 rfl rfl ?_
  intro K hK
  simp only [Tryz.ntmps73, List.length_cons, List.length_nil, Nat.reduceAdd, Nat.reduceSub, List.replicate, List.cons_append, List.nil_append]
  have hfind := find_su m k hr hlen
  unfold q2x at hfind
  try simp (maxSteps := 1000000) only [seval, q2x]
  (refine q0g hfind rfl ?_; rintro _ rfl)
  unfold getG at hK
  cases hh : hasAt ltS eqS (m.map Prod.fst) k
  · rw [hh] at hK
    try simp (maxSteps := 1000000) only [seval]
    apply hK
    simp only [Tryz.results73, retK, ares, Bool.and_true, Bool.true_and, AV.ofResults, St.trunc, q00, q01, List.getD_cons_zero, List.getD_cons_succ, List.take_zero, List.map_nil, true_and, and_true, ↓reduceIte, Bool.false_eq_true, List.cons.injEq, exists_eq_left']
  · rw [hh] at hK
    have hl := lb_len_su hh
    have eg : (m.map fun p => u32 p.2).getD (Int.toNat ((lb ltS (m.map Prod.fst) k : Nat) : Int)) .any = u32 ((m.map Prod.snd).getD (lb ltS (m.map Prod.fst) k) 0) := by
      rw [at_map hl, List.getD_eq_getElem?_getD, List.getElem?_map, List.getElem?_eq_getElem hl]; rfl
    have k1 : (0 : Int) ≤ ((lb ltS (m.map Prod.fst) k : Nat) : Int) ∧ Int.toNat ((lb ltS (m.map Prod.fst) k : Nat) : Int) < m.length := by omega
    try simp (maxSteps := 1000000) only [seval, eg, k1, List.length_map]
    apply hK
    simp only [Tryz.results73, retK, ares, Bool.and_true, Bool.true_and, AV.ofResults, St.trunc, q00, q01, List.getD_cons_zero, List.getD_cons_succ, List.take_zero, List.map_nil, true_and, and_true, ↓reduceIte, List.cons.injEq, exists_eq_left']

theorem without_call_su (m : List (ByteArray × Int)) (k : ByteArray) (hr : q2v m) (hlen : m.length ≤ 900000) :
    PCall P 75 [q2x m, str k] (fun x => x = q2x (q21 ltS eqS m k)) := by
  refine q0r tyOk Tryz.func75 rfl rfl ?_
  intro K hK
  simp only [Tryz.ntmps75, List.length_cons, List.length_nil, Nat.reduceAdd, Nat.reduceSub, List.replicate, List.cons_append, List.nil_append]
  have hfind := find_su m k hr (by omega)
  unfold q2x at hfind
  try simp (maxSteps := 1000000) only [seval, q2x]
  (refine q0g hfind rfl ?_; rintro _ rfl)
  unfold q21 at hK
  have lm1 : (m.map fun p => str p.1).length ≤ 1000000 := by rw [List.length_map]; omega
  have lm2 : (m.map fun p => u32 p.2).length ≤ 1000000 := by rw [List.length_map]; omega
  cases hh : hasAt ltS eqS (m.map Prod.fst) k
  · rw [hh] at hK
    try simp (maxSteps := 1000000) only [seval]
    apply hK
    simp only [Tryz.results75, retK, ares, List.take_nil, Bool.and_true, Bool.true_and, AV.ofResults, St.trunc, q00, q01, aload, acell, T, TI.isAgg, List.getD_cons_zero, List.getD_cons_succ, List.take_zero, List.take_succ_cons, List.drop_zero, List.map_nil, List.getElem?_cons_zero, List.getElem?_cons_succ, List.length_cons, List.length_nil, Nat.reduceAdd, Nat.le_refl, true_and, and_true, ↓reduceIte, Bool.false_eq_true, List.cons.injEq, exists_eq_left']
    rfl
  · rw [hh] at hK
    have hl := lb_len_su hh
    have w1 : IntKind.i64.wrap (((lb ltS (m.map Prod.fst) k : Nat) : Int) + 1) = ((lb ltS (m.map Prod.fst) k + 1 : Nat) : Int) := by rw [wrap_i64 (by omega) (by omega)]; rfl
    try simp (maxSteps := 1000000) only [seval]
    refine q0u tyOk (by rfl) (by simp only [List.length_cons, List.length_nil, Nat.reduceAdd, Nat.zero_le]) (by kernel_rfl) rfl ?_
    try simp (maxSteps := 1000000) only [seval, w1]
    refine q2p (clone_str _ lm1) rfl rfl ?_
    try simp (maxSteps := 1000000) only [seval, w1]
    refine drawCall_on (delete_str _ (lb ltS (m.map Prod.fst) k) (by rw [List.length_map]; exact hl) lm1) 2 rfl rfl rfl rfl rfl ?_
    try simp (maxSteps := 1000000) only [seval, w1]
    refine q2p (clone_u32 _ lm2) rfl rfl ?_
    try simp (maxSteps := 1000000) only [seval, w1]
    refine drawCall_on (delete_u32 _ (lb ltS (m.map Prod.fst) k) (by rw [List.length_map]; exact hl) lm2) 3 rfl rfl rfl rfl rfl ?_
    try simp (maxSteps := 1000000) only [seval, w1]
    refine ⟨by kernel_rfl, ?_⟩
    try simp (maxSteps := 1000000) only [seval]
    apply hK
    simp only [Tryz.results75, retK, ares, List.take_nil, Bool.and_true, Bool.true_and, AV.ofResults, St.trunc, q00, q01, aload, acell, T, TI.isAgg, List.getD_cons_zero, List.getD_cons_succ, List.take_zero, List.take_succ_cons, List.drop_zero, List.map_nil, List.getElem?_cons_zero, List.getElem?_cons_succ, List.length_cons, List.length_nil, Nat.reduceAdd, Nat.reduceLeDiff, Nat.le_refl, true_and, and_true, ↓reduceIte, List.cons.injEq, exists_eq_left']
    rw [cut_last (by rw [List.length_map]; exact hl), cut_last (by rw [List.length_map]; exact hl)]
    simp only [q2x, List.map_append, List.map_take, List.map_drop]

end Go.Proofs.YtdkcpcflfnakdaaGreat
