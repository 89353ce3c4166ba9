/- The base of the laws of this seat: texts of this session, joined by a program. -/
import Derived.Test.YtdkcpcflfnakdaaGreatMa
namespace Go.Proofs.YtdkcpcflfnakdaaGreat
open Go Go.Proofs.YtdkcpcflfnakdaaGreat.Sym
attribute [-sevalprocAttr] Int.reduceToNat Int.reduceNatCast Int.reduceNatCast' Nat.reduceSubDiff
set_option maxRecDepth 100000
set_option maxHeartbeats 1000000
set_option linter.unusedSimpArgs false
set_option linter.unusedVariables false

structure Ses where
  id : Int
  st : Int
  pr : Int
  un : Int
  deriving DecidableEq
def Ses.av (s : Ses) : AV := .agg [i64 s.id, i64 s.st, i64 s.pr, u64 s.un]
abbrev sess (id st pr un : Int) : AV := .agg [i64 id, i64 st, i64 pr, u64 un]
def avs (l : List Ses) : List AV := l.map Ses.av
def Ses.lives (now : Int) (s : Ses) : Bool := !decide (s.un ≤ now)
def lives (now : Int) (l : List Ses) : List Ses := l.filter (Ses.lives now)
def Ses.ok (s : Ses) : Prop := (Lit.int .i64 s.id).wf = true ∧ (Lit.int .i64 s.st).wf = true ∧ (Lit.int .i64 s.pr).wf = true ∧ (Lit.int .u64 s.un).wf = true

theorem tick_Late (a b : Int) : PCall P 117 [u64 a, u64 b] (fun x => x = bool (decide (b ≤ a))) := by
  refine q0r tyOk Tryz.func117 rfl rfl ?_
  intro K hK
  simp only [Tryz.ntmps117, List.length_cons, List.length_nil, Nat.reduceAdd, Nat.reduceSub, List.replicate, List.cons_append, List.nil_append]
  try simp (maxSteps := 1000000) only [seval]
  apply hK
  simp only [Tryz.results117, retK, ares, List.take_nil, Bool.and_true, Bool.true_and, AV.ofResults, St.trunc, q00, q01, List.getD_cons_zero, List.getD_cons_succ, List.map_nil, true_and, and_true, List.cons.injEq, exists_eq_left']

theorem q12 (l : List Ses) : (avs l).length = l.length := by simp [avs]
theorem avs_get {l : List Ses} {i : Nat} (h : i < l.length) : (avs l).getD (Int.toNat (i : Int)) .any = (l[i]).av := by
  simp [avs, List.getD_eq_getElem?_getD, List.getElem?_map, List.getElem?_eq_getElem h]
theorem at_idx {l : List Ses} {i : Nat} (hb : l.length < 9223372036854775807) (h : decide ((i : Int) < (l.length : Int)) = true) :
    ∃ hlt : i < l.length, (avs l).getD (Int.toNat (i : Int)) .any = .agg [i64 (l[i]).id, i64 (l[i]).st, i64 (l[i]).pr, u64 (l[i]).un] ∧ IntKind.i64.wrap ((i : Int) + 1) = ((i + 1 : Nat) : Int) ∧ ((0 : Int) ≤ (i : Int) ∧ Int.toNat (i : Int) < l.length) := by
  have hlt : i < l.length := by simpa using h
  exact ⟨hlt, avs_get hlt, by rw [wrap_i64 (by omega) (by omega)]; rfl, by omega⟩
theorem at_end {n i : Nat} (hi : i ≤ n) (h : decide ((i : Int) < (n : Int)) = false) : i = n := by
  have : ¬ ((i : Int) < (n : Int)) := by simpa using h
  omega

theorem q5h {now : Int} {l : List Ses} {i : Nat} (h : i < l.length) (hl : (l[i]).lives now = false) : lives now (l.take (i + 1)) = lives now (l.take i) := by
  rw [q23 h, lives, List.filter_append, lives]; simp [hl]
theorem lives_take_in {now : Int} {l : List Ses} {i : Nat} (h : i < l.length) (hl : (l[i]).lives now = true) : lives now (l.take (i + 1)) = lives now (l.take i) ++ [l[i]] := by
  rw [q23 h, lives, List.filter_append, lives]; simp [hl]

theorem clone_ses (xs : List AV) (hlen : xs.length ≤ 1000000) :
    ACall P 115 [] [.sl 4 xs] (fun x m' => x = .own 0 4 0 xs.length ∧ m' = [.row 151 4 xs]) := by
  have hm : xs.length ≤ maxLen := by simp only [maxLen]; omega
  have hby : xs.length * 32 ≤ 140737488355328 := by omega
  by_cases h0 : xs = []
  · subst h0
    refine ACall.empty fun a cap => ?_
    cases a with
    | none =>
      refine ACall.weaken (K := fun x m' => x = .v (.slice none 0 0) ∧ m' = []) (q0s.toA (q1z tyOk Tryz.func115 rfl rfl (N := 0) (M := 1) (Nat.zero_le _) (by simp) ?_)) ?_
      · intro K hK
        simp only [Tryz.ntmps115, List.length_cons, List.length_nil, Nat.reduceAdd, Nat.reduceSub, List.replicate, List.cons_append, List.nil_append]
        try simp (maxSteps := 1000000) only [seval]
        apply hK
        simp only [Tryz.results115, retK, ares, List.take_nil, Bool.and_true, AV.ofResults, St.trunc, q00, q01, List.getD_cons_zero, List.getD_cons_succ, List.map_nil, and_true, List.cons.injEq, exists_eq_left']
      · rintro x m' ⟨rfl, rfl⟩
        exact ⟨_, _, Turns.adopt (i := 0) 151 4 rfl, rfl, rfl⟩
    | some a =>
      refine q0s.toA (q1z tyOk Tryz.func115 rfl rfl (N := 0) (M := 1) (Nat.zero_le _) (by simp) ?_)
      intro K hK
      simp only [Tryz.ntmps115, List.length_cons, List.length_nil, Nat.reduceAdd, Nat.reduceSub, List.replicate, List.cons_append, List.nil_append]
      try simp (maxSteps := 1000000) only [seval]
      apply hK
      simp only [Tryz.results115, retK, ares, List.take_nil, Bool.and_true, AV.ofResults, St.trunc, q00, q01, AB.trunc, List.getD_cons_zero, List.getD_cons_succ, List.take_succ_cons, List.map_nil, List.map_cons, List.length_nil, Nat.reduceLeDiff, and_true, ↓reduceIte, List.cons.injEq, exists_eq_left']
  · have hpos : 0 < xs.length := List.length_pos_iff.2 h0
    refine q0s.toA (q1z tyOk Tryz.func115 rfl rfl (N := 0) (M := 1) (Nat.zero_le _) (by simp) ?_)
    intro K hK
    simp only [Tryz.ntmps115, List.length_cons, List.length_nil, Nat.reduceAdd, Nat.reduceSub, List.replicate, List.cons_append, List.nil_append]
    try simp (maxSteps := 1000000) only [seval, hpos]
    refine ⟨⟨hm, hby⟩, ?_⟩
    try simp (maxSteps := 1000000) only [seval]
    apply hK
    simp only [Tryz.results115, retK, ares, List.take_nil, Bool.and_true, AV.ofResults, St.trunc, q00, q01, AB.trunc, List.getD_cons_zero, List.getD_cons_succ, List.take_succ_cons, List.map_nil, List.map_cons, Nat.reduceLeDiff, and_true, ↓reduceIte, List.cons.injEq, exists_eq_left']

theorem delete_ses (xs : List AV) (i : Nat) (hi : i < xs.length) (hlen : xs.length ≤ 1000000) :
    ACall P 120 [.row 151 4 xs] [.own 0 4 0 xs.length, i64 (i : Int), i64 ((i + 1 : Nat) : Int)] (fun x m' => x = .own 0 4 0 (xs.length - 1) ∧ m' = [.row 151 4 (xs.take i ++ xs.drop (i + 1) ++ [(AV.agg [i64 0, i64 0, i64 0, u64 0])])]) := by
  refine ACall.weaken (K := fun x m' => x = .own 0 4 0 (xs.length - 1) ∧ ∃ N, m' = [.rowc 151 4 (xs.take i ++ xs.drop (i + 1) ++ [(AV.agg [i64 0, i64 0, i64 0, u64 0])]) N]) (q0s.toA (m := [_]) (q0s.room (by decide) fun N hN _ => ?_)) ?_
  · refine q2y tyOk Tryz.func120 rfl rfl (by simp) ?_
    intro K hK
    simp only [Tryz.ntmps120, List.length_cons, List.length_nil, Nat.reduceAdd, Nat.reduceSub, List.replicate, List.cons_append, List.nil_append]
    have f1 : ((i : Int) == ((i + 1 : Nat) : Int)) = false := by simp; omega
    try simp (maxSteps := 1000000) only [seval, Int.toNat_natCast, f1]
    refine ⟨by omega, ?_⟩
    by_cases he : i + 1 = xs.length
    · have e1 : (xs.take i ++ xs.drop i).length = xs.length := by rw [List.take_append_drop]
      have e2 : ((xs.take i ++ xs.drop i).take i ++ List.replicate (xs.length - i) ((AV.agg [i64 0, i64 0, i64 0, u64 0]))) ++ (xs.take i ++ xs.drop i).drop (i + (xs.length - i)) = xs.take i ++ xs.drop (i + 1) ++ [(AV.agg [i64 0, i64 0, i64 0, u64 0])] := by
        rw [List.take_append_drop, List.drop_of_length_le (by omega), List.drop_of_length_le (by omega), show xs.length - i = 1 by omega, List.append_nil, List.append_nil]
        rfl
      have hni : ¬ i = xs.length := by omega
      refine q0w tyOk (by rfl) (by simp only [List.length_cons, List.length_nil, Nat.reduceAdd, Nat.le_refl]) (by kernel_rfl) rfl ?_
      try simp (maxSteps := 1000000) only [seval, Int.toNat_natCast, he]
      refine ⟨by omega, by omega, by omega, ?_⟩
      refine ⟨by kernel_rfl, ?_⟩
      try simp (maxSteps := 1000000) only [seval, Int.toNat_natCast, hni, e1]
      refine ⟨by omega, by omega, ?_⟩
      apply hK
      simp only [Tryz.results120, retK, ares, List.take_nil, Bool.and_true, AV.ofResults, St.trunc, q00, q01, AB.trunc, List.getD_cons_zero, List.getD_cons_succ, List.take_succ_cons, List.map_nil, List.map_cons, List.length_cons, List.length_nil, Nat.reduceAdd, Nat.reduceLeDiff, and_true, ↓reduceIte, List.cons.injEq, exists_eq_left']
      simp only [e2]
      exact ⟨by congr 1; omega, N, rfl⟩
    · have hd : (xs.drop (i + 1)).length = xs.length - (i + 1) := by simp
      have ht : (xs.drop (i + 1)).take (xs.length - (i + 1)) = xs.drop (i + 1) := List.take_of_length_le (by simp)
      have hni : ¬ i + (xs.length - (i + 1)) = xs.length := by omega
      have e1 : (xs.take i ++ xs.drop (i + 1) ++ xs.drop (i + (xs.length - (i + 1)))).length = xs.length := by simp; omega
      have e2 : (xs.take i ++ xs.drop (i + 1) ++ xs.drop (i + (xs.length - (i + 1)))).take (i + (xs.length - (i + 1))) ++ List.replicate (xs.length - (i + (xs.length - (i + 1)))) ((AV.agg [i64 0, i64 0, i64 0, u64 0])) ++
          (xs.take i ++ xs.drop (i + 1) ++ xs.drop (i + (xs.length - (i + 1)))).drop (i + (xs.length - (i + 1)) + (xs.length - (i + (xs.length - (i + 1))))) = xs.take i ++ xs.drop (i + 1) ++ [(AV.agg [i64 0, i64 0, i64 0, u64 0])] := by
        rw [show xs.length - (i + (xs.length - (i + 1))) = 1 by omega, List.drop_of_length_le (l := xs.take i ++ xs.drop (i + 1) ++ xs.drop (i + (xs.length - (i + 1)))) (by rw [e1]; omega), List.append_nil,
          List.take_append_of_le_length (by simp; omega), List.take_of_length_le (by simp; omega)]
        rfl
      refine q0w tyOk (by rfl) (by simp only [List.length_cons, List.length_nil, Nat.reduceAdd, Nat.le_refl]) (by kernel_rfl) rfl ?_
      try simp (maxSteps := 1000000) only [seval, Int.toNat_natCast, he, ht, hd]
      refine ⟨by omega, by omega, by omega, ?_⟩
      refine ⟨by kernel_rfl, ?_⟩
      try simp (maxSteps := 1000000) only [seval, Int.toNat_natCast, hni, e1]
      refine ⟨by omega, by omega, ?_⟩
      apply hK
      simp only [Tryz.results120, retK, ares, List.take_nil, Bool.and_true, AV.ofResults, St.trunc, q00, q01, AB.trunc, List.getD_cons_zero, List.getD_cons_succ, List.take_succ_cons, List.map_nil, List.map_cons, List.length_cons, List.length_nil, Nat.reduceAdd, Nat.reduceLeDiff, and_true, ↓reduceIte, List.cons.injEq, exists_eq_left']
      simp only [e2]
      exact ⟨by congr 1; omega, N, rfl⟩
  · rintro x m' ⟨rfl, N, rfl⟩
    exact ⟨_, _, Turns.unroom, rfl, rfl⟩

theorem insert_ses (xs : List AV) (v : AV) (i : Nat) (hi : i ≤ xs.length) (hlen : xs.length ≤ 1000000) :
    q17 P (fun _ => false) 119 [.row 151 4 xs] [.own 0 4 0 xs.length, i64 (i : Int), .sl 4 [v]] (fun x m' => x = .own 0 4 0 (xs.length + 1) ∧ m' = [.row 151 4 (xs.take i ++ [v] ++ xs.drop i)]) := by
  refine q0s.relocate (q0s.room (by decide) fun N hN _ => q1z tyOk Tryz.func119 rfl rfl (N := 0) (M := 2) (Nat.zero_le _) (by simp) ?_)
  intro K hK
  simp only [Tryz.ntmps119, List.length_cons, List.length_nil, Nat.reduceAdd, Nat.reduceSub, List.replicate, List.cons_append, List.nil_append]
  have w1 : IntKind.i64.wrap ((xs.length : Int) + ((1 : Nat) : Int)) = ((xs.length + 1 : Nat) : Int) := by rw [wrap_i64 (by omega) (by omega)]; rfl
  have w2 : IntKind.i64.wrap ((i : Int) + ((1 : Nat) : Int)) = ((i + 1 : Nat) : Int) := by rw [wrap_i64 (by omega) (by omega)]; rfl
  have w3 : IntKind.i64.wrap (((xs.length + 1 : Nat) : Int) - (i : Int)) = ((xs.length + 1 - i : Nat) : Int) := by rw [wrap_i64 (by omega) (by omega)]; omega
  have c1 : (((1 : Nat) : Int) == 0) = false := by decide
  by_cases hin : i = xs.length
  · subst hin
    try simp (maxSteps := 1000000) only [seval, Int.toNat_natCast, c1]
    refine ⟨by omega, ?_⟩
    by_cases hr : xs.length + 1 ≤ N
    · try simp (maxSteps := 1000000) only [seval, hr]
      apply hK
      simp only [Tryz.results119, retK, ares, List.take_nil, Bool.and_true, Bool.true_and, AV.ofResults, St.trunc, q00, q01, AB.trunc, List.getD_cons_zero, List.getD_cons_succ, List.take_succ_cons, List.map_nil, List.map_cons, Nat.reduceLeDiff, true_and, and_true, ↓reduceIte, List.cons.injEq, exists_eq_left']
      exact .inl ⟨N, [], by simp⟩
    · try simp (maxSteps := 1000000) only [seval, hr]
      refine ⟨⟨by simp only [maxLen]; omega, by omega⟩, ?_⟩
      try simp (maxSteps := 1000000) only [seval]
      apply hK
      simp only [Tryz.results119, retK, ares, List.take_nil, Bool.and_true, Bool.true_and, AV.ofResults, St.trunc, q00, q01, AB.trunc, List.getD_cons_zero, List.getD_cons_succ, List.take_succ_cons, List.map_nil, List.map_cons, Nat.reduceLeDiff, true_and, and_true, ↓reduceIte, List.cons.injEq, exists_eq_left']
      exact .inr (by simp)
  · have hlt : i < xs.length := by omega
    have c2 : ((i : Int) == (xs.length : Int)) = false := by simp; omega
    by_cases hr : xs.length + 1 ≤ N
    · have d1 : decide ((N : Int) < ((xs.length + 1 : Nat) : Int)) = false := decide_eq_false (by omega)
      have n1 : ¬ i + 1 = xs.length + 1 := by omega
      have n2 : ¬ i = xs.length + 1 := by omega
      try simp (maxSteps := 1000000) only [seval, Int.toNat_natCast, c1, c2, w1, w2, Nat.sub_zero, d1, hin, n1, n2]
      refine ⟨by omega, by omega, by omega, ?_⟩
      refine q3b ?_
      try simp (maxSteps := 1000000) only [seval]
      refine callG_ext (q4w (tS := 113) (tR := 4) (e := 151) tyOk Tryz.func136 rfl rfl (by kernel_rfl) (by kernel_rfl) rfl rfl rfl (by decide) rfl rfl) ?_
      try simp (maxSteps := 1000000) only [seval]
      have ek : (xs.drop i).take (min (xs.length + 1 - (i + 1)) (xs.length + 1 - i)) = xs.drop i := List.take_of_length_le (by simp; omega)
      refine q0w tyOk (by rfl) (by simp only [List.length_cons, List.length_nil, Nat.reduceAdd, Nat.zero_le]) (by kernel_rfl) rfl ?_
      try simp (maxSteps := 1000000) only [seval, Int.toNat_natCast, w2, n1, n2, ek]
      refine ⟨by omega, by omega, by omega, ?_⟩
      refine ⟨by kernel_rfl, ?_⟩
      have es : List.take (xs.length + 1 - i) [v] = [v] := List.take_of_length_le (by simp; omega)
      have e3 : (xs.take (i + 1) ++ xs.drop i ++ xs.drop (i + 1 + (xs.drop i).length)).take i ++ [v] ++ (xs.take (i + 1) ++ xs.drop i ++ xs.drop (i + 1 + (xs.drop i).length)).drop (i + 1) = xs.take i ++ [v] ++ xs.drop i := by
        have hl : (xs.take (i + 1)).length = i + 1 := by simp; omega
        have hd : xs.drop (i + 1 + (xs.drop i).length) = [] := List.drop_of_length_le (by simp; omega)
        rw [hd, List.append_nil, List.take_append_of_le_length (by omega), List.take_take, Nat.min_eq_left (by omega),
          List.drop_append_of_le_length (by omega), List.drop_of_length_le (by omega), List.nil_append]
      try simp (maxSteps := 1000000) only [seval, Int.toNat_natCast, n2, es]
      refine ⟨by omega, ⟨by omega, by simp; omega⟩, ?_⟩
      apply hK
      simp only [Tryz.results119, retK, ares, List.take_nil, Bool.and_true, Bool.true_and, AV.ofResults, St.trunc, q00, q01, AB.trunc, List.getD_cons_zero, List.getD_cons_succ, List.take_succ_cons, List.map_nil, List.map_cons, Nat.reduceLeDiff, true_and, and_true, ↓reduceIte, List.cons.injEq, exists_eq_left']
      exact .inl ⟨N, [], by rw [e3, List.append_nil]⟩
    · have d1 : decide ((N : Int) < ((xs.length + 1 : Nat) : Int)) = true := decide_eq_true (by omega)
      have g1 : ¬ i + (xs.length + 1 - i) ≤ N := by omega
      have g2 : ¬ i = i + (xs.length + 1 - i) := by omega
      have g3 : ¬ i + 1 = i + (xs.length + 1 - i) := by omega
      have g4 : List.take (i + (xs.length + 1 - i) - i) [v] = [v] := List.take_of_length_le (by simp; omega)
      have g5 : (xs.drop i).take (min (i + (xs.length + 1 - i) - (i + 1)) (xs.length - i)) = xs.drop i := List.take_of_length_le (by simp; omega)
      try simp (maxSteps := 1000000) only [seval, Int.toNat_natCast, c1, c2, w1, w2, w3, Nat.sub_zero, d1, hin, g1, g2, g4]
      refine ⟨by omega, by omega, ⟨by omega, by omega, by omega, by omega, by simp only [maxLen]; omega, by omega⟩, by omega, ⟨by omega, by simp; omega⟩, ?_⟩
      refine q0w tyOk (by rfl) (by simp only [List.length_cons, List.length_nil, Nat.reduceAdd, Nat.zero_le]) (by kernel_rfl) rfl ?_
      try simp (maxSteps := 1000000) only [seval, Int.toNat_natCast, w2, g3, g5, hin]
      have hB : (xs.take i ++ List.replicate (xs.length + 1 - i) ((AV.agg [i64 0, i64 0, i64 0, u64 0]))).take i = xs.take i := by
        rw [List.take_append_of_le_length (by simp; omega), List.take_take, Nat.min_self]
      have hli : (xs.take i).length = i := by simp; omega
      rw [hB]
      refine ⟨by omega, by omega, ⟨by omega, by omega, by simp; omega⟩, ?_⟩
      refine ⟨by kernel_rfl, ?_⟩
      try simp (maxSteps := 1000000) only [seval, hB]
      apply hK
      simp only [Tryz.results119, retK, ares, List.take_nil, Bool.and_true, AV.ofResults, St.trunc, q00, q01, AB.trunc, List.getD_cons_zero, List.getD_cons_succ, List.take_succ_cons, List.map_nil, List.map_cons, Nat.reduceLeDiff, and_true, ↓reduceIte, List.cons.injEq, exists_eq_left']
      have e4 : ∀ D : List AV, (xs.take i ++ [v] ++ D).take (i + 1) = xs.take i ++ [v] := fun D => by
        rw [List.take_append_of_le_length (by simp; omega), List.take_of_length_le (by simp; omega)]
      have e5 : (xs.take i ++ [v] ++ (xs.take i ++ List.replicate (xs.length + 1 - i) ((AV.agg [i64 0, i64 0, i64 0, u64 0]))).drop (i + 1)).drop (i + 1 + (xs.drop i).length) = [] := List.drop_of_length_le (by simp; omega)
      refine .inr ?_
      rw [e4, e5, List.append_nil]
      exact ⟨by congr 1; omega, rfl⟩

end Go.Proofs.YtdkcpcflfnakdaaGreat
namespace Go.Proofs.YtdkcpcflfnakdaaGreat
open Go Go.Proofs.YtdkcpcflfnakdaaGreat.Sym
attribute [-sevalprocAttr] Int.reduceToNat Int.reduceNatCast Int.reduceNatCast' Nat.reduceSubDiff
set_option maxRecDepth 100000
set_option maxHeartbeats 1000000
set_option linter.unusedSimpArgs false
set_option linter.unusedVariables false

def has (l : List Ses) (id : Int) : Bool := l.any (fun s => s.id == id)

def clear (l : List Ses) (id : Int) : List Ses := l.filter (fun s => s.id != id)
def insStep (s : Ses) (o : List Ses × Bool) (r : Ses) : List Ses × Bool := if !o.2 && decide (s.id < r.id) then (o.1 ++ [s] ++ [r], true) else (o.1 ++ [r], o.2)
def insF (s : Ses) (l : List Ses) : List Ses × Bool := l.foldl (insStep s) ([], false)
def ins (s : Ses) (l : List Ses) : List Ses := if (insF s l).2 then (insF s l).1 else (insF s l).1 ++ [s]
def setF (l : List Ses) (s : Ses) (most : Int) : List Ses × Int := if !has l s.id && decide (most ≤ l.length) then (l, 2) else (ins s (clear l s.id), 0)

end Go.Proofs.YtdkcpcflfnakdaaGreat
namespace Go.Proofs.YtdkcpcflfnakdaaGreat
open Go Go.Proofs.YtdkcpcflfnakdaaGreat.Sym
attribute [-sevalprocAttr] Int.reduceToNat Int.reduceNatCast Int.reduceNatCast' Nat.reduceSubDiff
set_option maxRecDepth 100000
set_option maxHeartbeats 1000000
set_option linter.unusedSimpArgs false
set_option linter.unusedVariables false

def cmpF (a b : Int) : Int := if a < b then -1 else if b < a then 1 else 0
theorem cmp_lt (a b : Int) : decide (cmpF a b < 0) = ltI a b := by
  unfold cmpF ltI
  split
  · rename_i h; simp [h]
  · rename_i h
    split <;> simp [h]
theorem cmp_eq (a b : Int) : (cmpF a b == 0) = eqI a b := by
  unfold cmpF eqI
  rw [Bool.eq_iff_iff]
  split
  · simp; omega
  · split
    · simp; omega
    · simp; omega
theorem compare_int (a b : Int) : PCall P 135 [i64 a, i64 b] (fun x => x = i64 (cmpF a b)) := by
  refine q0r tyOk Tryz.func135 rfl rfl ?_
  intro K hK
  simp only [Tryz.ntmps135, List.length_cons, List.length_nil, Nat.reduceAdd, Nat.reduceSub, List.replicate, List.cons_append, List.nil_append]
  try simp (maxSteps := 1000000) only [seval]
  (refine q07 (cmpNaN_int a) rfl ?_; rintro _ rfl)
  try simp (maxSteps := 1000000) only [seval]
  (refine q07 (cmpNaN_int b) rfl ?_; rintro _ rfl)
  try simp (maxSteps := 1000000) only [seval]
  (first | refine q0g ?_ ?_ | refine q0k ?_ ?_ | refine q0l ?_ ?_ | refine q0m ?_ ?_ | refine q0h ?_ ?_) <;> intro h
  · try simp (maxSteps := 1000000) only [seval]
    apply hK
    simp only [Tryz.results135, retK, ares, List.take_nil, Bool.and_true, Bool.true_and, AV.ofResults, St.trunc, q00, q01, List.getD_cons_zero, List.getD_cons_succ, List.map_nil, true_and, and_true, List.cons.injEq, exists_eq_left']
    rw [cmpF, if_pos (by simpa using h)]
  · try simp (maxSteps := 1000000) only [seval]
    (first | refine q0g ?_ ?_ | refine q0k ?_ ?_ | refine q0l ?_ ?_ | refine q0m ?_ ?_ | refine q0h ?_ ?_) <;> intro h2
    · try simp (maxSteps := 1000000) only [seval]
      apply hK
      simp only [Tryz.results135, retK, ares, List.take_nil, Bool.and_true, Bool.true_and, AV.ofResults, St.trunc, q00, q01, List.getD_cons_zero, List.getD_cons_succ, List.map_nil, true_and, and_true, List.cons.injEq, exists_eq_left']
      rw [cmpF, if_neg (by simpa using h), if_pos (by simpa using h2)]
    · try simp (maxSteps := 1000000) only [seval]
      apply hK
      simp only [Tryz.results135, retK, ares, List.take_nil, Bool.and_true, Bool.true_and, AV.ofResults, St.trunc, q00, q01, List.getD_cons_zero, List.getD_cons_succ, List.map_nil, true_and, and_true, List.cons.injEq, exists_eq_left']
      rw [cmpF, if_neg (by simpa using h), if_neg (by simpa using h2)]
theorem find_cmp (s : Ses) (id : Int) : PCall P 134 [s.av, i64 id] (fun x => x = i64 (cmpF s.id id)) := by
  refine q0r tyOk Tryz.func134 rfl rfl ?_
  intro K hK
  simp only [Tryz.ntmps134, List.length_cons, List.length_nil, Nat.reduceAdd, Nat.reduceSub, List.replicate, List.cons_append, List.nil_append]
  try simp (maxSteps := 1000000) only [seval, Ses.av]
  (refine q07 (compare_int s.id id) rfl ?_; rintro _ rfl)
  try simp (maxSteps := 1000000) only [seval]
  apply hK
  simp only [Tryz.results134, retK, ares, Bool.and_true, Bool.true_and, AV.ofResults, St.trunc, q00, q01, List.getD_cons_zero, List.getD_cons_succ, List.take_zero, List.map_nil, true_and, and_true, List.cons.injEq, exists_eq_left']
def ids (l : List Ses) : List Int := l.map Ses.id
theorem ids_len (l : List Ses) : (ids l).length = l.length := by simp [ids]
theorem ids_get {l : List Ses} {i : Nat} (h : i < l.length) : (ids l)[i]'(by rw [ids_len]; exact h) = l[i].id := by simp [ids]
theorem search_ses (l : List Ses) (hr : Rises ltI (ids l)) (k : Int) (hlen : l.length ≤ 1000000) :
    PCall P 133 [.sl 4 (avs l), i64 k, .fn 134 []] (fun x => x = .tup [i64 ((lb ltI (ids l) k : Nat) : Int), bool (hasAt ltI eqI (ids l) k)]) := by
  refine q0r tyOk Tryz.func133 rfl rfl ?_
  intro K hK
  simp only [Tryz.ntmps133, List.length_cons, List.length_nil, Nat.reduceAdd, Nat.reduceSub, List.replicate, List.cons_append, List.nil_append]
  try simp (maxSteps := 1000000) only [seval, q12]
  have hle := lb_le (lt := ltI) (ids l) k
  rw [ids_len] at hle
  refine q1h tyOk (α := Nat × Nat) 0 [0, 1, 2, 6, 7, 8, 9, 10] (fun q => q.1 ≤ lb ltI (ids l) k ∧ lb ltI (ids l) k ≤ q.2 ∧ q.2 ≤ l.length)
    (fun q => ⟨[.sl 4 (avs l), i64 k, .fn 134 [], .any, .any, .any, i64 0, bool false, i64 l.length, i64 q.1, i64 q.2, .any, .any, .any, .any, .any, .any, .any, .any, .any, .any, .any, .any, .any, .any, .any, .any, .any, .any, .any, .any, .any, .any, .any, .any, .any, .any, .any, .any, .any, .any, .any, .any, .any, .any, .any, .any, .any, .any], []⟩)
    (fun q => q.2 - q.1) (0, l.length) (Nat.zero_le _) ⟨Nat.zero_le _, hle, Nat.le_refl _⟩ rfl ?_
  rintro ⟨i, j⟩ ⟨h1, h2, h3⟩
  simp only at h1 h2 h3
  try simp (maxSteps := 1000000) only [seval]
  (first | refine q0g ?_ ?_ | refine q0k ?_ ?_ | refine q0l ?_ ?_ | refine q0m ?_ ?_ | refine q0h ?_ ?_) <;> intro hc <;> try simp (maxSteps := 1000000) only [seval]
  · have hij : i < j := by simpa using hc
    obtain ⟨hh, hlt, ew⟩ := half_idx (i := i) (j := j) (by omega) hij
    have hhn : (i + j) / 2 < l.length := by omega
    have eg := avs_get hhn
    have k1 : (0 : Int) ≤ (((i + j) / 2 : Nat) : Int) ∧ Int.toNat (((i + j) / 2 : Nat) : Int) < l.length := by omega
    have w1 : IntKind.i64.wrap ((((i + j) / 2 : Nat) : Int) + 1) = (((i + j) / 2 + 1 : Nat) : Int) := by rw [wrap_i64 (by omega) (by omega)]; rfl
    have hid := ids_get hhn
    try simp (maxSteps := 1000000) only [seval, ew, eg, k1, q12, Ses.av]
    (refine q07 (find_cmp l[(i + j) / 2] k) rfl ?_; rintro _ rfl)
    try simp (maxSteps := 1000000) only [seval, cmp_lt]
    cases hl : ltI l[(i + j) / 2].id k
    · try simp (maxSteps := 1000000) only [seval]
      simp only [q0p, St.trunc, St.keep, q00, q01, keepV, List.elem_cons, List.elem_nil, List.take_zero, List.map_nil, Nat.reduceAdd, Nat.reduceBEq, Nat.zero_add, Bool.false_eq_true, ↓reduceIte]
      refine ⟨(i, (i + j) / 2), ⟨h1, ?_, by omega⟩, by simp only; omega, rfl⟩
      apply Nat.le_of_not_lt
      intro hb
      have := lb_lt (lt := ltI) hb
      rw [hid, hl] at this; cases this
    · try simp (maxSteps := 1000000) only [seval, w1]
      simp only [q0p, St.trunc, St.keep, q00, q01, keepV, List.elem_cons, List.elem_nil, List.take_zero, List.map_nil, Nat.reduceAdd, Nat.reduceBEq, Nat.zero_add, Bool.false_eq_true, ↓reduceIte]
      refine ⟨((i + j) / 2 + 1, j), ⟨?_, h2, h3⟩, by simp only; omega, rfl⟩
      apply Nat.lt_of_not_le
      intro hb
      have := lb_ge ordI hr (by rw [ids_len]; exact hhn) hb
      rw [hid, hl] at this; cases this
  · have hij : ¬ i < j := by simpa using hc
    obtain rfl : i = lb ltI (ids l) k := by omega
    by_cases hn : lb ltI (ids l) k < l.length
    · have eg := avs_get hn
      have k1 : (0 : Int) ≤ ((lb ltI (ids l) k : Nat) : Int) ∧ Int.toNat ((lb ltI (ids l) k : Nat) : Int) < l.length := by omega
      have d1 : decide (((lb ltI (ids l) k : Nat) : Int) < (l.length : Int)) = true := decide_eq_true (by omega)
      have hh := hasAt_lt (eq := eqI) (show lb ltI (ids l) k < (ids l).length by rw [ids_len]; exact hn)
      rw [ids_get hn] at hh
      rw [hh] at hK
      try simp (maxSteps := 1000000) only [seval, d1, eg, k1, q12, Ses.av]
      (refine q07 (find_cmp l[lb ltI (ids l) k] k) rfl ?_; rintro _ rfl)
      try simp (maxSteps := 1000000) only [seval, cmp_eq]
      apply hK
      simp only [Tryz.results133, retK, ares, List.take_nil, Bool.and_true, Bool.true_and, AV.ofResults, St.trunc, q00, q01, List.getD_cons_zero, List.getD_cons_succ, List.map_nil, true_and, and_true, List.cons.injEq, exists_eq_left']
    · have d1 : decide (((lb ltI (ids l) k : Nat) : Int) < (l.length : Int)) = false := decide_eq_false (by omega)
      rw [hasAt_ge (by rw [ids_len]; omega)] at hK
      try simp (maxSteps := 1000000) only [seval, d1]
      apply hK
      simp only [Tryz.results133, retK, ares, List.take_nil, Bool.and_true, Bool.true_and, AV.ofResults, St.trunc, q00, q01, List.getD_cons_zero, List.getD_cons_succ, List.map_nil, true_and, and_true, List.cons.injEq, exists_eq_left']
theorem find_ses (l : List Ses) (hr : Rises ltI (ids l)) (k : Int) (hlen : l.length ≤ 1000000) :
    PCall P 118 [.sl 4 (avs l), i64 k] (fun x => x = .tup [i64 ((lb ltI (ids l) k : Nat) : Int), bool (hasAt ltI eqI (ids l) k)]) := by
  refine q0r tyOk Tryz.func118 rfl rfl ?_
  intro K hK
  simp only [Tryz.ntmps118, List.length_cons, List.length_nil, Nat.reduceAdd, Nat.reduceSub, List.replicate, List.cons_append, List.nil_append]
  try simp (maxSteps := 1000000) only [seval]
  (refine q07 (search_ses l hr k hlen) rfl ?_; rintro _ rfl)
  try simp (maxSteps := 1000000) only [seval]
  apply hK
  simp only [Tryz.results118, retK, ares, List.take_nil, Bool.and_true, Bool.true_and, AV.ofResults, St.trunc, q00, q01, List.getD_cons_zero, List.getD_cons_succ, List.map_nil, true_and, and_true, List.cons.injEq, exists_eq_left']

theorem has_iff {l : List Ses} {id : Int} : has l id = true ↔ id ∈ ids l := by
  rw [has, List.any_eq_true, ids, List.mem_map]
  constructor
  · rintro ⟨s, h1, h2⟩; exact ⟨s, h1, by simpa using h2⟩
  · rintro ⟨s, h1, rfl⟩; exact ⟨s, h1, by simp⟩
theorem has_at {l : List Ses} (hr : Rises ltI (ids l)) (id : Int) : hasAt ltI eqI (ids l) id = has l id := by
  rw [Bool.eq_iff_iff, hasAt_iff ordI eqI_iff hr, has_iff]
abbrev Up (l : List Ses) : Prop := Rises ltI (ids l)
theorem up_iff {l : List Ses} : Up l ↔ l.Pairwise fun a b => a.id < b.id := by
  rw [Up, Rises, ids, List.pairwise_map]
  simp only [ltI, decide_eq_true_eq]
def put (l : List Ses) (s : Ses) : List Ses := l.filter (fun x => decide (x.id < s.id)) ++ [s] ++ l.filter (fun x => decide (s.id < x.id))
def keyed (l : List Ses) : List (Int × Ses) := l.map fun s => (s.id, s)
theorem keyed_fst (l : List Ses) : (keyed l).map Prod.fst = ids l := by rw [keyed, ids, List.map_map]; rfl
theorem keyed_snd (l : List Ses) : (keyed l).map Prod.snd = l := by rw [keyed, List.map_map]; exact List.map_id _
theorem put_at {l : List Ses} (hr : Up l) (s : Ses) : (if has l s.id = true then l.set (lb ltI (ids l) s.id) s else l.take (lb ltI (ids l) s.id) ++ [s] ++ l.drop (lb ltI (ids l) s.id)) = put l s := by
  have h := congrArg (List.map Prod.snd) (with_eq ordI eqI_iff (m := keyed l) (by rw [q2r, keyed_fst]; exact hr) s.id s)
  have f : ∀ p : Ses → Bool, ((keyed l).filter fun q => p q.2).map Prod.snd = l.filter p := by
    intro p
    rw [keyed, List.filter_map, List.map_map]
    exact List.map_id _
  have f1 : (keyed l).filter (fun p => ltI p.1 s.id) = (keyed l).filter (fun q => (fun x : Ses => decide (x.id < s.id)) q.2) := by
    rw [keyed, List.filter_map, List.filter_map]; rfl
  have f2 : (keyed l).filter (fun p => ltI s.id p.1) = (keyed l).filter (fun q => (fun x : Ses => decide (s.id < x.id)) q.2) := by
    rw [keyed, List.filter_map, List.filter_map]; rfl
  rw [f1, f2, List.map_append, List.map_append, f (fun x => decide (x.id < s.id)), f (fun x => decide (s.id < x.id))] at h
  unfold withG at h
  rw [keyed_fst, has_at hr] at h
  rw [put]
  refine Eq.trans ?_ h
  split
  · rw [List.map_set, keyed_snd]
  · rw [List.map_append, List.map_append, List.map_take, List.map_drop, keyed_snd]; rfl
theorem put_up {l : List Ses} (hr : Up l) (s : Ses) : Up (put l s) := by
  have h0 := up_iff.1 hr
  refine up_iff.2 ?_
  rw [put, List.append_assoc, List.pairwise_append]
  refine ⟨h0.sublist List.filter_sublist, ?_, ?_⟩
  · rw [List.cons_append, List.nil_append, List.pairwise_cons]
    exact ⟨fun y hy => by simpa using (List.mem_filter.1 hy).2, h0.sublist List.filter_sublist⟩
  · intro a ha b hb
    have ha : a.id < s.id := by simpa using (List.mem_filter.1 ha).2
    rcases List.mem_append.1 hb with hb | hb
    · obtain rfl : b = s := by simpa using hb
      exact ha
    · have hb : s.id < b.id := by simpa using (List.mem_filter.1 hb).2
      omega
theorem clear_up {l : List Ses} (hr : Up l) (id : Int) : Up (clear l id) := up_iff.2 ((up_iff.1 hr).sublist List.filter_sublist)
theorem lives_up {l : List Ses} (hr : Up l) (now : Int) : Up (lives now l) := up_iff.2 ((up_iff.1 hr).sublist List.filter_sublist)
theorem insF_put (s : Ses) (l : List Ses) : ∀ out, l.foldl (insStep s) (out, true) = (out ++ l, true) := by
  induction l with
  | nil => intro out; simp
  | cons x xs ih =>
    intro out
    have e : insStep s (out, true) x = (out ++ [x], true) := by simp [insStep]
    rw [List.foldl_cons, e, ih]
    simp
theorem insF_eq (s : Ses) (l : List Ses) (hr : Up l) (hn : ∀ x ∈ l, x.id ≠ s.id) : ∀ out, (fun o : List Ses × Bool => if o.2 = true then o.1 else o.1 ++ [s]) (l.foldl (insStep s) (out, false)) = out ++ put l s := by
  induction l with
  | nil => intro out; simp [put]
  | cons x xs ih =>
    intro out
    have hp := List.pairwise_cons.1 (up_iff.1 hr)
    have hx := hn x List.mem_cons_self
    by_cases hsx : s.id < x.id
    · have e : insStep s (out, false) x = (out ++ [s] ++ [x], true) := by simp [insStep, hsx]
      have f1 : xs.filter (fun y => decide (y.id < s.id)) = [] := List.filter_eq_nil_iff.2 fun y hy => by have := hp.1 y hy; simp; omega
      have f2 : xs.filter (fun y => decide (s.id < y.id)) = xs := List.filter_eq_self.2 fun y hy => by have := hp.1 y hy; simp; omega
      have d1 : decide (x.id < s.id) = false := by simp; omega
      have d2 : decide (s.id < x.id) = true := by simp; omega
      rw [List.foldl_cons, e, insF_put, put, List.filter_cons, List.filter_cons, d1, d2, f1, f2]
      simp
    · have e : insStep s (out, false) x = (out ++ [x], false) := by simp [insStep, hsx]
      have d1 : decide (x.id < s.id) = true := by simp; omega
      have d2 : decide (s.id < x.id) = false := by simp; omega
      rw [List.foldl_cons, e, ih (up_iff.2 hp.2) (fun y hy => hn y (List.mem_cons_of_mem _ hy)), put, put, List.filter_cons, List.filter_cons, d1, d2]
      simp
theorem ins_eq {l : List Ses} (hr : Up l) (s : Ses) : ins s (clear l s.id) = put l s := by
  have h := insF_eq s (clear l s.id) (clear_up hr _) (fun x hx => by simpa [clear] using (List.mem_filter.1 hx).2) []
  have e : put (clear l s.id) s = put l s := by
    rw [put, put, clear, List.filter_filter, List.filter_filter]
    congr 1
    · congr 1
      refine List.filter_congr fun x _ => ?_
      rw [Bool.eq_iff_iff]; simp; omega
    · refine List.filter_congr fun x _ => ?_
      rw [Bool.eq_iff_iff]; simp; omega
  rw [List.nil_append, e] at h
  rw [← h, ins, insF]
end Go.Proofs.YtdkcpcflfnakdaaGreat
