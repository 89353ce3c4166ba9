/- The map of users to masks. -/
import Derived.Test.YtdkcpcflfnakdaaGreatMa
import Derived.Test.YtdkcpcflfnakdaaGreatSymZf
namespace Go.Proofs.YtdkcpcflfnakdaaGreat
open Go Go.Proofs.YtdkcpcflfnakdaaGreat.Sym
set_option maxRecDepth 100000
set_option maxHeartbeats 1000000
set_option linter.unusedSimpArgs false
set_option linter.unusedVariables false

abbrev u32 (n : Int) : AV := .v (.int .u32 n)
/-- slices.Clone[[]uint32,uint32]: a new row. -/
theorem clone_u32 (xs : List AV) (hlen : xs.length ≤ 1000000) :
    ACall P 105 [] [.sl 1 xs] (fun x m' => x = .own 0 1 0 xs.length ∧ m' = [.row 130 1 xs]) := by
  have hm : xs.length ≤ maxLen := by simp only [maxLen]; omega
  have hby : xs.length * 4 ≤ 140737488355328 := by omega
  by_cases h0 : xs = []
  · subst h0
    refine ACall.empty fun a cap => ?_
    cases a with
    | none =>
      refine ACall.weaken (K := fun x m' => x = .v (.slice none 0 0) ∧ m' = []) (q0y.toA (q1y tyOk Tryz.func105 rfl rfl (N := 0) (M := 1) (Nat.zero_le _) (by simp) ?_)) ?_
      · intro K hK
        simp only [Tryz.ntmps105, List.length_cons, List.length_nil, Nat.reduceAdd, Nat.reduceSub, List.replicate, List.cons_append, List.nil_append]
        try simp (maxSteps := 1000000) only [seval, -Int.reduceToNat, -Int.reduceNatCast, -Int.reduceNatCast', -Nat.reduceSubDiff, T, eqc36, eqc44, eqc49, eqc52, q00, q01, q02, q03]
        apply hK
        simp only [Tryz.results105, retK, ares, List.take_nil, Bool.and_true, AV.ofResults, St.trunc, q04, q05, List.getD_cons_zero, List.getD_cons_succ, List.map_nil, and_true, List.cons.injEq, exists_eq_left']
      · rintro x m' ⟨rfl, rfl⟩
        exact ⟨_, _, Turns.adopt (i := 0) 130 1 rfl, rfl, rfl⟩
    | some a =>
      refine q0y.toA (q1y tyOk Tryz.func105 rfl rfl (N := 0) (M := 1) (Nat.zero_le _) (by simp) ?_)
      intro K hK
      simp only [Tryz.ntmps105, List.length_cons, List.length_nil, Nat.reduceAdd, Nat.reduceSub, List.replicate, List.cons_append, List.nil_append]
      try simp (maxSteps := 1000000) only [seval, -Int.reduceToNat, -Int.reduceNatCast, -Int.reduceNatCast', -Nat.reduceSubDiff, T, eqc36, eqc44, eqc49, eqc52, q00, q01, q02, q03]
      apply hK
      simp only [Tryz.results105, retK, ares, List.take_nil, Bool.and_true, AV.ofResults, St.trunc, q04, q05, AB.trunc, List.getD_cons_zero, List.getD_cons_succ, List.take_succ_cons, List.map_nil, List.map_cons, List.length_nil, Nat.reduceLeDiff, and_true, ↓reduceIte, List.cons.injEq, exists_eq_left']
  · have hpos : 0 < xs.length := List.length_pos_iff.2 h0
    refine q0y.toA (q1y tyOk Tryz.func105 rfl rfl (N := 0) (M := 1) (Nat.zero_le _) (by simp) ?_)
    intro K hK
    simp only [Tryz.ntmps105, List.length_cons, List.length_nil, Nat.reduceAdd, Nat.reduceSub, List.replicate, List.cons_append, List.nil_append]
    try simp (maxSteps := 1000000) only [seval, -Int.reduceToNat, -Int.reduceNatCast, -Int.reduceNatCast', -Nat.reduceSubDiff, T, eqc36, eqc44, eqc49, eqc52, q00, q01, q02, q03, hpos]
    refine ⟨⟨hm, hby⟩, ?_⟩
    try simp (maxSteps := 1000000) only [seval, -Int.reduceToNat, -Int.reduceNatCast, -Int.reduceNatCast', -Nat.reduceSubDiff, T, eqc36, eqc44, eqc49, eqc52, q00, q01, q02, q03]
    apply hK
    simp only [Tryz.results105, retK, ares, List.take_nil, Bool.and_true, AV.ofResults, St.trunc, q04, q05, AB.trunc, List.getD_cons_zero, List.getD_cons_succ, List.take_succ_cons, List.map_nil, List.map_cons, Nat.reduceLeDiff, and_true, ↓reduceIte, List.cons.injEq, exists_eq_left']

/-- slices.Delete[[]uint32,uint32]: one element is taken out. -/
theorem delete_u32 (xs : List AV) (i : Nat) (hi : i < xs.length) (hlen : xs.length ≤ 1000000) :
    ACall P 104 [.row 130 1 xs] [.own 0 1 0 xs.length, i64 (i : Int), i64 ((i + 1 : Nat) : Int)] (fun x m' => x = .own 0 1 0 (xs.length - 1) ∧ m' = [.row 130 1 (xs.take i ++ xs.drop (i + 1) ++ [u32 0])]) := by
  refine ACall.weaken (K := fun x m' => x = .own 0 1 0 (xs.length - 1) ∧ ∃ N, m' = [.rowc 130 1 (xs.take i ++ xs.drop (i + 1) ++ [u32 0]) N]) (q0y.toA (m := [_]) (q0y.room (by decide) fun N hN _ => ?_)) ?_
  · refine acallN_go tyOk Tryz.func104 rfl rfl (by simp) ?_
    intro K hK
    simp only [Tryz.ntmps104, List.length_cons, List.length_nil, Nat.reduceAdd, Nat.reduceSub, List.replicate, List.cons_append, List.nil_append]
    have f1 : ((i : Int) == ((i + 1 : Nat) : Int)) = false := by simp; omega
    try simp (maxSteps := 1000000) only [seval, -Int.reduceToNat, -Int.reduceNatCast, -Int.reduceNatCast', -Nat.reduceSubDiff, T, eqc36, eqc44, eqc49, eqc52, q00, q01, q02, q03, Int.toNat_natCast, f1]
    refine ⟨by omega, ?_⟩
    by_cases he : i + 1 = xs.length
    · have e1 : (xs.take i ++ xs.drop i).length = xs.length := by rw [List.take_append_drop]
      have e2 : ((xs.take i ++ xs.drop i).take i ++ List.replicate (xs.length - i) (u32 0)) ++ (xs.take i ++ xs.drop i).drop (i + (xs.length - i)) = xs.take i ++ xs.drop (i + 1) ++ [u32 0] := by
        rw [List.take_append_drop, List.drop_of_length_le (by omega), List.drop_of_length_le (by omega), show xs.length - i = 1 by omega, List.append_nil, List.append_nil]
        rfl
      have hni : ¬ i = xs.length := by omega
      refine q0x tyOk (by rfl) (by simp only [List.length_cons, List.length_nil, Nat.reduceAdd, Nat.le_refl]) (by kernel_rfl) rfl ?_
      try simp (maxSteps := 1000000) only [seval, -Int.reduceToNat, -Int.reduceNatCast, -Int.reduceNatCast', -Nat.reduceSubDiff, T, eqc36, eqc44, eqc49, eqc52, q00, q01, q02, q03, Int.toNat_natCast, he]
      refine ⟨by omega, by omega, by omega, ?_⟩
      refine ⟨by kernel_rfl, ?_⟩
      try simp (maxSteps := 1000000) only [seval, -Int.reduceToNat, -Int.reduceNatCast, -Int.reduceNatCast', -Nat.reduceSubDiff, T, eqc36, eqc44, eqc49, eqc52, q00, q01, q02, q03, Int.toNat_natCast, hni, e1]
      refine ⟨by omega, by omega, ?_⟩
      apply hK
      simp only [Tryz.results104, retK, ares, List.take_nil, Bool.and_true, AV.ofResults, St.trunc, q04, q05, AB.trunc, List.getD_cons_zero, List.getD_cons_succ, List.take_succ_cons, List.map_nil, List.map_cons, List.length_cons, List.length_nil, Nat.reduceAdd, Nat.reduceLeDiff, and_true, ↓reduceIte, List.cons.injEq, exists_eq_left']
      simp only [e2]
      exact ⟨by congr 1; omega, N, rfl⟩
    · have hd : (xs.drop (i + 1)).length = xs.length - (i + 1) := by simp
      have ht : (xs.drop (i + 1)).take (xs.length - (i + 1)) = xs.drop (i + 1) := List.take_of_length_le (by simp)
      have hni : ¬ i + (xs.length - (i + 1)) = xs.length := by omega
      have e1 : (xs.take i ++ xs.drop (i + 1) ++ xs.drop (i + (xs.length - (i + 1)))).length = xs.length := by simp; omega
      have e2 : (xs.take i ++ xs.drop (i + 1) ++ xs.drop (i + (xs.length - (i + 1)))).take (i + (xs.length - (i + 1))) ++ List.replicate (xs.length - (i + (xs.length - (i + 1)))) (u32 0) ++
          (xs.take i ++ xs.drop (i + 1) ++ xs.drop (i + (xs.length - (i + 1)))).drop (i + (xs.length - (i + 1)) + (xs.length - (i + (xs.length - (i + 1))))) = xs.take i ++ xs.drop (i + 1) ++ [u32 0] := by
        rw [show xs.length - (i + (xs.length - (i + 1))) = 1 by omega, List.drop_of_length_le (l := xs.take i ++ xs.drop (i + 1) ++ xs.drop (i + (xs.length - (i + 1)))) (by rw [e1]; omega), List.append_nil,
          List.take_append_of_le_length (by simp; omega), List.take_of_length_le (by simp; omega)]
        rfl
      refine q0x tyOk (by rfl) (by simp only [List.length_cons, List.length_nil, Nat.reduceAdd, Nat.le_refl]) (by kernel_rfl) rfl ?_
      try simp (maxSteps := 1000000) only [seval, -Int.reduceToNat, -Int.reduceNatCast, -Int.reduceNatCast', -Nat.reduceSubDiff, T, eqc36, eqc44, eqc49, eqc52, q00, q01, q02, q03, Int.toNat_natCast, he, ht, hd]
      refine ⟨by omega, by omega, by omega, ?_⟩
      refine ⟨by kernel_rfl, ?_⟩
      try simp (maxSteps := 1000000) only [seval, -Int.reduceToNat, -Int.reduceNatCast, -Int.reduceNatCast', -Nat.reduceSubDiff, T, eqc36, eqc44, eqc49, eqc52, q00, q01, q02, q03, Int.toNat_natCast, hni, e1]
      refine ⟨by omega, by omega, ?_⟩
      apply hK
      simp only [Tryz.results104, retK, ares, List.take_nil, Bool.and_true, AV.ofResults, St.trunc, q04, q05, AB.trunc, List.getD_cons_zero, List.getD_cons_succ, List.take_succ_cons, List.map_nil, List.map_cons, List.length_cons, List.length_nil, Nat.reduceAdd, Nat.reduceLeDiff, and_true, ↓reduceIte, List.cons.injEq, exists_eq_left']
      simp only [e2]
      exact ⟨by congr 1; omega, N, rfl⟩
  · rintro x m' ⟨rfl, N, rfl⟩
    exact ⟨_, _, Turns.unroom, rfl, rfl⟩

/-- slices.Insert[[]uint32,uint32]: one element more. -/
theorem insert_u32 (xs : List AV) (v : AV) (i : Nat) (hi : i ≤ xs.length) (hlen : xs.length ≤ 1000000) :
    q1b P (fun _ => false) 107 [.row 130 1 xs] [.own 0 1 0 xs.length, i64 (i : Int), .sl 1 [v]] (fun x m' => x = .own 0 1 0 (xs.length + 1) ∧ m' = [.row 130 1 (xs.take i ++ [v] ++ xs.drop i)]) := by
  refine q0y.relocate (q0y.room (by decide) fun N hN _ => q1y tyOk Tryz.func107 rfl rfl (N := 0) (M := 2) (Nat.zero_le _) (by simp) ?_)
  intro K hK
  simp only [Tryz.ntmps107, List.length_cons, List.length_nil, Nat.reduceAdd, Nat.reduceSub, List.replicate, List.cons_append, List.nil_append]
  have w1 : IntKind.i64.wrap ((xs.length : Int) + ((1 : Nat) : Int)) = ((xs.length + 1 : Nat) : Int) := by rw [wrap_i64 (by omega) (by omega)]; rfl
  have w2 : IntKind.i64.wrap ((i : Int) + ((1 : Nat) : Int)) = ((i + 1 : Nat) : Int) := by rw [wrap_i64 (by omega) (by omega)]; rfl
  have w3 : IntKind.i64.wrap (((xs.length + 1 : Nat) : Int) - (i : Int)) = ((xs.length + 1 - i : Nat) : Int) := by rw [wrap_i64 (by omega) (by omega)]; omega
  have c1 : (((1 : Nat) : Int) == 0) = false := by decide
  by_cases hin : i = xs.length
  · subst hin
    try simp (maxSteps := 1000000) only [seval, -Int.reduceToNat, -Int.reduceNatCast, -Int.reduceNatCast', -Nat.reduceSubDiff, T, eqc36, eqc44, eqc49, eqc52, q00, q01, q02, q03, Int.toNat_natCast, c1]
    refine ⟨by omega, ?_⟩
    by_cases hr : xs.length + 1 ≤ N
    · try simp (maxSteps := 1000000) only [seval, -Int.reduceToNat, -Int.reduceNatCast, -Int.reduceNatCast', -Nat.reduceSubDiff, T, eqc36, eqc44, eqc49, eqc52, q00, q01, q02, q03, hr]
      apply hK
      simp only [Tryz.results107, retK, ares, List.take_nil, Bool.and_true, Bool.true_and, AV.ofResults, St.trunc, q04, q05, AB.trunc, List.getD_cons_zero, List.getD_cons_succ, List.take_succ_cons, List.map_nil, List.map_cons, Nat.reduceLeDiff, true_and, and_true, ↓reduceIte, List.cons.injEq, exists_eq_left']
      exact .inl ⟨N, [], by simp⟩
    · try simp (maxSteps := 1000000) only [seval, -Int.reduceToNat, -Int.reduceNatCast, -Int.reduceNatCast', -Nat.reduceSubDiff, T, eqc36, eqc44, eqc49, eqc52, q00, q01, q02, q03, hr]
      refine ⟨⟨by simp only [maxLen]; omega, by omega⟩, ?_⟩
      try simp (maxSteps := 1000000) only [seval, -Int.reduceToNat, -Int.reduceNatCast, -Int.reduceNatCast', -Nat.reduceSubDiff, T, eqc36, eqc44, eqc49, eqc52, q00, q01, q02, q03]
      apply hK
      simp only [Tryz.results107, retK, ares, List.take_nil, Bool.and_true, Bool.true_and, AV.ofResults, St.trunc, q04, q05, AB.trunc, List.getD_cons_zero, List.getD_cons_succ, List.take_succ_cons, List.map_nil, List.map_cons, Nat.reduceLeDiff, true_and, and_true, ↓reduceIte, List.cons.injEq, exists_eq_left']
      exact .inr (by simp)
  · have hlt : i < xs.length := by omega
    have c2 : ((i : Int) == (xs.length : Int)) = false := by simp; omega
    by_cases hr : xs.length + 1 ≤ N
    · have d1 : decide ((N : Int) < ((xs.length + 1 : Nat) : Int)) = false := decide_eq_false (by omega)
      have n1 : ¬ i + 1 = xs.length + 1 := by omega
      have n2 : ¬ i = xs.length + 1 := by omega
      try simp (maxSteps := 1000000) only [seval, -Int.reduceToNat, -Int.reduceNatCast, -Int.reduceNatCast', -Nat.reduceSubDiff, T, eqc36, eqc44, eqc49, eqc52, q00, q01, q02, q03, Int.toNat_natCast, c1, c2, w1, w2, Nat.sub_zero, d1, hin, n1, n2]
      refine ⟨by omega, by omega, by omega, ?_⟩
      refine callO_own ?_
      try simp (maxSteps := 1000000) only [seval, -Int.reduceToNat, -Int.reduceNatCast, -Int.reduceNatCast', -Nat.reduceSubDiff, T, eqc36, eqc44, eqc49, eqc52, q00, q01, q02, q03]
      refine callG_ext (xcall_overlaps (tS := 120) (tR := 4) (e := 130) tyOk Tryz.func126 rfl rfl (by kernel_rfl) (by kernel_rfl) rfl rfl rfl (by decide) rfl rfl) ?_
      try simp (maxSteps := 1000000) only [seval, -Int.reduceToNat, -Int.reduceNatCast, -Int.reduceNatCast', -Nat.reduceSubDiff, T, eqc36, eqc44, eqc49, eqc52, q00, q01, q02, q03]
      have ek : (xs.drop i).take (min (xs.length + 1 - (i + 1)) (xs.length + 1 - i)) = xs.drop i := List.take_of_length_le (by simp; omega)
      refine q0x tyOk (by rfl) (by simp only [List.length_cons, List.length_nil, Nat.reduceAdd, Nat.zero_le]) (by kernel_rfl) rfl ?_
      try simp (maxSteps := 1000000) only [seval, -Int.reduceToNat, -Int.reduceNatCast, -Int.reduceNatCast', -Nat.reduceSubDiff, T, eqc36, eqc44, eqc49, eqc52, q00, q01, q02, q03, Int.toNat_natCast, w2, n1, n2, ek]
      refine ⟨by omega, by omega, by omega, ?_⟩
      refine ⟨by kernel_rfl, ?_⟩
      have es : List.take (xs.length + 1 - i) [v] = [v] := List.take_of_length_le (by simp; omega)
      have e3 : (xs.take (i + 1) ++ xs.drop i ++ xs.drop (i + 1 + (xs.drop i).length)).take i ++ [v] ++ (xs.take (i + 1) ++ xs.drop i ++ xs.drop (i + 1 + (xs.drop i).length)).drop (i + 1) = xs.take i ++ [v] ++ xs.drop i := by
        have hl : (xs.take (i + 1)).length = i + 1 := by simp; omega
        have hd : xs.drop (i + 1 + (xs.drop i).length) = [] := List.drop_of_length_le (by simp; omega)
        rw [hd, List.append_nil, List.take_append_of_le_length (by omega), List.take_take, Nat.min_eq_left (by omega),
          List.drop_append_of_le_length (by omega), List.drop_of_length_le (by omega), List.nil_append]
      try simp (maxSteps := 1000000) only [seval, -Int.reduceToNat, -Int.reduceNatCast, -Int.reduceNatCast', -Nat.reduceSubDiff, T, eqc36, eqc44, eqc49, eqc52, q00, q01, q02, q03, Int.toNat_natCast, n2, es]
      refine ⟨by omega, ⟨by omega, by simp; omega⟩, ?_⟩
      apply hK
      simp only [Tryz.results107, retK, ares, List.take_nil, Bool.and_true, Bool.true_and, AV.ofResults, St.trunc, q04, q05, AB.trunc, List.getD_cons_zero, List.getD_cons_succ, List.take_succ_cons, List.map_nil, List.map_cons, Nat.reduceLeDiff, true_and, and_true, ↓reduceIte, List.cons.injEq, exists_eq_left']
      exact .inl ⟨N, [], by rw [e3, List.append_nil]⟩
    · have d1 : decide ((N : Int) < ((xs.length + 1 : Nat) : Int)) = true := decide_eq_true (by omega)
      have g1 : ¬ i + (xs.length + 1 - i) ≤ N := by omega
      have g2 : ¬ i = i + (xs.length + 1 - i) := by omega
      have g3 : ¬ i + 1 = i + (xs.length + 1 - i) := by omega
      have g4 : List.take (i + (xs.length + 1 - i) - i) [v] = [v] := List.take_of_length_le (by simp; omega)
      have g5 : (xs.drop i).take (min (i + (xs.length + 1 - i) - (i + 1)) (xs.length - i)) = xs.drop i := List.take_of_length_le (by simp; omega)
      try simp (maxSteps := 1000000) only [seval, -Int.reduceToNat, -Int.reduceNatCast, -Int.reduceNatCast', -Nat.reduceSubDiff, T, eqc36, eqc44, eqc49, eqc52, q00, q01, q02, q03, Int.toNat_natCast, c1, c2, w1, w2, w3, Nat.sub_zero, d1, hin, g1, g2, g4]
      refine ⟨by omega, by omega, ⟨by omega, by omega, by omega, by omega, by simp only [maxLen]; omega, by omega⟩, by omega, ⟨by omega, by simp; omega⟩, ?_⟩
      refine q0x tyOk (by rfl) (by simp only [List.length_cons, List.length_nil, Nat.reduceAdd, Nat.zero_le]) (by kernel_rfl) rfl ?_
      try simp (maxSteps := 1000000) only [seval, -Int.reduceToNat, -Int.reduceNatCast, -Int.reduceNatCast', -Nat.reduceSubDiff, T, eqc36, eqc44, eqc49, eqc52, q00, q01, q02, q03, Int.toNat_natCast, w2, g3, g5, hin]
      have hB : (xs.take i ++ List.replicate (xs.length + 1 - i) (u32 0)).take i = xs.take i := by
        rw [List.take_append_of_le_length (by simp; omega), List.take_take, Nat.min_self]
      have hli : (xs.take i).length = i := by simp; omega
      rw [hB]
      refine ⟨by omega, by omega, ⟨by omega, by omega, by simp; omega⟩, ?_⟩
      refine ⟨by kernel_rfl, ?_⟩
      try simp (maxSteps := 1000000) only [seval, -Int.reduceToNat, -Int.reduceNatCast, -Int.reduceNatCast', -Nat.reduceSubDiff, T, eqc36, eqc44, eqc49, eqc52, q00, q01, q02, q03, hB]
      apply hK
      simp only [Tryz.results107, retK, ares, List.take_nil, Bool.and_true, AV.ofResults, St.trunc, q04, q05, AB.trunc, List.getD_cons_zero, List.getD_cons_succ, List.take_succ_cons, List.map_nil, List.map_cons, Nat.reduceLeDiff, and_true, ↓reduceIte, List.cons.injEq, exists_eq_left']
      have e4 : ∀ D : List AV, (xs.take i ++ [v] ++ D).take (i + 1) = xs.take i ++ [v] := fun D => by
        rw [List.take_append_of_le_length (by simp; omega), List.take_of_length_le (by simp; omega)]
      have e5 : (xs.take i ++ [v] ++ (xs.take i ++ List.replicate (xs.length + 1 - i) (u32 0)).drop (i + 1)).drop (i + 1 + (xs.drop i).length) = [] := List.drop_of_length_le (by simp; omega)
      refine .inr ?_
      rw [e4, e5, List.append_nil]
      exact ⟨by congr 1; omega, rfl⟩

/-! ### Map[string, uint32] -/
def map_su (m : List (ByteArray × Int)) : AV := .agg [.sl 1 (m.map fun p => str p.1), .sl 1 (m.map fun p => u32 p.2)]
abbrev q2o (m : List (ByteArray × Int)) : Prop := RisesM ltS m
theorem find_su (m : List (ByteArray × Int)) (k : ByteArray) (hr : q2o m) (hlen : m.length ≤ 1000000) :
    PCall P 101 [map_su m, str k] (fun x => x = .tup [i64 ((lb ltS (m.map Prod.fst) k : Nat) : Int), bool (hasAt ltS eqS (m.map Prod.fst) k)]) := by
  refine q0u tyOk Tryz.func101 rfl rfl ?_
  intro K hK
  simp only [Tryz.ntmps101, List.length_cons, List.length_nil, Nat.reduceAdd, Nat.reduceSub, List.replicate, List.cons_append, List.nil_append]
  have em : (m.map fun p => str p.1) = (m.map Prod.fst).map fun x => str x := by rw [List.map_map]; rfl
  try simp (maxSteps := 1000000) only [seval, -Int.reduceToNat, -Int.reduceNatCast, -Int.reduceNatCast', -Nat.reduceSubDiff, T, eqc36, eqc44, eqc49, eqc52, q00, q01, q02, q03, map_su, em]
  (refine q06 (search_str (m.map Prod.fst) hr k (by rw [List.length_map]; exact hlen)) rfl ?_; rintro _ rfl)
  try simp (maxSteps := 1000000) only [seval, -Int.reduceToNat, -Int.reduceNatCast, -Int.reduceNatCast', -Nat.reduceSubDiff, T, eqc36, eqc44, eqc49, eqc52, q00, q01, q02, q03]
  apply hK
  simp only [Tryz.results101, retK, ares, Bool.and_true, Bool.true_and, AV.ofResults, St.trunc, q04, q05, List.getD_cons_zero, List.getD_cons_succ, List.take_zero, List.map_nil, true_and, and_true, List.cons.injEq, exists_eq_left']
theorem lb_len_su {m : List (ByteArray × Int)} {k : ByteArray} (h : hasAt ltS eqS (m.map Prod.fst) k = true) : lb ltS (m.map Prod.fst) k < m.length := by
  apply Nat.lt_of_not_le
  intro hc
  rw [hasAt_ge (by rw [List.length_map]; omega)] at h
  cases h
theorem with_call_su (m : List (ByteArray × Int)) (k : ByteArray) (v : Int) (hr : q2o m) (hlen : m.length ≤ 900000) :
    PCall P 76 [map_su m, str k, u32 v] (fun x => x = map_su (withG ltS eqS m k v)) := by
  refine q0u tyOk Tryz.func76 rfl rfl ?_
  intro K hK
  simp only [Tryz.ntmps76, List.length_cons, List.length_nil, Nat.reduceAdd, Nat.reduceSub, List.replicate, List.cons_append, List.nil_append]
  have hfind := find_su m k hr (by omega)
  unfold map_su at hfind
  try simp (maxSteps := 1000000) only [seval, -Int.reduceToNat, -Int.reduceNatCast, -Int.reduceNatCast', -Nat.reduceSubDiff, T, eqc36, eqc44, eqc49, eqc52, q00, q01, q02, q03, map_su]
  (refine q06 hfind rfl ?_; rintro _ rfl)
  unfold withG at hK
  have lm1 : (m.map fun p => str p.1).length ≤ 1000000 := by rw [List.length_map]; omega
  have lm2 : (m.map fun p => u32 p.2).length ≤ 1000000 := by rw [List.length_map]; omega
  have hle : lb ltS (m.map Prod.fst) k ≤ m.length := by have := lb_le (lt := ltS) (m.map Prod.fst) k; rwa [List.length_map] at this
  cases hh : hasAt ltS eqS (m.map Prod.fst) k
  · rw [hh] at hK
    try simp (maxSteps := 1000000) only [seval, -Int.reduceToNat, -Int.reduceNatCast, -Int.reduceNatCast', -Nat.reduceSubDiff, T, eqc36, eqc44, eqc49, eqc52, q00, q01, q02, q03]
    refine q0x tyOk (by rfl) (by simp only [List.length_cons, List.length_nil, Nat.reduceAdd, Nat.zero_le]) (by kernel_rfl) rfl ?_
    try simp (maxSteps := 1000000) only [seval, -Int.reduceToNat, -Int.reduceNatCast, -Int.reduceNatCast', -Nat.reduceSubDiff, T, eqc36, eqc44, eqc49, eqc52, q00, q01, q02, q03]
    refine q2f (clone_str _ lm1) rfl rfl ?_
    try simp (maxSteps := 1000000) only [seval, -Int.reduceToNat, -Int.reduceNatCast, -Int.reduceNatCast', -Nat.reduceSubDiff, T, eqc36, eqc44, eqc49, eqc52, q00, q01, q02, q03]
    refine drawCall_row (insert_str _ (str k) (lb ltS (m.map Prod.fst) k) (by rw [List.length_map]; exact hle) lm1) 2 (by decide) rfl rfl rfl rfl ?_
    try simp (maxSteps := 1000000) only [seval, -Int.reduceToNat, -Int.reduceNatCast, -Int.reduceNatCast', -Nat.reduceSubDiff, T, eqc36, eqc44, eqc49, eqc52, q00, q01, q02, q03]
    refine q2f (clone_u32 _ lm2) rfl rfl ?_
    try simp (maxSteps := 1000000) only [seval, -Int.reduceToNat, -Int.reduceNatCast, -Int.reduceNatCast', -Nat.reduceSubDiff, T, eqc36, eqc44, eqc49, eqc52, q00, q01, q02, q03]
    refine drawCall_row (insert_u32 _ (u32 v) (lb ltS (m.map Prod.fst) k) (by rw [List.length_map]; exact hle) lm2) 3 (by decide) rfl rfl rfl rfl ?_
    try simp (maxSteps := 1000000) only [seval, -Int.reduceToNat, -Int.reduceNatCast, -Int.reduceNatCast', -Nat.reduceSubDiff, T, eqc36, eqc44, eqc49, eqc52, q00, q01, q02, q03]
    refine ⟨by kernel_rfl, ?_⟩
    try simp (maxSteps := 1000000) only [seval, -Int.reduceToNat, -Int.reduceNatCast, -Int.reduceNatCast', -Nat.reduceSubDiff, T, eqc36, eqc44, eqc49, eqc52, q00, q01, q02, q03]
    apply hK
    simp only [Tryz.results76, retK, ares, List.take_nil, Bool.and_true, Bool.true_and, AV.ofResults, St.trunc, q04, q05, aload, acell, T, TI.isAgg, List.getD_cons_zero, List.getD_cons_succ, List.take_zero, List.take_succ_cons, List.drop_zero, List.map_nil, List.getElem?_cons_zero, List.getElem?_cons_succ, List.length_cons, List.length_nil, Nat.reduceAdd, Nat.reduceLeDiff, Nat.le_refl, true_and, and_true, ↓reduceIte, Bool.false_eq_true, List.cons.injEq, exists_eq_left']
    rw [sl_full (by simp; omega), sl_full (by simp; omega)]
    simp only [map_su, List.map_append, List.map_take, List.map_drop, List.map_cons, List.map_nil]
  · rw [hh] at hK
    have hl := lb_len_su hh
    have eg : (m.map fun p => u32 p.2).getD (Int.toNat ((lb ltS (m.map Prod.fst) k : Nat) : Int)) .any = u32 m[lb ltS (m.map Prod.fst) k].2 := at_map hl
    have k1 : (0 : Int) ≤ ((lb ltS (m.map Prod.fst) k : Nat) : Int) ∧ Int.toNat ((lb ltS (m.map Prod.fst) k : Nat) : Int) < m.length := by omega
    try simp (maxSteps := 1000000) only [seval, -Int.reduceToNat, -Int.reduceNatCast, -Int.reduceNatCast', -Nat.reduceSubDiff, T, eqc36, eqc44, eqc49, eqc52, q00, q01, q02, q03]
    refine q0x tyOk (by rfl) (by simp only [List.length_cons, List.length_nil, Nat.reduceAdd, Nat.zero_le]) (by kernel_rfl) rfl ?_
    try simp (maxSteps := 1000000) only [seval, -Int.reduceToNat, -Int.reduceNatCast, -Int.reduceNatCast', -Nat.reduceSubDiff, T, eqc36, eqc44, eqc49, eqc52, q00, q01, q02, q03]
    refine q2f (clone_u32 _ lm2) rfl rfl ?_
    try simp (maxSteps := 1000000) only [seval, -Int.reduceToNat, -Int.reduceNatCast, -Int.reduceNatCast', -Nat.reduceSubDiff, T, eqc36, eqc44, eqc49, eqc52, q00, q01, q02, q03]
    refine ⟨by kernel_rfl, ?_⟩
    try simp (maxSteps := 1000000) only [seval, -Int.reduceToNat, -Int.reduceNatCast, -Int.reduceNatCast', -Nat.reduceSubDiff, T, eqc36, eqc44, eqc49, eqc52, q00, q01, q02, q03, eg, k1, List.length_map]
    apply hK
    simp only [Tryz.results76, retK, ares, List.take_nil, Bool.and_true, Bool.true_and, AV.ofResults, St.trunc, q04, q05, aload, acell, T, TI.isAgg, List.getD_cons_zero, List.getD_cons_succ, List.take_zero, List.take_succ_cons, List.drop_zero, List.map_nil, List.getElem?_cons_zero, List.getElem?_cons_succ, List.length_cons, List.length_nil, Nat.reduceAdd, Nat.reduceLeDiff, Nat.le_refl, true_and, and_true, ↓reduceIte, List.cons.injEq, exists_eq_left']
    have he : m[lb ltS (m.map Prod.fst) k].1 = k := by
      have h1 := hh
      rw [hasAt_lt (by rw [List.length_map]; exact hl)] at h1
      have h2 := (q2a _ _).1 h1
      simpa using h2
    rw [sl_full (by simp)]
    simp only [map_su, List.map_set, Int.toNat_natCast]
    congr 2
    congr 1
    refine (set_same_map (f := fun p : ByteArray × Int => str p.1) hl ?_).symm
    simp only [he]
theorem all_call_su (m : List (ByteArray × Int)) : PCall P 99 [map_su m] (fun x => x = .fn 122 [.rp [.sl 1 (m.map fun p => str p.1), .sl 1 (m.map fun p => u32 p.2)]]) := by
  refine q0u tyOk Tryz.func99 rfl rfl ?_
  intro K hK
  simp only [Tryz.ntmps99, List.length_cons, List.length_nil, Nat.reduceAdd, Nat.reduceSub, List.replicate, List.cons_append, List.nil_append]
  try simp (maxSteps := 1000000) only [seval, -Int.reduceToNat, -Int.reduceNatCast, -Int.reduceNatCast', -Nat.reduceSubDiff, T, eqc36, eqc44, eqc49, eqc52, q00, q01, q02, q03, map_su]
  apply hK
  simp only [Tryz.results99, retK, ares, q17, AV.pure, Bool.and_self, Bool.and_true, Bool.true_and, AV.ofResults, St.trunc, q04, q05, List.getD_cons_zero, List.getD_cons_succ, List.take_zero, List.drop_zero, List.map_nil, List.getElem?_cons_zero, Nat.le_refl, true_and, and_true, ↓reduceIte, List.cons.injEq, exists_eq_left']
def pairs_su (m : List (ByteArray × Int)) : List (List AV) := m.map fun p => [str p.1, u32 p.2]
theorem pairs_pre_su {m : List (ByteArray × Int)} (i : Nat) : pairs_su (m.take i) <+: pairs_su m := (List.take_prefix i m).map _
theorem seq_su (m : List (ByteArray × Int)) (hlen : m.length ≤ 1000000) : ICall P 122 [.rp [.sl 1 (m.map fun p => str p.1), .sl 1 (m.map fun p => u32 p.2)]] (pairs_su m) := by
  refine icall_goY tyOk Tryz.func122 rfl rfl rfl ?_
  intro y K hK
  simp only [Tryz.ntmps122, List.length_cons, List.length_nil, Nat.reduceAdd, Nat.reduceSub, List.replicate, List.cons_append, List.nil_append]
  try simp (maxSteps := 1000000) only [seval, -Int.reduceToNat, -Int.reduceNatCast, -Int.reduceNatCast', -Nat.reduceSubDiff, T, eqc36, eqc44, eqc49, eqc52, q00, q01, q02, q03, List.length_map]
  refine loopY_rule tyOk (α := Nat) 0 [0, 1, 6, 7, 8] (fun i => i ≤ m.length)
    (fun i => ⟨[.v y, .rp [.sl 1 (m.map fun p => str p.1), .sl 1 (m.map fun p => u32 p.2)], .any, .any, .any, .any, .sl 1 (m.map fun p => str p.1), i64 m.length, i64 i, .any, .any, .any, .any, .any, .any, .any, .any, .any, .any, .any, .any, .any, .any], []⟩)
    (fun i => (pairs_su (m.take i), false)) (fun i => m.length - i) 0 (Nat.le_refl _) (Nat.zero_le _) rfl rfl ?_
  intro i hi
  try simp (maxSteps := 1000000) only [seval, -Int.reduceToNat, -Int.reduceNatCast, -Int.reduceNatCast', -Nat.reduceSubDiff, T, eqc36, eqc44, eqc49, eqc52, q00, q01, q02, q03]
  (first | refine q0a ?_ ?_ | refine q0g ?_ ?_ | refine q0h ?_ ?_ | refine q0i ?_ ?_ | refine q0b ?_ ?_) <;> intro h <;> try simp (maxSteps := 1000000) only [seval, -Int.reduceToNat, -Int.reduceNatCast, -Int.reduceNatCast', -Nat.reduceSubDiff, T, eqc36, eqc44, eqc49, eqc52, q00, q01, q02, q03]
  · have hlt : i < m.length := by simpa using h
    have e1 := at_map (f := fun p : ByteArray × Int => str p.1) hlt
    have e2 := at_map (f := fun p : ByteArray × Int => u32 p.2) hlt
    have c1 : (0 : Int) ≤ (i : Int) ∧ Int.toNat (i : Int) < m.length := by omega
    have ew : IntKind.i64.wrap ((i : Int) + 1) = ((i + 1 : Nat) : Int) := by rw [wrap_i64 (by omega) (by omega)]; rfl
    have e3 : pairs_su (m.take i) ++ [[str m[i].1, u32 m[i].2]] = pairs_su (m.take (i + 1)) := by
      rw [take_one hlt]; simp only [pairs_su, List.map_append, List.map_cons, List.map_nil]
    try simp (maxSteps := 1000000) only [seval, -Int.reduceToNat, -Int.reduceNatCast, -Int.reduceNatCast', -Nat.reduceSubDiff, T, eqc36, eqc44, eqc49, eqc52, q00, q01, q02, q03, e1, e2, c1, List.length_map]
    refine ⟨⟨by rw [e3]; exact pairs_pre_su _, rfl⟩, ?_⟩
    intro b
    cases b with
    | true =>
      try simp (maxSteps := 1000000) only [seval, -Int.reduceToNat, -Int.reduceNatCast, -Int.reduceNatCast', -Nat.reduceSubDiff, T, eqc36, eqc44, eqc49, eqc52, q00, q01, q02, q03, ew]
      simp only [loopYX_normal, St.trunc, St.keep, q04, q05, keepV, List.elem_cons, List.elem_nil, List.take_zero, List.map_nil, Nat.reduceAdd, Nat.reduceBEq, Nat.zero_add, Bool.false_eq_true, ↓reduceIte]
      exact ⟨i + 1, hlt, by omega, rfl, by rw [e3]⟩
    | false =>
      try simp (maxSteps := 1000000) only [seval, -Int.reduceToNat, -Int.reduceNatCast, -Int.reduceNatCast', -Nat.reduceSubDiff, T, eqc36, eqc44, eqc49, eqc52, q00, q01, q02, q03]
      exact hK _ _ _ (itK_ret ⟨by rw [e3]; exact pairs_pre_su _, fun h => by cases h⟩)
  · have hge : i = m.length := by have : ¬ ((i : Int) < (m.length : Int)) := by simpa using h
                                  omega
    subst hge
    refine hK _ _ _ (itK_normal ⟨pairs_pre_su _, fun _ => by rw [List.take_length]⟩)

theorem get_call_su (m : List (ByteArray × Int)) (k : ByteArray) (hr : q2o m) (hlen : m.length ≤ 1000000) :
    PCall P 73 [map_su m, str k] (fun x => x = .tup [u32 (getG ltS eqS 0 m k).1, bool (getG ltS eqS 0 m k).2]) := by
  refine q0u tyOk Tryz.func73 rfl rfl ?_
  intro K hK
  simp only [Tryz.ntmps73, List.length_cons, List.length_nil, Nat.reduceAdd, Nat.reduceSub, List.replicate, List.cons_append, List.nil_append]
  have hfind := find_su m k hr hlen
  unfold map_su at hfind
  try simp (maxSteps := 1000000) only [seval, -Int.reduceToNat, -Int.reduceNatCast, -Int.reduceNatCast', -Nat.reduceSubDiff, T, eqc36, eqc44, eqc49, eqc52, q00, q01, q02, q03, map_su]
  (refine q06 hfind rfl ?_; rintro _ rfl)
  unfold getG at hK
  cases hh : hasAt ltS eqS (m.map Prod.fst) k
  · rw [hh] at hK
    try simp (maxSteps := 1000000) only [seval, -Int.reduceToNat, -Int.reduceNatCast, -Int.reduceNatCast', -Nat.reduceSubDiff, T, eqc36, eqc44, eqc49, eqc52, q00, q01, q02, q03]
    apply hK
    simp only [Tryz.results73, retK, ares, Bool.and_true, Bool.true_and, AV.ofResults, St.trunc, q04, q05, List.getD_cons_zero, List.getD_cons_succ, List.take_zero, List.map_nil, true_and, and_true, ↓reduceIte, Bool.false_eq_true, List.cons.injEq, exists_eq_left']
  · rw [hh] at hK
    have hl := lb_len_su hh
    have eg : (m.map fun p => u32 p.2).getD (Int.toNat ((lb ltS (m.map Prod.fst) k : Nat) : Int)) .any = u32 ((m.map Prod.snd).getD (lb ltS (m.map Prod.fst) k) 0) := by
      rw [at_map hl, List.getD_eq_getElem?_getD, List.getElem?_map, List.getElem?_eq_getElem hl]; rfl
    have k1 : (0 : Int) ≤ ((lb ltS (m.map Prod.fst) k : Nat) : Int) ∧ Int.toNat ((lb ltS (m.map Prod.fst) k : Nat) : Int) < m.length := by omega
    try simp (maxSteps := 1000000) only [seval, -Int.reduceToNat, -Int.reduceNatCast, -Int.reduceNatCast', -Nat.reduceSubDiff, T, eqc36, eqc44, eqc49, eqc52, q00, q01, q02, q03, eg, k1, List.length_map]
    apply hK
    simp only [Tryz.results73, retK, ares, Bool.and_true, Bool.true_and, AV.ofResults, St.trunc, q04, q05, List.getD_cons_zero, List.getD_cons_succ, List.take_zero, List.map_nil, true_and, and_true, ↓reduceIte, List.cons.injEq, exists_eq_left']

theorem without_call_su (m : List (ByteArray × Int)) (k : ByteArray) (hr : q2o m) (hlen : m.length ≤ 900000) :
    PCall P 75 [map_su m, str k] (fun x => x = map_su (q21 ltS eqS m k)) := by
  refine q0u tyOk Tryz.func75 rfl rfl ?_
  intro K hK
  simp only [Tryz.ntmps75, List.length_cons, List.length_nil, Nat.reduceAdd, Nat.reduceSub, List.replicate, List.cons_append, List.nil_append]
  have hfind := find_su m k hr (by omega)
  unfold map_su at hfind
  try simp (maxSteps := 1000000) only [seval, -Int.reduceToNat, -Int.reduceNatCast, -Int.reduceNatCast', -Nat.reduceSubDiff, T, eqc36, eqc44, eqc49, eqc52, q00, q01, q02, q03, map_su]
  (refine q06 hfind rfl ?_; rintro _ rfl)
  unfold q21 at hK
  have lm1 : (m.map fun p => str p.1).length ≤ 1000000 := by rw [List.length_map]; omega
  have lm2 : (m.map fun p => u32 p.2).length ≤ 1000000 := by rw [List.length_map]; omega
  cases hh : hasAt ltS eqS (m.map Prod.fst) k
  · rw [hh] at hK
    try simp (maxSteps := 1000000) only [seval, -Int.reduceToNat, -Int.reduceNatCast, -Int.reduceNatCast', -Nat.reduceSubDiff, T, eqc36, eqc44, eqc49, eqc52, q00, q01, q02, q03]
    apply hK
    simp only [Tryz.results75, retK, ares, List.take_nil, Bool.and_true, Bool.true_and, AV.ofResults, St.trunc, q04, q05, aload, acell, T, TI.isAgg, List.getD_cons_zero, List.getD_cons_succ, List.take_zero, List.take_succ_cons, List.drop_zero, List.map_nil, List.getElem?_cons_zero, List.getElem?_cons_succ, List.length_cons, List.length_nil, Nat.reduceAdd, Nat.le_refl, true_and, and_true, ↓reduceIte, Bool.false_eq_true, List.cons.injEq, exists_eq_left']
    rfl
  · rw [hh] at hK
    have hl := lb_len_su hh
    have w1 : IntKind.i64.wrap (((lb ltS (m.map Prod.fst) k : Nat) : Int) + 1) = ((lb ltS (m.map Prod.fst) k + 1 : Nat) : Int) := by rw [wrap_i64 (by omega) (by omega)]; rfl
    try simp (maxSteps := 1000000) only [seval, -Int.reduceToNat, -Int.reduceNatCast, -Int.reduceNatCast', -Nat.reduceSubDiff, T, eqc36, eqc44, eqc49, eqc52, q00, q01, q02, q03]
    refine q0x tyOk (by rfl) (by simp only [List.length_cons, List.length_nil, Nat.reduceAdd, Nat.zero_le]) (by kernel_rfl) rfl ?_
    try simp (maxSteps := 1000000) only [seval, -Int.reduceToNat, -Int.reduceNatCast, -Int.reduceNatCast', -Nat.reduceSubDiff, T, eqc36, eqc44, eqc49, eqc52, q00, q01, q02, q03, w1]
    refine q2f (clone_str _ lm1) rfl rfl ?_
    try simp (maxSteps := 1000000) only [seval, -Int.reduceToNat, -Int.reduceNatCast, -Int.reduceNatCast', -Nat.reduceSubDiff, T, eqc36, eqc44, eqc49, eqc52, q00, q01, q02, q03, w1]
    refine drawCall_on (delete_str _ (lb ltS (m.map Prod.fst) k) (by rw [List.length_map]; exact hl) lm1) 2 rfl rfl rfl rfl rfl ?_
    try simp (maxSteps := 1000000) only [seval, -Int.reduceToNat, -Int.reduceNatCast, -Int.reduceNatCast', -Nat.reduceSubDiff, T, eqc36, eqc44, eqc49, eqc52, q00, q01, q02, q03, w1]
    refine q2f (clone_u32 _ lm2) rfl rfl ?_
    try simp (maxSteps := 1000000) only [seval, -Int.reduceToNat, -Int.reduceNatCast, -Int.reduceNatCast', -Nat.reduceSubDiff, T, eqc36, eqc44, eqc49, eqc52, q00, q01, q02, q03, w1]
    refine drawCall_on (delete_u32 _ (lb ltS (m.map Prod.fst) k) (by rw [List.length_map]; exact hl) lm2) 3 rfl rfl rfl rfl rfl ?_
    try simp (maxSteps := 1000000) only [seval, -Int.reduceToNat, -Int.reduceNatCast, -Int.reduceNatCast', -Nat.reduceSubDiff, T, eqc36, eqc44, eqc49, eqc52, q00, q01, q02, q03, w1]
    refine ⟨by kernel_rfl, ?_⟩
    try simp (maxSteps := 1000000) only [seval, -Int.reduceToNat, -Int.reduceNatCast, -Int.reduceNatCast', -Nat.reduceSubDiff, T, eqc36, eqc44, eqc49, eqc52, q00, q01, q02, q03]
    apply hK
    simp only [Tryz.results75, retK, ares, List.take_nil, Bool.and_true, Bool.true_and, AV.ofResults, St.trunc, q04, q05, aload, acell, T, TI.isAgg, List.getD_cons_zero, List.getD_cons_succ, List.take_zero, List.take_succ_cons, List.drop_zero, List.map_nil, List.getElem?_cons_zero, List.getElem?_cons_succ, List.length_cons, List.length_nil, Nat.reduceAdd, Nat.reduceLeDiff, Nat.le_refl, true_and, and_true, ↓reduceIte, List.cons.injEq, exists_eq_left']
    rw [cut_last (by rw [List.length_map]; exact hl), cut_last (by rw [List.length_map]; exact hl)]
    simp only [map_su, List.map_append, List.map_take, List.map_drop]

end Go.Proofs.YtdkcpcflfnakdaaGreat
namespace Go.Proofs.YtdkcpcflfnakdaaGreat
open Go Go.Proofs.YtdkcpcflfnakdaaGreat.Sym
set_option maxRecDepth 100000
set_option maxHeartbeats 1000000
set_option linter.unusedSimpArgs false
set_option linter.unusedVariables false

def kpF (b : Nat) : Bool := decide (b < 9) || decide (17 ≤ b)
/-- An event, as the program holds it. -/
structure Ev where
  u : ByteArray
  old : Pr
  new : Pr
  seq : Int
  deriving DecidableEq
def Ev.av (e : Ev) : AV := .agg [str e.u, i64 e.old.st, i64 e.old.pr, i64 e.old.n, i64 e.new.st, i64 e.new.pr, i64 e.new.n, u64 e.seq]
def evts (l : List Ev) : List AV := l.map Ev.av
theorem evts_len (l : List Ev) : (evts l).length = l.length := by simp [evts]
theorem evts_snoc (l : List Ev) (e : Ev) : evts l ++ [.agg [str e.u, i64 e.old.st, i64 e.old.pr, i64 e.old.n, i64 e.new.st, i64 e.new.pr, i64 e.new.n, u64 e.seq]] = evts (l ++ [e]) := by simp [evts, Ev.av]

def ringB (room : Int) (l : List Ev) (lost : Bool) : AB := .box [i64 room, .own 1 8 0 l.length, bool lost]
def ringM (room : Int) (l : List Ev) (lost : Bool) : List AB := [ringB room l lost, .row 49 8 (evts l)]
/-- What a queue takes. -/
def putR (room : Int) (q : List Ev × Bool) (e : Ev) : List Ev × Bool := if room ≤ (q.1.length : Int) then (q.1, true) else (q.1 ++ [e], q.2)
theorem ring_Put (room : Int) (l : List Ev) (lost : Bool) (e : Ev) (hl : l.length ≤ 100000) : q0y P 1 93 (ringM room l lost) [.ptr 0 0, e.av]
    (fun x m' => (∃ b, x = bool b) ∧ m' = ringM room (putR room (l, lost) e).1 (putR room (l, lost) e).2) := by
  unfold ringM ringB
  refine acallN_go tyOk Tryz.func93 rfl rfl (by simp) ?_
  intro K hK
  simp only [Tryz.ntmps93, List.length_cons, List.length_nil, Nat.reduceAdd, Nat.reduceSub, List.replicate, List.cons_append, List.nil_append]
  try simp (maxSteps := 1000000) only [seval, -Int.reduceToNat, -Int.reduceNatCast, -Int.reduceNatCast', -Nat.reduceSubDiff, T, eqc36, eqc44, eqc49, eqc52, q00, q01, q02, q03, Ev.av]
  refine q0x tyOk (by rfl) (by simp only [List.length_cons, List.length_nil, Nat.reduceAdd, Nat.reduceLeDiff]) (by kernel_rfl) rfl ?_
  try simp (maxSteps := 1000000) only [seval, -Int.reduceToNat, -Int.reduceNatCast, -Int.reduceNatCast', -Nat.reduceSubDiff, T, eqc36, eqc44, eqc49, eqc52, q00, q01, q02, q03]
  refine ⟨by kernel_rfl, ?_⟩
  (first | refine q0a ?_ ?_ | refine q0g ?_ ?_ | refine q0h ?_ ?_ | refine q0i ?_ ?_ | refine q0b ?_ ?_) <;> intro h
  · have h' : room ≤ (l.length : Int) := by simpa using h
    try simp (maxSteps := 1000000) only [seval, -Int.reduceToNat, -Int.reduceNatCast, -Int.reduceNatCast', -Nat.reduceSubDiff, T, eqc36, eqc44, eqc49, eqc52, q00, q01, q02, q03]
    apply hK
    simp only [Tryz.results93, retK, ares, Bool.and_true, AV.ofResults, St.trunc, q04, q05, AB.trunc, List.getD_cons_zero, List.getD_cons_succ, List.take_zero, List.take_succ_cons, List.map_nil, List.map_cons, List.length_cons, List.length_nil, Nat.reduceAdd, Nat.reduceLeDiff, and_true, ↓reduceIte, List.cons.injEq, exists_eq_left']
    rw [putR, if_pos h']
    exact ⟨⟨_, rfl⟩, rfl, rfl⟩
  · have h' : ¬ room ≤ (l.length : Int) := by simpa using h
    try simp (maxSteps := 1000000) only [seval, -Int.reduceToNat, -Int.reduceNatCast, -Int.reduceNatCast', -Nat.reduceSubDiff, T, eqc36, eqc44, eqc49, eqc52, q00, q01, q02, q03]
    refine q0x tyOk (by rfl) (by simp only [List.length_cons, List.length_nil, Nat.reduceAdd, Nat.reduceLeDiff]) (by kernel_rfl) rfl ?_
    try simp (maxSteps := 1000000) only [seval, -Int.reduceToNat, -Int.reduceNatCast, -Int.reduceNatCast', -Nat.reduceSubDiff, T, eqc36, eqc44, eqc49, eqc52, q00, q01, q02, q03, evts_len]
    refine ⟨⟨by simp only [maxLen]; omega, by omega⟩, ?_⟩
    refine ⟨by kernel_rfl, ?_⟩
    try simp (maxSteps := 1000000) only [seval, -Int.reduceToNat, -Int.reduceNatCast, -Int.reduceNatCast', -Nat.reduceSubDiff, T, eqc36, eqc44, eqc49, eqc52, q00, q01, q02, q03]
    apply hK
    simp only [Tryz.results93, retK, ares, Bool.and_true, AV.ofResults, St.trunc, q04, q05, AB.trunc, List.getD_cons_zero, List.getD_cons_succ, List.take_zero, List.take_succ_cons, List.map_nil, List.map_cons, List.length_cons, List.length_nil, Nat.reduceAdd, Nat.reduceLeDiff, and_true, ↓reduceIte, List.cons.injEq, exists_eq_left']
    rw [putR, if_neg h']
    simp only [evts_snoc, List.length_append, List.length_singleton]
    exact ⟨⟨_, rfl⟩, trivial, trivial⟩
def evYields (l : List Ev) : List (List AV) := l.map fun e => [e.av]
theorem ring_seq (room : Int) (l : List Ev) (lost : Bool) (hlen : l.length ≤ 100000) : ICall P 138 [.rp [.rp [i64 room, .sl 8 (evts l), bool lost]]] (evYields l) := by
  refine icall_goY tyOk Tryz.func138 rfl rfl rfl ?_
  intro y K hK
  simp only [Tryz.ntmps138, List.length_cons, List.length_nil, Nat.reduceAdd, Nat.reduceSub, List.replicate, List.cons_append, List.nil_append]
  try simp (maxSteps := 1000000) only [seval, -Int.reduceToNat, -Int.reduceNatCast, -Int.reduceNatCast', -Nat.reduceSubDiff, T, eqc36, eqc44, eqc49, eqc52, q00, q01, q02, q03, evts_len]
  refine loopY_rule tyOk (α := Nat) 0 [0, 1, 8, 9, 10] (fun i => i ≤ l.length)
    (fun i => ⟨[.v y, .rp [.rp [i64 room, .sl 8 (evts l), bool lost]], .any, .any, .any, .any, .any, .any, .sl 8 (evts l), i64 l.length, i64 i, .any, .any, .any, .any, .any, .any, .any, .any], []⟩)
    (fun i => (evYields (l.take i), false)) (fun i => l.length - i) 0 (Nat.le_refl _) (Nat.zero_le _) rfl rfl ?_
  intro i hi
  try simp (maxSteps := 1000000) only [seval, -Int.reduceToNat, -Int.reduceNatCast, -Int.reduceNatCast', -Nat.reduceSubDiff, T, eqc36, eqc44, eqc49, eqc52, q00, q01, q02, q03]
  (first | refine q0a ?_ ?_ | refine q0g ?_ ?_ | refine q0h ?_ ?_ | refine q0i ?_ ?_ | refine q0b ?_ ?_) <;> intro h <;> try simp (maxSteps := 1000000) only [seval, -Int.reduceToNat, -Int.reduceNatCast, -Int.reduceNatCast', -Nat.reduceSubDiff, T, eqc36, eqc44, eqc49, eqc52, q00, q01, q02, q03]
  · have hlt : i < l.length := by simpa using h
    have e1 := at_map (f := Ev.av) hlt
    have c1 : (0 : Int) ≤ (i : Int) ∧ Int.toNat (i : Int) < l.length := by omega
    have ew : IntKind.i64.wrap ((i : Int) + 1) = ((i + 1 : Nat) : Int) := by rw [wrap_i64 (by omega) (by omega)]; rfl
    have e3 : evYields (l.take i) ++ [[l[i].av]] = evYields (l.take (i + 1)) := by
      rw [take_one hlt]; simp only [evYields, List.map_append, List.map_cons, List.map_nil]
    have pre : evYields (l.take (i + 1)) <+: evYields l := (List.take_prefix _ l).map _
    change (evts l).getD _ _ = _ at e1
    unfold Ev.av at e1 e3
    try simp (maxSteps := 1000000) only [seval, -Int.reduceToNat, -Int.reduceNatCast, -Int.reduceNatCast', -Nat.reduceSubDiff, T, eqc36, eqc44, eqc49, eqc52, q00, q01, q02, q03, e1, c1, evts_len]
    refine ⟨⟨by rw [e3]; exact pre, rfl⟩, ?_⟩
    intro b
    cases b with
    | true =>
      try simp (maxSteps := 1000000) only [seval, -Int.reduceToNat, -Int.reduceNatCast, -Int.reduceNatCast', -Nat.reduceSubDiff, T, eqc36, eqc44, eqc49, eqc52, q00, q01, q02, q03, ew]
      simp only [loopYX_normal, St.trunc, St.keep, q04, q05, keepV, q17, AV.pure, Bool.and_self, List.drop_zero, List.elem_cons, List.elem_nil, List.take_zero, List.map_nil, List.getElem?_cons_zero, Nat.reduceAdd, Nat.reduceBEq, Nat.le_refl, Nat.zero_add, Bool.false_eq_true, ↓reduceIte]
      exact ⟨i + 1, hlt, by omega, rfl, by rw [e3]⟩
    | false =>
      try simp (maxSteps := 1000000) only [seval, -Int.reduceToNat, -Int.reduceNatCast, -Int.reduceNatCast', -Nat.reduceSubDiff, T, eqc36, eqc44, eqc49, eqc52, q00, q01, q02, q03]
      exact hK _ _ _ (itK_ret ⟨by rw [e3]; exact pre, fun h => by cases h⟩)
  · have hge : i = l.length := by have : ¬ ((i : Int) < (l.length : Int)) := by simpa using h
                                  omega
    subst hge
    refine hK _ _ _ (itK_normal ⟨(List.take_prefix _ l).map _, fun _ => by rw [List.take_length]⟩)
theorem ring_All (room : Int) (l : List Ev) (lost : Bool) (cs : List AV) : ACall P 121 [ringB room l lost, .row 49 8 (evts l), .box [.v (.slice none 0 0)]] [.ptr 0 0]
    (fun x m' => x = .fn 138 [.ptr 3 0] ∧ m' = [ringB room l lost, .row 49 8 (evts l), .box [.v (.slice none 0 0)], .box [.ptr 0 0]]) := by
  unfold ringB
  refine q0y.toA (q1y tyOk Tryz.func121 rfl rfl (N := 3) (M := 4) (by simp) (by simp) ?_)
  intro K hK
  simp only [Tryz.ntmps121, List.length_cons, List.length_nil, Nat.reduceAdd, Nat.reduceSub, List.replicate, List.cons_append, List.nil_append]
  try simp (maxSteps := 1000000) only [seval, -Int.reduceToNat, -Int.reduceNatCast, -Int.reduceNatCast', -Nat.reduceSubDiff, T, eqc36, eqc44, eqc49, eqc52, q00, q01, q02, q03]
  apply hK
  simp only [Tryz.results121, retK, ares, List.take_nil, Bool.and_true, AV.ofResults, St.trunc, q04, q05, AB.trunc, List.getD_cons_zero, List.getD_cons_succ, List.take_succ_cons, List.map_nil, List.map_cons, Nat.reduceLeDiff, and_true, ↓reduceIte, List.cons.injEq, exists_eq_left']
theorem evts_bare (fz : List Nat) (l : List Ev) : baresV fz (evts l) = true := by
  induction l with
  | nil => rfl
  | cons e l ih => rw [evts, List.map_cons, baresV, ← evts, ih]; rfl
theorem ring_Drain0 (room : Int) (l : List Ev) (lost : Bool) (hl : l.length ≤ 100000) : ACall P 98 (ringM room l lost) [.ptr 0 0]
    (fun x m' => x = .tup [.sl 8 (evts l), bool lost] ∧ m' = [.box [i64 room, .v (.slice none 0 0), bool false], .row 49 8 (evts l)]) := by
  unfold ringM
  have hall := ring_All room l lost []
  unfold ringB at hall ⊢
  refine acall_goY tyOk Tryz.func98 rfl rfl ?_
  intro K hK
  simp only [Tryz.ntmps98, List.length_cons, List.length_nil, Nat.reduceAdd, Nat.reduceSub, List.replicate, List.cons_append, List.nil_append]
  try simp (maxSteps := 1000000) only [seval, -Int.reduceToNat, -Int.reduceNatCast, -Int.reduceNatCast', -Nat.reduceSubDiff, T, eqc36, eqc44, eqc49, eqc52, q00, q01, q02, q03]
  refine callG_A (hall.mono ?_)
  rintro _ _ ⟨rfl, rfl⟩
  try simp (maxSteps := 1000000) only [seval, -Int.reduceToNat, -Int.reduceNatCast, -Int.reduceNatCast', -Nat.reduceSubDiff, T, eqc36, eqc44, eqc49, eqc52, q00, q01, q02, q03]
  refine restY_turn (Turns.adoptIn (b := 2) (c := 0) 49 8 rfl rfl) ?_
  refine restY_thaw [0] [1, 0, 3] (by simp [St.adoptIn]) (by simp [St.adoptIn, AB.fzOk, q0m, bks]) (by simp [St.adoptIn, bks]) ?_
  intro vs
  have hsl : (if 0 + l.length ≤ (evts l).length then AV.sl 8 ((evts l).take l.length) else AV.any) = .sl 8 (evts l) := sl_full (evts_len l)
  simp only [St.adoptIn, litT, St.colds, St.cold, coldVs, coldV, AB.cold, shutV, List.set, List.map_cons, List.map_nil, List.getElem?_cons_zero, List.getElem?_cons_succ, List.length_cons, List.length_nil, Nat.reduceAdd, Nat.reduceEqDiff, ↓reduceIte, List.cons_append, List.nil_append, true_and, hsl, q17, AV.pure, List.drop_zero, Bool.and_self, Nat.succ_ne_zero]
  refine range_rule tyOk (ring_seq room l lost hl) (α := Nat) 4 5 [0, 4] ([.v (vs.getD 0 undef), .any, .any, .any, .ptr 2 0, .any, .any, .any, .any, .any, .any, .any, .any, .any, .any, .any, .any, .any, .any, .any, .any, .any, .any, .any, .any, .any]) (fun xs i => i = xs.length ∧ i ≤ l.length)
    (fun i => [.gone, .gone, .box [.own 4 8 0 i], .gone, .row 49 8 (evts (l.take i))]) 0 rfl rfl
    (fun x hx => by simp only [evYields, List.mem_map] at hx; obtain ⟨p, _, rfl⟩ := hx; rfl) (by decide) (by decide) (by rfl) ⟨rfl, Nat.zero_le _⟩ rfl ?_ ?_
  · rintro xs x _ hpre ⟨rfl, hle⟩
    obtain ⟨hi, _, rfl⟩ := prefix_next hpre
    have hn : evts (l.take xs.length) ++ [l[xs.length].av] = evts (l.take (xs.length + 1)) := by rw [take_one hi]; simp only [evts, List.map_append, List.map_cons, List.map_nil]
    have hl2 : (evts (l.take xs.length)).length = xs.length := by rw [evts_len, List.length_take]; omega
    generalize l[xs.length] = e at *
    unfold Ev.av at hn
    try simp (maxSteps := 1000000) only [seval, -Int.reduceToNat, -Int.reduceNatCast, -Int.reduceNatCast', -Nat.reduceSubDiff, T, eqc36, eqc44, eqc49, eqc52, q00, q01, q02, q03, Ev.av, hl2]
    refine ⟨⟨by simp only [maxLen]; omega, by omega⟩, ?_⟩
    try simp (maxSteps := 1000000) only [seval, -Int.reduceToNat, -Int.reduceNatCast, -Int.reduceNatCast', -Nat.reduceSubDiff, T, eqc36, eqc44, eqc49, eqc52, q00, q01, q02, q03]
    simp only [q2v, St.trunc, q04, q05, AB.trunc, q17, AV.pure, Bool.and_self, List.drop_zero, List.take_succ_cons, List.take_zero, List.map_cons, List.map_nil, List.getElem?_cons_zero, List.getElem?_cons_succ, List.length_cons, List.length_nil, Nat.reduceLeDiff, Nat.le_refl, Nat.zero_add, ↓reduceIte]
    exact ⟨xs.length + 1, ⟨by first | rfl | simp, by omega⟩, by rw [hn]⟩
  · rintro _ ⟨rfl, hle⟩
    have e1 : (evYields l).length = l.length := by simp [evYields]
    rw [e1, List.take_length]
    refine ⟨by simp, by simp, ?_⟩
    simp only [thawT, thawM, List.elem_cons, List.elem_nil, Nat.reduceAdd, Nat.reduceBEq, ↓reduceIte, Bool.false_eq_true, AV.bare, AB.bare, baresV, evts_bare, Bool.and_self, Bool.not_false, Nat.reduceLT, decide_true, decide_false, Bool.and_false, goYE_normal, beq_self_eq_true]
    try simp (maxSteps := 1000000) only [seval, -Int.reduceToNat, -Int.reduceNatCast, -Int.reduceNatCast', -Nat.reduceSubDiff, T, eqc36, eqc44, eqc49, eqc52, q00, q01, q02, q03]
    apply hK
    simp only [Tryz.results98, retK, ares, Bool.and_true, Bool.true_and, AV.ofResults, St.trunc, q04, q05, AB.trunc, List.getD_cons_zero, List.getD_cons_succ, List.take_zero, List.take_succ_cons, List.drop_zero, List.map_nil, List.map_cons, List.getElem?_cons_zero, List.getElem?_cons_succ, List.length_cons, List.length_nil, Nat.reduceAdd, Nat.reduceLeDiff, true_and, and_true, ↓reduceIte, List.cons.injEq, exists_eq_left']
    rw [sl_full (evts_len l)]
/-- A queue is emptied. -/
theorem ring_Drain (room : Int) (l : List Ev) (lost : Bool) (hl : l.length ≤ 100000) : q1b P (fun i => i != 1) 98 (ringM room l lost) [.ptr 0 0]
    (fun x m' => x = .tup [.sl 8 (evts l), bool lost] ∧ m' = ringM room [] false) := by
  refine (ring_Drain0 room l lost hl).readopt 0 1 1 49 8 ?_
  rintro x m' ⟨rfl, rfl⟩
  exact ⟨_, rfl, rfl, by simp, rfl, rfl⟩
end Go.Proofs.YtdkcpcflfnakdaaGreat
namespace Go.Proofs.YtdkcpcflfnakdaaGreat
open Go Go.Proofs.YtdkcpcflfnakdaaGreat.Sym
set_option maxRecDepth 100000
set_option maxHeartbeats 1000000
set_option linter.unusedSimpArgs false
set_option linter.unusedVariables false

structure Fd where
  m : List (ByteArray × Int)
  room : Int
  q : Nat → List Ev × Bool
def feedC (m : List (ByteArray × Int)) : List AV := [.sl 1 (m.map fun p => str p.1), .sl 1 (m.map fun p => u32 p.2), .ptr 1 0, .ptr 2 0, .ptr 3 0, .ptr 4 0, .ptr 5 0, .ptr 6 0, .ptr 7 0, .ptr 8 0]
def qB (F : Fd) (j : Nat) : AB := .box [i64 F.room, .own (9 + j) 8 0 (F.q j).1.length, bool (F.q j).2]
def qR (F : Fd) (j : Nat) : AB := .row 49 8 (evts (F.q j).1)
/-- A feed, as it lies in memory. -/
def feedM (F : Fd) : List AB := [.box (feedC F.m), qB F 0, qB F 1, qB F 2, qB F 3, qB F 4, qB F 5, qB F 6, qB F 7, qR F 0, qR F 1, qR F 2, qR F 3, qR F 4, qR F 5, qR F 6, qR F 7]

section
variable (F : Fd) (r : List AB)
theorem q0z : (feedM F).length = 17 := rfl
theorem fm_0n : (feedM F)[0]? = some (.box (feedC F.m)) := rfl
theorem q14 {m' : List (ByteArray × Int)} : (feedM F).set 0 (.box [.sl 1 (m'.map fun p => str p.1), .sl 1 (m'.map fun p => u32 p.2), .ptr 1 0, .ptr 2 0, .ptr 3 0, .ptr 4 0, .ptr 5 0, .ptr 6 0, .ptr 7 0, .ptr 8 0]) = feedM { F with m := m' } := rfl
theorem fm_0 : (feedM F ++ r)[0]? = some (.box (feedC F.m)) := rfl
theorem q18 {m' : List (ByteArray × Int)} : (feedM F ++ r).set 0 (.box [.sl 1 (m'.map fun p => str p.1), .sl 1 (m'.map fun p => u32 p.2), .ptr 1 0, .ptr 2 0, .ptr 3 0, .ptr 4 0, .ptr 5 0, .ptr 6 0, .ptr 7 0, .ptr 8 0]) = feedM { F with m := m' } ++ r := rfl
theorem fm_17 : (feedM F ++ r)[17]? = r[0]? := rfl
theorem fm_18 : (feedM F ++ r)[18]? = r[1]? := rfl
theorem fm_19 : (feedM F ++ r)[19]? = r[2]? := rfl
theorem fm_20 : (feedM F ++ r)[20]? = r[3]? := rfl
theorem fm_21 : (feedM F ++ r)[21]? = r[4]? := rfl
theorem q1k {x : AB} : (feedM F ++ r).set 17 x = feedM F ++ r.set 0 x := rfl
theorem q1l {x : AB} : (feedM F ++ r).set 18 x = feedM F ++ r.set 1 x := rfl
theorem q1m {x : AB} : (feedM F ++ r).set 19 x = feedM F ++ r.set 2 x := rfl
theorem q1n {x : AB} : (feedM F ++ r).set 20 x = feedM F ++ r.set 3 x := rfl
theorem q1o {x : AB} : (feedM F ++ r).set 21 x = feedM F ++ r.set 4 x := rfl
theorem q19 : (feedM F ++ r).length = 17 + r.length := by rw [List.length_append, q0z]
theorem q1p (r' : List AB) : (feedM F ++ r) ++ r' = feedM F ++ (r ++ r') := List.append_assoc _ _ _
theorem fm_trunc {M : List AB} {n : Nat} (h : 17 ≤ n) : (feedM F).map (AB.trunc M n) = feedM F := by
  have k : ∀ b, b < 17 → ¬ n ≤ b := fun b hb => by omega
  simp only [feedM, feedC, qB, qR, List.map_cons, List.map_nil, AB.trunc, q04, q05, k 1 (by decide), k 2 (by decide), k 3 (by decide), k 4 (by decide), k 5 (by decide), k 6 (by decide), k 7 (by decide), k 8 (by decide), k (9 + 0) (by decide), k (9 + 1) (by decide), k (9 + 2) (by decide), k (9 + 3) (by decide), k (9 + 4) (by decide), k (9 + 5) (by decide), k (9 + 6) (by decide), k (9 + 7) (by decide), if_false]
theorem fm_tk (k : Nat) : (feedM F ++ r).take (17 + k) = feedM F ++ r.take k := by
  rw [List.take_append, q0z, List.take_of_length_le (by rw [q0z]; omega), show 17 + k - 17 = k by omega]
theorem fm_ret {M : List AB} : ((feedM F ++ r).take 17).map (AB.trunc M 17) = feedM F := by
  rw [show (17 : Nat) = 17 + 0 from rfl, fm_tk, List.take_zero, List.append_nil, fm_trunc F (by decide)]
theorem fm_retn {M : List AB} : ((feedM F).take 17).map (AB.trunc M 17) = feedM F := by
  have := fm_ret F [] (M := M)
  rwa [List.append_nil] at this
theorem q1a {M : List AB} {b : Nat} (h : 17 ≤ b) : (feedM F ++ r).map (AB.shut M b) = feedM F ++ r.map (AB.shut M b) := by
  have k : ∀ c, c < 17 → ¬ c = b := fun c hc => by omega
  rw [List.map_append]
  simp only [feedM, feedC, qB, qR, List.map_cons, List.map_nil, AB.shut, shutVs, shutV, k 1 (by decide), k 2 (by decide), k 3 (by decide), k 4 (by decide), k 5 (by decide), k 6 (by decide), k 7 (by decide), k 8 (by decide), k (9 + 0) (by decide), k (9 + 1) (by decide), k (9 + 2) (by decide), k (9 + 3) (by decide), k (9 + 4) (by decide), k (9 + 5) (by decide), k (9 + 6) (by decide), k (9 + 7) (by decide), if_false]
theorem fm_kill {b : Nat} (h : 17 ≤ b) : (feedM F).map (AB.kill b) = feedM F := by
  have k : ∀ c, c < 17 → ¬ c = b := fun c hc => by omega
  simp only [feedM, feedC, qB, qR, List.map_cons, List.map_nil, AB.kill, q1w, killV, k 1 (by decide), k 2 (by decide), k 3 (by decide), k 4 (by decide), k 5 (by decide), k 6 (by decide), k 7 (by decide), k 8 (by decide), k (9 + 0) (by decide), k (9 + 1) (by decide), k (9 + 2) (by decide), k (9 + 3) (by decide), k (9 + 4) (by decide), k (9 + 5) (by decide), k (9 + 6) (by decide), k (9 + 7) (by decide), if_false]
end

theorem q15 (F : Fd) (r : List AB) {b : Nat} (h : 17 ≤ b) : (feedM F ++ r).map (AB.kill b) = feedM F ++ r.map (AB.kill b) := by rw [List.map_append, fm_kill F h]
/-! ### Masks -/
def hasB (m k : Int) : Bool := andF .u32 (shrF .u32 m k) 1 == 1
def setB (m k : Int) : Int := orF .u32 m (shlF .u32 1 k)
def clrB (m k : Int) : Int := andNotF .u32 m (shlF .u32 1 k)
def cli (who : Int) : Bool := decide (0 ≤ who) && decide (who < 8)
theorem cli_iff {who : Int} (h : cli who = true) : ∃ k : Nat, k < 8 ∧ who = k := by
  simp only [cli, Bool.and_eq_true, decide_eq_true_eq] at h
  exact ⟨who.toNat, by omega, by omega⟩
theorem feed_client (who : Int) : PCall P 74 [i64 who] (fun x => x = bool (cli who)) := by
  refine q0u tyOk Tryz.func74 rfl rfl ?_
  intro K hK
  simp only [Tryz.ntmps74, List.length_cons, List.length_nil, Nat.reduceAdd, Nat.reduceSub, List.replicate, List.cons_append, List.nil_append]
  try simp (maxSteps := 1000000) only [seval, -Int.reduceToNat, -Int.reduceNatCast, -Int.reduceNatCast', -Nat.reduceSubDiff, T, eqc36, eqc44, eqc49, eqc52, q00, q01, q02, q03]
  (first | refine q0a ?_ ?_ | refine q0g ?_ ?_ | refine q0h ?_ ?_ | refine q0i ?_ ?_ | refine q0b ?_ ?_) <;> intro h
  · try simp (maxSteps := 1000000) only [seval, -Int.reduceToNat, -Int.reduceNatCast, -Int.reduceNatCast', -Nat.reduceSubDiff, T, eqc36, eqc44, eqc49, eqc52, q00, q01, q02, q03]
    apply hK
    simp only [Tryz.results74, retK, ares, List.take_nil, Bool.and_true, Bool.true_and, AV.ofResults, St.trunc, q04, q05, List.getD_cons_zero, List.getD_cons_succ, List.map_nil, true_and, and_true, List.cons.injEq, exists_eq_left']
    rw [cli, h, Bool.true_and]
  · try simp (maxSteps := 1000000) only [seval, -Int.reduceToNat, -Int.reduceNatCast, -Int.reduceNatCast', -Nat.reduceSubDiff, T, eqc36, eqc44, eqc49, eqc52, q00, q01, q02, q03]
    apply hK
    simp only [Tryz.results74, retK, ares, List.take_nil, Bool.and_true, Bool.true_and, AV.ofResults, St.trunc, q04, q05, List.getD_cons_zero, List.getD_cons_succ, List.map_nil, true_and, and_true, List.cons.injEq, exists_eq_left']
    rw [cli, h, Bool.false_and]

def maskOf (m : List (ByteArray × Int)) (u : ByteArray) : Int := (getG ltS eqS 0 m u).1
def watF (m : List (ByteArray × Int)) (who : Int) (u : ByteArray) : Bool := cli who && hasB (maskOf m u) who
theorem get_su (m : List (ByteArray × Int)) (u : ByteArray) (hr : q2o m) (hl : m.length ≤ 1000) : PCall P 73 [.agg [.sl 1 (m.map fun p => str p.1), .sl 1 (m.map fun p => u32 p.2)], str u]
    (fun x => x = .tup [u32 (maskOf m u), bool (getG ltS eqS 0 m u).2]) := get_call_su m u hr (by omega)
theorem feed_Watching (F : Fd) (who : Int) (u : ByteArray) (hr : q2o F.m) (hl : F.m.length ≤ 1000) : ACall P 70 (feedM F) [.ptr 0 0, i64 who, str u]
    (fun x m' => x = bool (watF F.m who u) ∧ m' = feedM F) := by
  refine acall_go tyOk Tryz.func70 rfl rfl ?_
  intro K hK
  rw [q0z] at hK ⊢
  simp only [Tryz.ntmps70, List.length_cons, List.length_nil, Nat.reduceAdd, Nat.reduceSub, List.replicate, List.cons_append, List.nil_append]
  try simp (maxSteps := 1000000) only [seval, -Int.reduceToNat, -Int.reduceNatCast, -Int.reduceNatCast', -Nat.reduceSubDiff, T, eqc36, eqc44, eqc49, eqc52, q00, q01, q02, q03, fm_0, fm_0n, q18, q14, fm_17, fm_18, fm_19, fm_20, fm_21, q1k, q1l, q1m, q1n, q1o, q19, q0z, q1p, q1a, q15, feedC, kpF, List.all_cons, List.all_nil]
  (refine q06 (get_su F.m u hr hl) rfl ?_; rintro _ rfl)
  try simp (maxSteps := 1000000) only [seval, -Int.reduceToNat, -Int.reduceNatCast, -Int.reduceNatCast', -Nat.reduceSubDiff, T, eqc36, eqc44, eqc49, eqc52, q00, q01, q02, q03]
  (refine q06 (feed_client who) rfl ?_; rintro _ rfl)
  unfold watF at hK
  cases hc : cli who
  · rw [hc] at hK
    try simp (maxSteps := 1000000) only [seval, -Int.reduceToNat, -Int.reduceNatCast, -Int.reduceNatCast', -Nat.reduceSubDiff, T, eqc36, eqc44, eqc49, eqc52, q00, q01, q02, q03]
    apply hK
    simp only [Tryz.results70, retK, ares, Bool.and_true, AV.ofResults, St.trunc, q04, q05, List.getD_cons_zero, List.getD_cons_succ, and_true, List.cons.injEq, exists_eq_left']
    rw [fm_retn, Bool.false_and]
    exact ⟨rfl, rfl⟩
  · rw [hc] at hK
    obtain ⟨k, hk, rfl⟩ := cli_iff hc
    have h0 : (0 : Int) ≤ (k : Int) := by omega
    try simp (maxSteps := 1000000) only [seval, -Int.reduceToNat, -Int.reduceNatCast, -Int.reduceNatCast', -Nat.reduceSubDiff, T, eqc36, eqc44, eqc49, eqc52, q00, q01, q02, q03, h0]
    apply hK
    simp only [Tryz.results70, retK, ares, Bool.and_true, Bool.true_and, AV.ofResults, St.trunc, q04, q05, List.getD_cons_zero, List.getD_cons_succ, true_and, and_true, List.cons.injEq, exists_eq_left']
    rw [fm_retn]
    exact ⟨rfl, rfl⟩
theorem with_su (m : List (ByteArray × Int)) (u : ByteArray) (v : Int) (hr : q2o m) (hl : m.length ≤ 1000) : PCall P 76 [.agg [.sl 1 (m.map fun p => str p.1), .sl 1 (m.map fun p => u32 p.2)], str u, u32 v]
    (fun x => x = .agg [.sl 1 ((withG ltS eqS m u v).map fun p => str p.1), .sl 1 ((withG ltS eqS m u v).map fun p => u32 p.2)]) := with_call_su m u v hr (by omega)
theorem without_su (m : List (ByteArray × Int)) (u : ByteArray) (hr : q2o m) (hl : m.length ≤ 1000) : PCall P 75 [.agg [.sl 1 (m.map fun p => str p.1), .sl 1 (m.map fun p => u32 p.2)], str u]
    (fun x => x = .agg [.sl 1 ((q21 ltS eqS m u).map fun p => str p.1), .sl 1 ((q21 ltS eqS m u).map fun p => u32 p.2)]) := without_call_su m u hr (by omega)
/-- Who watches, behind a Watch. -/
def watchM (m : List (ByteArray × Int)) (who : Int) (u : ByteArray) : List (ByteArray × Int) := if cli who = true then withG ltS eqS m u (setB (maskOf m u) who) else m
theorem feed_Watch (F : Fd) (who : Int) (u : ByteArray) (hr : q2o F.m) (hl : F.m.length ≤ 1000) : ACall P 71 (feedM F) [.ptr 0 0, i64 who, str u]
    (fun x m' => m' = feedM { F with m := watchM F.m who u }) := by
  refine acall_go tyOk Tryz.func71 rfl rfl ?_
  intro K hK
  rw [q0z] at hK ⊢
  simp only [Tryz.ntmps71, List.length_cons, List.length_nil, Nat.reduceAdd, Nat.reduceSub, List.replicate, List.cons_append, List.nil_append]
  try simp (maxSteps := 1000000) only [seval, -Int.reduceToNat, -Int.reduceNatCast, -Int.reduceNatCast', -Nat.reduceSubDiff, T, eqc36, eqc44, eqc49, eqc52, q00, q01, q02, q03, fm_0, fm_0n, q18, q14, fm_17, fm_18, fm_19, fm_20, fm_21, q1k, q1l, q1m, q1n, q1o, q19, q0z, q1p, q1a, q15, feedC, kpF, List.all_cons, List.all_nil]
  (refine q06 (feed_client who) rfl ?_; rintro _ rfl)
  unfold watchM at hK
  cases hc : cli who
  · rw [hc, if_neg (by decide)] at hK
    try simp (maxSteps := 1000000) only [seval, -Int.reduceToNat, -Int.reduceNatCast, -Int.reduceNatCast', -Nat.reduceSubDiff, T, eqc36, eqc44, eqc49, eqc52, q00, q01, q02, q03]
    apply hK
    simp only [Tryz.results71, retK, ares, Bool.and_true, AV.ofResults, St.trunc, q04, and_true, List.cons.injEq, exists_eq_left']
    rw [fm_retn]
  · rw [hc, if_pos rfl] at hK
    obtain ⟨k, hk, rfl⟩ := cli_iff hc
    have h0 : (0 : Int) ≤ (k : Int) := by omega
    try simp (maxSteps := 1000000) only [seval, -Int.reduceToNat, -Int.reduceNatCast, -Int.reduceNatCast', -Nat.reduceSubDiff, T, eqc36, eqc44, eqc49, eqc52, q00, q01, q02, q03, fm_0, fm_0n, q18, q14, fm_17, fm_18, fm_19, fm_20, fm_21, q1k, q1l, q1m, q1n, q1o, q19, q0z, q1p, q1a, q15, feedC, kpF, List.all_cons, List.all_nil]
    (refine q06 (get_su F.m u hr hl) rfl ?_; rintro _ rfl)
    try simp (maxSteps := 1000000) only [seval, -Int.reduceToNat, -Int.reduceNatCast, -Int.reduceNatCast', -Nat.reduceSubDiff, T, eqc36, eqc44, eqc49, eqc52, q00, q01, q02, q03, fm_0, fm_0n, q18, q14, fm_17, fm_18, fm_19, fm_20, fm_21, q1k, q1l, q1m, q1n, q1o, q19, q0z, q1p, q1a, q15, feedC, kpF, List.all_cons, List.all_nil]
    refine q0x tyOk (by rfl) (by simp only [q0z]; omega) (by kernel_rfl) rfl ?_
    try simp (maxSteps := 1000000) only [seval, -Int.reduceToNat, -Int.reduceNatCast, -Int.reduceNatCast', -Nat.reduceSubDiff, T, eqc36, eqc44, eqc49, eqc52, q00, q01, q02, q03, fm_0, fm_0n, q18, q14, fm_17, fm_18, fm_19, fm_20, fm_21, q1k, q1l, q1m, q1n, q1o, q19, q0z, q1p, q1a, q15, feedC, kpF, List.all_cons, List.all_nil, h0]
    refine q2m (with_su F.m u (setB (maskOf F.m u) k) hr hl) rfl ?_
    try simp (maxSteps := 1000000) only [seval, -Int.reduceToNat, -Int.reduceNatCast, -Int.reduceNatCast', -Nat.reduceSubDiff, T, eqc36, eqc44, eqc49, eqc52, q00, q01, q02, q03, fm_0, fm_0n, q18, q14, fm_17, fm_18, fm_19, fm_20, fm_21, q1k, q1l, q1m, q1n, q1o, q19, q0z, q1p, q1a, q15, feedC, kpF, List.all_cons, List.all_nil]
    refine ⟨by kernel_rfl, ?_⟩
    try simp (maxSteps := 1000000) only [seval, -Int.reduceToNat, -Int.reduceNatCast, -Int.reduceNatCast', -Nat.reduceSubDiff, T, eqc36, eqc44, eqc49, eqc52, q00, q01, q02, q03, fm_0, fm_0n, q18, q14, fm_17, fm_18, fm_19, fm_20, fm_21, q1k, q1l, q1m, q1n, q1o, q19, q0z, q1p, q1a, q15, feedC, kpF, List.all_cons, List.all_nil]
    apply hK
    simp only [Tryz.results71, retK, ares, Bool.and_true, AV.ofResults, St.trunc, q04, and_true, List.cons.injEq, exists_eq_left']
    rw [fm_retn]
/-- Who watches, behind an Unwatch. -/
def unwatchM (m : List (ByteArray × Int)) (who : Int) (u : ByteArray) : List (ByteArray × Int) :=
  if cli who = true then (if (maskOf m u == 0) = true then m else if (clrB (maskOf m u) who == 0) = true then q21 ltS eqS m u else withG ltS eqS m u (clrB (maskOf m u) who)) else m
theorem feed_Unwatch (F : Fd) (who : Int) (u : ByteArray) (hr : q2o F.m) (hl : F.m.length ≤ 1000) : ACall P 43 (feedM F) [.ptr 0 0, i64 who, str u]
    (fun x m' => m' = feedM { F with m := unwatchM F.m who u }) := by
  refine acall_go tyOk Tryz.func43 rfl rfl ?_
  intro K hK
  rw [q0z] at hK ⊢
  simp only [Tryz.ntmps43, List.length_cons, List.length_nil, Nat.reduceAdd, Nat.reduceSub, List.replicate, List.cons_append, List.nil_append]
  try simp (maxSteps := 1000000) only [seval, -Int.reduceToNat, -Int.reduceNatCast, -Int.reduceNatCast', -Nat.reduceSubDiff, T, eqc36, eqc44, eqc49, eqc52, q00, q01, q02, q03, fm_0, fm_0n, q18, q14, fm_17, fm_18, fm_19, fm_20, fm_21, q1k, q1l, q1m, q1n, q1o, q19, q0z, q1p, q1a, q15, feedC, kpF, List.all_cons, List.all_nil]
  (refine q06 (get_su F.m u hr hl) rfl ?_; rintro _ rfl)
  try simp (maxSteps := 1000000) only [seval, -Int.reduceToNat, -Int.reduceNatCast, -Int.reduceNatCast', -Nat.reduceSubDiff, T, eqc36, eqc44, eqc49, eqc52, q00, q01, q02, q03, fm_0, fm_0n, q18, q14, fm_17, fm_18, fm_19, fm_20, fm_21, q1k, q1l, q1m, q1n, q1o, q19, q0z, q1p, q1a, q15, feedC, kpF, List.all_cons, List.all_nil]
  (refine q06 (feed_client who) rfl ?_; rintro _ rfl)
  unfold unwatchM at hK
  cases hc : cli who
  · rw [hc, if_neg (by decide)] at hK
    try simp (maxSteps := 1000000) only [seval, -Int.reduceToNat, -Int.reduceNatCast, -Int.reduceNatCast', -Nat.reduceSubDiff, T, eqc36, eqc44, eqc49, eqc52, q00, q01, q02, q03]
    apply hK
    simp only [Tryz.results43, retK, ares, Bool.and_true, AV.ofResults, St.trunc, q04, and_true, List.cons.injEq, exists_eq_left']
    rw [fm_retn]
  · rw [hc, if_pos rfl] at hK
    obtain ⟨k, hk, rfl⟩ := cli_iff hc
    have h0 : (0 : Int) ≤ (k : Int) := by omega
    try simp (maxSteps := 1000000) only [seval, -Int.reduceToNat, -Int.reduceNatCast, -Int.reduceNatCast', -Nat.reduceSubDiff, T, eqc36, eqc44, eqc49, eqc52, q00, q01, q02, q03, fm_0, fm_0n, q18, q14, fm_17, fm_18, fm_19, fm_20, fm_21, q1k, q1l, q1m, q1n, q1o, q19, q0z, q1p, q1a, q15, feedC, kpF, List.all_cons, List.all_nil, h0]
    (first | refine q0a ?_ ?_ | refine q0g ?_ ?_ | refine q0h ?_ ?_ | refine q0i ?_ ?_ | refine q0b ?_ ?_) <;> intro h1
    · rw [h1, if_pos rfl] at hK
      try simp (maxSteps := 1000000) only [seval, -Int.reduceToNat, -Int.reduceNatCast, -Int.reduceNatCast', -Nat.reduceSubDiff, T, eqc36, eqc44, eqc49, eqc52, q00, q01, q02, q03]
      apply hK
      simp only [Tryz.results43, retK, ares, Bool.and_true, AV.ofResults, St.trunc, q04, and_true, List.cons.injEq, exists_eq_left']
      rw [fm_retn]
    · rw [h1, if_neg (by decide)] at hK
      try simp (maxSteps := 1000000) only [seval, -Int.reduceToNat, -Int.reduceNatCast, -Int.reduceNatCast', -Nat.reduceSubDiff, T, eqc36, eqc44, eqc49, eqc52, q00, q01, q02, q03, fm_0, fm_0n, q18, q14, fm_17, fm_18, fm_19, fm_20, fm_21, q1k, q1l, q1m, q1n, q1o, q19, q0z, q1p, q1a, q15, feedC, kpF, List.all_cons, List.all_nil, h0]
      (first | refine q0a ?_ ?_ | refine q0g ?_ ?_ | refine q0h ?_ ?_ | refine q0i ?_ ?_ | refine q0b ?_ ?_) <;> intro h2
      · rw [show (clrB (maskOf F.m u) k == 0) = true from h2, if_pos rfl] at hK
        try simp (maxSteps := 1000000) only [seval, -Int.reduceToNat, -Int.reduceNatCast, -Int.reduceNatCast', -Nat.reduceSubDiff, T, eqc36, eqc44, eqc49, eqc52, q00, q01, q02, q03, fm_0, fm_0n, q18, q14, fm_17, fm_18, fm_19, fm_20, fm_21, q1k, q1l, q1m, q1n, q1o, q19, q0z, q1p, q1a, q15, feedC, kpF, List.all_cons, List.all_nil]
        (refine q06 (without_su F.m u hr hl) rfl ?_; rintro _ rfl)
        try simp (maxSteps := 1000000) only [seval, -Int.reduceToNat, -Int.reduceNatCast, -Int.reduceNatCast', -Nat.reduceSubDiff, T, eqc36, eqc44, eqc49, eqc52, q00, q01, q02, q03, fm_0, fm_0n, q18, q14, fm_17, fm_18, fm_19, fm_20, fm_21, q1k, q1l, q1m, q1n, q1o, q19, q0z, q1p, q1a, q15, feedC, kpF, List.all_cons, List.all_nil]
        apply hK
        simp only [Tryz.results43, retK, ares, Bool.and_true, AV.ofResults, St.trunc, q04, and_true, List.cons.injEq, exists_eq_left']
        rw [fm_retn]
      · rw [show (clrB (maskOf F.m u) k == 0) = false from h2, if_neg (by decide)] at hK
        try simp (maxSteps := 1000000) only [seval, -Int.reduceToNat, -Int.reduceNatCast, -Int.reduceNatCast', -Nat.reduceSubDiff, T, eqc36, eqc44, eqc49, eqc52, q00, q01, q02, q03, fm_0, fm_0n, q18, q14, fm_17, fm_18, fm_19, fm_20, fm_21, q1k, q1l, q1m, q1n, q1o, q19, q0z, q1p, q1a, q15, feedC, kpF, List.all_cons, List.all_nil]
        (refine q06 (with_su F.m u (clrB (maskOf F.m u) k) hr hl) rfl ?_; rintro _ rfl)
        try simp (maxSteps := 1000000) only [seval, -Int.reduceToNat, -Int.reduceNatCast, -Int.reduceNatCast', -Nat.reduceSubDiff, T, eqc36, eqc44, eqc49, eqc52, q00, q01, q02, q03, fm_0, fm_0n, q18, q14, fm_17, fm_18, fm_19, fm_20, fm_21, q1k, q1l, q1m, q1n, q1o, q19, q0z, q1p, q1a, q15, feedC, kpF, List.all_cons, List.all_nil]
        apply hK
        simp only [Tryz.results43, retK, ares, Bool.and_true, AV.ofResults, St.trunc, q04, and_true, List.cons.injEq, exists_eq_left']
        rw [fm_retn]

/-- How many users a client watches. -/
def cntM (m : List (ByteArray × Int)) (who : Int) : Nat := (m.filter fun p => cli who && hasB p.2 who).length
theorem cnt_next {m : List (ByteArray × Int)} {who : Int} {i : Nat} (h : i < m.length) : cntM (m.take (i + 1)) who = cntM (m.take i) who + (if (cli who && hasB m[i].2 who) = true then 1 else 0) := by
  rw [take_one h, cntM, List.filter_append, List.length_append, ← cntM, List.filter_cons]
  split <;> rfl
theorem cnt_le (m : List (ByteArray × Int)) (who : Int) : cntM m who ≤ m.length := List.length_filter_le _ _
theorem feed_Count (F : Fd) (who : Int) (hl : F.m.length ≤ 1000) : ACall P 69 (feedM F) [.ptr 0 0, i64 who]
    (fun x m' => x = i64 (cntM F.m who : Nat) ∧ m' = feedM F) := by
  refine acall_goY tyOk Tryz.func69 rfl rfl ?_
  intro K hK
  rw [q0z] at hK ⊢
  simp only [Tryz.ntmps69, List.length_cons, List.length_nil, Nat.reduceAdd, Nat.reduceSub, List.replicate, List.cons_append, List.nil_append]
  have hall := all_call_su F.m
  unfold map_su at hall
  try simp (maxSteps := 1000000) only [seval, -Int.reduceToNat, -Int.reduceNatCast, -Int.reduceNatCast', -Nat.reduceSubDiff, T, eqc36, eqc44, eqc49, eqc52, q00, q01, q02, q03, fm_0, fm_0n, q18, q14, fm_17, fm_18, fm_19, fm_20, fm_21, q1k, q1l, q1m, q1n, q1o, q19, q0z, q1p, q1a, q15, feedC, kpF, List.all_cons, List.all_nil]
  (refine q06 hall rfl ?_; rintro _ rfl)
  try simp (maxSteps := 1000000) only [seval, -Int.reduceToNat, -Int.reduceNatCast, -Int.reduceNatCast', -Nat.reduceSubDiff, T, eqc36, eqc44, eqc49, eqc52, q00, q01, q02, q03, fm_0, fm_0n, q18, q14, fm_17, fm_18, fm_19, fm_20, fm_21, q1k, q1l, q1m, q1n, q1o, q19, q0z, q1p, q1a, q15, feedC, kpF, List.all_cons, List.all_nil]
  refine range_rule tyOk (seq_su F.m (by omega)) (α := Nat) 19 19 [0, 3, 5] ([.ptr 0 0, .any, .any, .ptr 17 0, .any, .ptr 18 0, .any, .any, .any, .any, .any, .any, .any, .any, .any, .any, .any, .any, .any, .any, .any, .any, .any, .any, .any, .any, .any]) (fun xs i => i = xs.length ∧ i ≤ F.m.length)
    (fun i => feedM F ++ [.box [i64 who], .box [i64 (cntM (F.m.take i) who : Nat)]]) 0 rfl rfl
    (fun x hx => by simp only [pairs_su, List.mem_map] at hx; obtain ⟨p, _, rfl⟩ := hx; rfl) (by decide) (by decide) (by rfl) ⟨rfl, Nat.zero_le _⟩ rfl ?_ ?_
  · rintro xs x _ hpre ⟨rfl, hle⟩
    obtain ⟨hi, _, rfl⟩ := prefix_next hpre
    have hn := cnt_next (who := who) hi
    have hc2 := cnt_le (F.m.take xs.length) who
    rw [List.length_take] at hc2
    generalize F.m[xs.length] = p at *
    generalize cntM (F.m.take xs.length) who = n at *
    have ew : IntKind.i64.wrap ((n : Int) + 1) = ((n + 1 : Nat) : Int) := by rw [wrap_i64 (by omega) (by omega)]; rfl
    try simp (maxSteps := 1000000) only [seval, -Int.reduceToNat, -Int.reduceNatCast, -Int.reduceNatCast', -Nat.reduceSubDiff, T, eqc36, eqc44, eqc49, eqc52, q00, q01, q02, q03, fm_0, fm_0n, q18, q14, fm_17, fm_18, fm_19, fm_20, fm_21, q1k, q1l, q1m, q1n, q1o, q19, q0z, q1p, q1a, q15, feedC, kpF, List.all_cons, List.all_nil]
    (refine q06 (feed_client who) rfl ?_; rintro _ rfl)
    try simp (maxSteps := 1000000) only [seval, -Int.reduceToNat, -Int.reduceNatCast, -Int.reduceNatCast', -Nat.reduceSubDiff, T, eqc36, eqc44, eqc49, eqc52, q00, q01, q02, q03, fm_0, fm_0n, q18, q14, fm_17, fm_18, fm_19, fm_20, fm_21, q1k, q1l, q1m, q1n, q1o, q19, q0z, q1p, q1a, q15, feedC, kpF, List.all_cons, List.all_nil]
    cases hc : cli who
    · rw [hc] at hn
      try simp (maxSteps := 1000000) only [seval, -Int.reduceToNat, -Int.reduceNatCast, -Int.reduceNatCast', -Nat.reduceSubDiff, T, eqc36, eqc44, eqc49, eqc52, q00, q01, q02, q03, fm_0, fm_0n, q18, q14, fm_17, fm_18, fm_19, fm_20, fm_21, q1k, q1l, q1m, q1n, q1o, q19, q0z, q1p, q1a, q15, feedC, kpF, List.all_cons, List.all_nil]
      simp only [q2v, St.trunc, q04, q05, Nat.reduceLeDiff, ↓reduceIte]
      exact ⟨xs.length + 1, ⟨by first | rfl | simp, by omega⟩, by rw [hn]; rfl⟩
    · rw [hc] at hn
      obtain ⟨k, hk, rfl⟩ := cli_iff hc
      have h0 : (0 : Int) ≤ (k : Int) := by omega
      try simp (maxSteps := 1000000) only [seval, -Int.reduceToNat, -Int.reduceNatCast, -Int.reduceNatCast', -Nat.reduceSubDiff, T, eqc36, eqc44, eqc49, eqc52, q00, q01, q02, q03, fm_0, fm_0n, q18, q14, fm_17, fm_18, fm_19, fm_20, fm_21, q1k, q1l, q1m, q1n, q1o, q19, q0z, q1p, q1a, q15, feedC, kpF, List.all_cons, List.all_nil, h0]
      (first | refine q0a ?_ ?_ | refine q0g ?_ ?_ | refine q0h ?_ ?_ | refine q0i ?_ ?_ | refine q0b ?_ ?_) <;> intro h1
      · rw [show hasB p.2 k = true from h1] at hn
        try simp (maxSteps := 1000000) only [seval, -Int.reduceToNat, -Int.reduceNatCast, -Int.reduceNatCast', -Nat.reduceSubDiff, T, eqc36, eqc44, eqc49, eqc52, q00, q01, q02, q03, fm_0, fm_0n, q18, q14, fm_17, fm_18, fm_19, fm_20, fm_21, q1k, q1l, q1m, q1n, q1o, q19, q0z, q1p, q1a, q15, feedC, kpF, List.all_cons, List.all_nil, ew]
        simp only [q2v, St.trunc, q04, q05, Nat.reduceLeDiff, ↓reduceIte]
        exact ⟨xs.length + 1, ⟨by first | rfl | simp, by omega⟩, by rw [hn]; rfl⟩
      · rw [show hasB p.2 k = false from h1] at hn
        try simp (maxSteps := 1000000) only [seval, -Int.reduceToNat, -Int.reduceNatCast, -Int.reduceNatCast', -Nat.reduceSubDiff, T, eqc36, eqc44, eqc49, eqc52, q00, q01, q02, q03, fm_0, fm_0n, q18, q14, fm_17, fm_18, fm_19, fm_20, fm_21, q1k, q1l, q1m, q1n, q1o, q19, q0z, q1p, q1a, q15, feedC, kpF, List.all_cons, List.all_nil, ew]
        simp only [q2v, St.trunc, q04, q05, Nat.reduceLeDiff, ↓reduceIte]
        exact ⟨xs.length + 1, ⟨by first | rfl | simp, by omega⟩, by rw [hn]; rfl⟩
  · rintro _ ⟨rfl, hle⟩
    have e1 : (pairs_su F.m).length = F.m.length := by simp [pairs_su]
    rw [e1, List.take_length]
    try simp (maxSteps := 1000000) only [seval, -Int.reduceToNat, -Int.reduceNatCast, -Int.reduceNatCast', -Nat.reduceSubDiff, T, eqc36, eqc44, eqc49, eqc52, q00, q01, q02, q03, fm_0, fm_0n, q18, q14, fm_17, fm_18, fm_19, fm_20, fm_21, q1k, q1l, q1m, q1n, q1o, q19, q0z, q1p, q1a, q15, feedC, kpF, List.all_cons, List.all_nil]
    apply hK
    simp only [Tryz.results69, retK, ares, Bool.and_true, Bool.true_and, AV.ofResults, St.trunc, q04, q05, List.getD_cons_zero, List.getD_cons_succ, true_and, and_true, List.cons.injEq, exists_eq_left']
    rw [fm_ret]
end Go.Proofs.YtdkcpcflfnakdaaGreat
