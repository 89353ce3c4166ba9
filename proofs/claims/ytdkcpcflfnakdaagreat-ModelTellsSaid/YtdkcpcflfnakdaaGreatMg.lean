/- The base of the laws of this seat: texts of this session, joined by a program. -/
import Derived.Test.YtdkcpcflfnakdaaGreatMd
import Derived.Test.YtdkcpcflfnakdaaGreatMf
namespace Go.Proofs.YtdkcpcflfnakdaaGreat
open Go Go.Proofs.YtdkcpcflfnakdaaGreat.Sym
attribute [-sevalprocAttr] Int.reduceToNat Int.reduceNatCast Int.reduceNatCast' Nat.reduceSubDiff
set_option maxRecDepth 100000
set_option maxHeartbeats 1000000
set_option linter.unusedSimpArgs false
set_option linter.unusedVariables false

theorem sess_Right (id st pr : Int) : PCall P 35 [i64 id, i64 st, i64 pr] (fun x => x = bool (decide (0 ≤ id) && decide (id ≤ 255) && decide (1 ≤ st) && decide (st ≤ 9) && decide (0 ≤ pr) && decide (pr ≤ 9))) := by
  refine q0r tyOk Tryz.func35 rfl rfl ?_
  intro K hK
  simp only [Tryz.ntmps35, List.length_cons, List.length_nil, Nat.reduceAdd, Nat.reduceSub, List.replicate, List.cons_append, List.nil_append]
  try simp (maxSteps := 1000000) only [seval]
  (first | refine q0g ?_ ?_ | refine q0k ?_ ?_ | refine q0l ?_ ?_ | refine q0m ?_ ?_ | refine q0h ?_ ?_) <;> intro h1
  rotate_left
  · try simp (maxSteps := 1000000) only [seval]
    apply hK
    simp only [Tryz.results35, retK, ares, List.take_nil, Bool.and_true, Bool.true_and, AV.ofResults, St.trunc, q00, q01, List.getD_cons_zero, List.getD_cons_succ, List.map_nil, true_and, and_true, List.cons.injEq, exists_eq_left']
    simp only [h1, Bool.false_and]
  try simp (maxSteps := 1000000) only [seval]
  (first | refine q0g ?_ ?_ | refine q0k ?_ ?_ | refine q0l ?_ ?_ | refine q0m ?_ ?_ | refine q0h ?_ ?_) <;> intro h2
  rotate_left
  · try simp (maxSteps := 1000000) only [seval]
    apply hK
    simp only [Tryz.results35, retK, ares, List.take_nil, Bool.and_true, Bool.true_and, AV.ofResults, St.trunc, q00, q01, List.getD_cons_zero, List.getD_cons_succ, List.map_nil, true_and, and_true, List.cons.injEq, exists_eq_left']
    simp only [h1, h2, Bool.false_and, Bool.and_false]
  try simp (maxSteps := 1000000) only [seval]
  (first | refine q0g ?_ ?_ | refine q0k ?_ ?_ | refine q0l ?_ ?_ | refine q0m ?_ ?_ | refine q0h ?_ ?_) <;> intro h3
  rotate_left
  · try simp (maxSteps := 1000000) only [seval]
    apply hK
    simp only [Tryz.results35, retK, ares, List.take_nil, Bool.and_true, Bool.true_and, AV.ofResults, St.trunc, q00, q01, List.getD_cons_zero, List.getD_cons_succ, List.map_nil, true_and, and_true, List.cons.injEq, exists_eq_left']
    simp only [h1, h2, h3, Bool.and_true, Bool.false_and, Bool.and_false]
  try simp (maxSteps := 1000000) only [seval]
  (first | refine q0g ?_ ?_ | refine q0k ?_ ?_ | refine q0l ?_ ?_ | refine q0m ?_ ?_ | refine q0h ?_ ?_) <;> intro h4
  rotate_left
  · try simp (maxSteps := 1000000) only [seval]
    apply hK
    simp only [Tryz.results35, retK, ares, List.take_nil, Bool.and_true, Bool.true_and, AV.ofResults, St.trunc, q00, q01, List.getD_cons_zero, List.getD_cons_succ, List.map_nil, true_and, and_true, List.cons.injEq, exists_eq_left']
    simp only [h1, h2, h3, h4, Bool.and_true, Bool.false_and, Bool.and_false]
  try simp (maxSteps := 1000000) only [seval]
  (first | refine q0g ?_ ?_ | refine q0k ?_ ?_ | refine q0l ?_ ?_ | refine q0m ?_ ?_ | refine q0h ?_ ?_) <;> intro h5
  rotate_left
  · try simp (maxSteps := 1000000) only [seval]
    apply hK
    simp only [Tryz.results35, retK, ares, List.take_nil, Bool.and_true, Bool.true_and, AV.ofResults, St.trunc, q00, q01, List.getD_cons_zero, List.getD_cons_succ, List.map_nil, true_and, and_true, List.cons.injEq, exists_eq_left']
    simp only [h1, h2, h3, h4, h5, Bool.and_true, Bool.false_and, Bool.and_false]
  try simp (maxSteps := 1000000) only [seval]
  apply hK
  simp only [Tryz.results35, retK, ares, List.take_nil, Bool.and_true, Bool.true_and, AV.ofResults, St.trunc, q00, q01, List.getD_cons_zero, List.getD_cons_succ, List.map_nil, true_and, and_true, List.cons.injEq, exists_eq_left']
  simp only [h1, h2, h3, h4, h5, Bool.true_and, Bool.and_true]

def sumL (m : Bk) : Nat := (m.map fun p => p.2.l.length).sum
theorem sum_next {m : Bk} {i : Nat} (h : i < m.length) : sumL (m.take (i + 1)) = sumL (m.take i) + m[i].2.l.length := by
  rw [q23 h, sumL, List.map_append, List.sum_append]; simp [sumL]
theorem sum_le {n : Nat} {m : Bk} (h : bookOk n m) : ∀ i, sumL (m.take i) ≤ n * i := by
  intro i
  induction i with
  | zero => simp [sumL]
  | succ i ih =>
    by_cases hi : i < m.length
    · rw [sum_next hi, Nat.mul_succ]
      have := (h.2.2 _ (List.getElem_mem hi)).2
      omega
    · rw [List.take_of_length_le (by omega)]
      rw [List.take_of_length_le (by omega)] at ih
      rw [Nat.mul_succ]; omega
theorem stored_call (m : Bk) (h : bookOk 200 m) : PCall P 61 [q10 m] (fun x => x = i64 (sumL m : Nat)) := by
  refine pcall_goY tyOk Tryz.func61 rfl rfl ?_
  intro K hK
  simp only [Tryz.ntmps61, List.length_cons, List.length_nil, Nat.reduceAdd, Nat.reduceSub, List.replicate, List.cons_append, List.nil_append]
  have hml := h.2.1
  have hall := all_call_se m
  unfold q10 at hall
  try simp (maxSteps := 1000000) only [seval, q10]
  (refine q07 hall rfl ?_; rintro _ rfl)
  try simp (maxSteps := 1000000) only [seval]
  refine range_rule tyOk (seq_se m (by omega)) (α := Nat) 2 2 [1, 3] ([.any, .ptr 0 0, .any, .ptr 1 0, .any, .any, .any, .any, .any, .any, .any, .any, .any, .any, .any, .any]) (fun xs i => i = xs.length ∧ i ≤ m.length)
    (fun i => [ebox m, .box [i64 (sumL (m.take i) : Nat)]]) 0 rfl rfl
    (fun x hx => by simp only [q33, List.mem_map] at hx; obtain ⟨p, _, rfl⟩ := hx; rfl) (Nat.zero_le _) (by decide) (by rfl) ⟨rfl, Nat.zero_le _⟩ rfl ?_ ?_
  · rintro xs x _ hpre ⟨rfl, hle⟩
    obtain ⟨hi, _, rfl⟩ := q55 hpre
    have hn := sum_next hi
    have hs := sum_le h xs.length
    have hel := (h.2.2 _ (List.getElem_mem hi)).2
    generalize m[xs.length] = p at *
    have ev0 : En.av p.2 = .agg [.sl 4 (avs p.2.l), i64 p.2.t.st, i64 p.2.t.pr, i64 p.2.t.n] := rfl
    have ew : IntKind.i64.wrap (((sumL (m.take xs.length) : Nat) : Int) + ((p.2.l.length : Nat) : Int)) = ((sumL (m.take xs.length) + p.2.l.length : Nat) : Int) := by
      have : 200 * xs.length ≤ 200 * 200 := Nat.mul_le_mul_left _ (by omega)
      rw [wrap_i64 (by omega) (by omega)]; rfl
    try simp (maxSteps := 1000000) only [seval, ev0, q12, ew]
    simp only [q2z, St.trunc, q00, q01, AB.trunc, q15, AV.pure, Bool.and_self, List.drop_zero, List.take_succ_cons, List.take_zero, List.map_cons, List.map_nil, List.getElem?_cons_zero, List.getElem?_cons_succ, Nat.reduceLeDiff, Nat.le_refl, ↓reduceIte]
    exact ⟨xs.length + 1, ⟨by first | rfl | simp, by omega⟩, by rw [hn]⟩
  · rintro _ ⟨rfl, hle⟩
    have e1 : (q33 m).length = m.length := by simp [q33]
    rw [e1, List.take_length]
    try simp (maxSteps := 1000000) only [seval]
    apply hK
    simp only [Tryz.results61, retK, ares, Bool.and_true, Bool.true_and, AV.ofResults, St.trunc, q00, q01, List.getD_cons_zero, List.getD_cons_succ, List.take_zero, List.map_nil, true_and, and_true, List.cons.injEq, exists_eq_left']

theorem presence_call (n : Nat) (m : Bk) (u : ByteArray) (now : Int) (h : bookOk n m) (hn : n ≤ 700000) :
    PCall P 46 [q10 m, str u, u64 now] (fun x => x = .agg [i64 (ofP (wasOf m u).l now).st, i64 (ofP (wasOf m u).l now).pr, i64 (ofP (wasOf m u).l now).n]) := by
  refine q0r tyOk Tryz.func46 rfl rfl ?_
  intro K hK
  simp only [Tryz.ntmps46, List.length_cons, List.length_nil, Nat.reduceAdd, Nat.reduceSub, List.replicate, List.cons_append, List.nil_append]
  have hml := h.2.1
  have hw := (was_ok h u).2
  try simp (maxSteps := 1000000) only [seval, q10]
  (refine q07 (get_open m u h.1 (by omega)) rfl ?_; rintro _ rfl)
  try simp (maxSteps := 1000000) only [seval]
  (refine q07 (of_call (wasOf m u).l now (by omega)) rfl ?_; rintro _ rfl)
  try simp (maxSteps := 1000000) only [seval]
  apply hK
  simp only [Tryz.results46, retK, ares, List.take_nil, Bool.and_true, Bool.true_and, AV.ofResults, St.trunc, q00, q01, aload, acell, T, TI.isAgg, List.getD_cons_zero, List.getD_cons_succ, List.take_zero, List.take_succ_cons, List.drop_zero, List.map_nil, List.getElem?_cons_zero, List.getElem?_cons_succ, List.length_cons, List.length_nil, Nat.reduceAdd, Nat.le_refl, true_and, and_true, ↓reduceIte, List.cons.injEq, exists_eq_left']
  try rfl
end Go.Proofs.YtdkcpcflfnakdaaGreat
namespace Go.Proofs.YtdkcpcflfnakdaaGreat
open Go Go.Proofs.YtdkcpcflfnakdaaGreat.Sym
attribute [-sevalprocAttr] Int.reduceToNat Int.reduceNatCast Int.reduceNatCast' Nat.reduceSubDiff
set_option maxRecDepth 100000
set_option maxHeartbeats 1000000
set_option maxHeartbeats 1000000
set_option linter.unusedSimpArgs false
set_option linter.unusedVariables false

def timeAV (t : Tm) : AV := .agg [u64 t.now, u64 t.seq, bool t.cl]
theorem model_Time (n pad : Nat) (M : Md) : ACall P 22 (modM n pad M) [.ptr 0 0] (fun x m' => x = timeAV M.t ∧ m' = modM n pad M) := by
  refine q39 tyOk Tryz.func22 rfl rfl ?_
  intro K hK
  rw [q08] at hK ⊢
  simp only [Tryz.ntmps22, List.length_cons, List.length_nil, Nat.reduceAdd, Nat.reduceSub, List.replicate, List.cons_append, List.nil_append]
  try simp (maxSteps := 1000000) only [seval, mm_0, mm_1, mm_2, mm_0n, mm_1n, mm_2n, q0d, q0b, q0e, q0f, q0i, mm_s0, mm_s1, mm_s2, mm_s3, q0a, q06, q08, q09, q0j, q04, q02, q05, q03, Nat.add_assoc, AB.calm, kpX, kpM, ml_z, ml_1, ml_l, ml_r, ml_b, ml_le, ml_0, ml_0k, Nat.one_ne_zero, List.all_cons, List.all_nil]
  apply hK
  simp only [Tryz.results22, retK, ares, Bool.and_true, AV.ofResults, St.trunc, q00, q01, aload, acell, T, TI.isAgg, List.getD_cons_zero, List.getD_cons_succ, List.drop_zero, and_true, ↓reduceIte, List.cons.injEq, exists_eq_left']
  simp only [q0d, List.getElem?_cons_zero, List.take_succ_cons, List.take_zero, q2n, and_true, true_and, List.length_cons, List.length_nil, q00, q01, Nat.reduceAdd, Nat.le_refl]
  rfl
def stN (n : Nat) (u : ByteArray) : Nat := (strI n u).toNat
theorem stN_lt {n : Nat} (h1 : 1 ≤ n) (h2 : n ≤ 8) (u : ByteArray) : stN n u < n ∧ strI n u = (stN n u : Int) := by
  have := strI_ok (n := n) (by omega) (by omega) u
  unfold stN
  omega
theorem n_cases {n : Nat} (h1 : 1 ≤ n) (h2 : n ≤ 8) : n = 1 ∨ n = 2 ∨ n = 3 ∨ n = 4 ∨ n = 5 ∨ n = 6 ∨ n = 7 ∨ n = 8 := by omega
structure MOk (n B : Nat) (M : Md) : Prop where
  n1 : 1 ≤ n
  n8 : n ≤ 8
  s : M.c.s = n
  b : ∀ j, bookOk B (M.b j)
  m : ∀ j, q2u (M.f j).m
  ml : ∀ j, (M.f j).m.length ≤ B
  q : ∀ j k, ((M.f j).q k).1.length ≤ 100
  B : B ≤ 900
theorem model_stripe {n pad B : Nat} {M : Md} (h : MOk n B M) (u : ByteArray) (hl : u.size ≤ 1000000) : ACall P 42 (modM n pad M) [.ptr 0 0, str u] (fun x m' => x = i64 (stN n u : Nat) ∧ m' = modM n pad M) := by
  refine q39 tyOk Tryz.func42 rfl rfl ?_
  intro K hK
  rw [q08] at hK ⊢
  simp only [Tryz.ntmps42, List.length_cons, List.length_nil, Nat.reduceAdd, Nat.reduceSub, List.replicate, List.cons_append, List.nil_append]
  have hs := stN_lt h.n1 h.n8 u
  have hS := hash_Stripe u M.c.s hl (by rw [h.s]; have := h.n1; omega) (by rw [h.s]; have := h.n8; omega)
  rw [h.s, hs.2] at hS
  try simp (maxSteps := 1000000) only [seval, mm_0, mm_1, mm_2, mm_0n, mm_1n, mm_2n, q0d, q0b, q0e, q0f, q0i, mm_s0, mm_s1, mm_s2, mm_s3, q0a, q06, q08, q09, q0j, q04, q02, q05, q03, Nat.add_assoc, AB.calm, kpX, kpM, ml_z, ml_1, ml_l, ml_r, ml_b, ml_le, ml_0, ml_0k, Nat.one_ne_zero, List.all_cons, List.all_nil, h.s]
  (refine q07 hS rfl ?_; rintro _ rfl)
  try simp (maxSteps := 1000000) only [seval, mm_0, mm_1, mm_2, mm_0n, mm_1n, mm_2n, q0d, q0b, q0e, q0f, q0i, mm_s0, mm_s1, mm_s2, mm_s3, q0a, q06, q08, q09, q0j, q04, q02, q05, q03, Nat.add_assoc, AB.calm, kpX, kpM, ml_z, ml_1, ml_l, ml_r, ml_b, ml_le, ml_0, ml_0k, Nat.one_ne_zero, List.all_cons, List.all_nil]
  apply hK
  simp only [Tryz.results42, retK, ares, Bool.and_true, Bool.true_and, AV.ofResults, St.trunc, q00, q01, List.getD_cons_zero, List.getD_cons_succ, true_and, and_true, List.cons.injEq, exists_eq_left']
  rw [mm_retn]
theorem stripe_in {n pad B : Nat} {M : Md} (h : MOk n B M) (u : ByteArray) (hl : u.size ≤ 1000000) (r : List AB) : ACall P 42 (modM n pad M ++ r) [.ptr 0 0, str u] (fun x m' => x = i64 (stN n u : Nat) ∧ m' = modM n pad M ++ r) :=
  mod_in (model_stripe h u hl) rfl (by rintro x m' ⟨rfl, rfl⟩; exact ⟨rfl, M, rfl, rfl, rfl⟩)
def presOf (n : Nat) (M : Md) (u : ByteArray) : Pr := ofP (wasOf (M.b (stN n u)) u).l M.t.now
theorem model_Presence {n pad B : Nat} {M : Md} (h : MOk n B M) (u : ByteArray) (hl : u.size ≤ 1000000) : ACall P 21 (modM n pad M) [.ptr 0 0, str u] (fun x m' => x = (presOf n M u).av ∧ m' = modM n pad M) := by
  refine q39 tyOk Tryz.func21 rfl rfl ?_
  intro K hK
  rw [q08] at hK ⊢
  simp only [Tryz.ntmps21, List.length_cons, List.length_nil, Nat.reduceAdd, Nat.reduceSub, List.replicate, List.cons_append, List.nil_append]
  have hs := (stN_lt h.n1 h.n8 u).1
  have hb := bk_at M.b hs
  have c1 : (0 : Int) ≤ ((stN n u : Nat) : Int) ∧ Int.toNat ((stN n u : Nat) : Int) < n := by omega
  have hP := presence_call B (M.b (stN n u)) u M.t.now (h.b _) (by have := h.B; omega)
  unfold q10 at hP
  try simp (maxSteps := 1000000) only [seval, mm_0, mm_1, mm_2, mm_0n, mm_1n, mm_2n, q0d, q0b, q0e, q0f, q0i, mm_s0, mm_s1, mm_s2, mm_s3, q0a, q06, q08, q09, q0j, q04, q02, q05, q03, Nat.add_assoc, AB.calm, kpX, kpM, ml_z, ml_1, ml_l, ml_r, ml_b, ml_le, ml_0, ml_0k, Nat.one_ne_zero, List.all_cons, List.all_nil]
  refine q0w tyOk (by rfl) (by simp only [q09, List.length_cons, List.length_nil, mlen]; omega) (by kernel_rfl) rfl ?_
  try simp (maxSteps := 1000000) only [seval, mm_0, mm_1, mm_2, mm_0n, mm_1n, mm_2n, q0d, q0b, q0e, q0f, q0i, mm_s0, mm_s1, mm_s2, mm_s3, q0a, q06, q08, q09, q0j, q04, q02, q05, q03, Nat.add_assoc, AB.calm, kpX, kpM, ml_z, ml_1, ml_l, ml_r, ml_b, ml_le, ml_0, ml_0k, Nat.one_ne_zero, List.all_cons, List.all_nil]
  refine q5c (stripe_in h u hl _) (by rfl) ?_
  try simp (maxSteps := 1000000) only [seval, mm_0, mm_1, mm_2, mm_0n, mm_1n, mm_2n, q0d, q0b, q0e, q0f, q0i, mm_s0, mm_s1, mm_s2, mm_s3, q0a, q06, q08, q09, q0j, q04, q02, q05, q03, Nat.add_assoc, AB.calm, kpX, kpM, ml_z, ml_1, ml_l, ml_r, ml_b, ml_le, ml_0, ml_0k, Nat.one_ne_zero, List.all_cons, List.all_nil, c1, hb, q4q]
  refine q3y hP rfl ?_
  try simp (maxSteps := 1000000) only [seval, mm_0, mm_1, mm_2, mm_0n, mm_1n, mm_2n, q0d, q0b, q0e, q0f, q0i, mm_s0, mm_s1, mm_s2, mm_s3, q0a, q06, q08, q09, q0j, q04, q02, q05, q03, Nat.add_assoc, AB.calm, kpX, kpM, ml_z, ml_1, ml_l, ml_r, ml_b, ml_le, ml_0, ml_0k, Nat.one_ne_zero, List.all_cons, List.all_nil]
  refine ⟨by kernel_rfl, ?_⟩
  try simp (maxSteps := 1000000) only [seval, mm_0, mm_1, mm_2, mm_0n, mm_1n, mm_2n, q0d, q0b, q0e, q0f, q0i, mm_s0, mm_s1, mm_s2, mm_s3, q0a, q06, q08, q09, q0j, q04, q02, q05, q03, Nat.add_assoc, AB.calm, kpX, kpM, ml_z, ml_1, ml_l, ml_r, ml_b, ml_le, ml_0, ml_0k, Nat.one_ne_zero, List.all_cons, List.all_nil]
  apply hK
  simp only [Tryz.results21, retK, ares, Bool.and_true, AV.ofResults, St.trunc, q00, q01, aload, acell, T, TI.isAgg, List.getD_cons_zero, List.getD_cons_succ, List.drop_zero, and_true, ↓reduceIte, List.cons.injEq, exists_eq_left']
  simp only [q0d, List.getElem?_cons_zero, List.take_succ_cons, List.take_zero, q2n, and_true, true_and, List.length_cons, List.length_nil, q00, q01, Nat.reduceAdd, Nat.le_refl]
  rfl
end Go.Proofs.YtdkcpcflfnakdaaGreat
namespace Go.Proofs.YtdkcpcflfnakdaaGreat
open Go Go.Proofs.YtdkcpcflfnakdaaGreat.Sym
attribute [-sevalprocAttr] Int.reduceToNat Int.reduceNatCast Int.reduceNatCast' Nat.reduceSubDiff
set_option maxRecDepth 100000
set_option maxHeartbeats 1000000
set_option maxHeartbeats 1000000
set_option linter.unusedSimpArgs false
set_option linter.unusedVariables false

def Md.tick (M : Md) (by_ : Int) : Md := { M with t := ⟨addW M.t.now by_, M.t.seq, M.t.cl⟩ }
def Md.take (M : Md) : Md := { M with t := ⟨M.t.now, addW M.t.seq 1, M.t.cl⟩ }
def Md.shut (M : Md) : Md := { M with t := ⟨M.t.now, M.t.seq, true⟩ }
theorem model_Tick (n pad : Nat) (M : Md) (by_ : Int) : ACall P 45 (modM n pad M) [.ptr 0 0, u64 by_] (fun x m' => x = .tup [] ∧ m' = modM n pad (M.tick by_)) := by
  refine q39 tyOk Tryz.func45 rfl rfl ?_
  intro K hK
  rw [q08] at hK ⊢
  simp only [Tryz.ntmps45, List.length_cons, List.length_nil, Nat.reduceAdd, Nat.reduceSub, List.replicate, List.cons_append, List.nil_append]
  try simp (maxSteps := 1000000) only [seval, mm_0, mm_1, mm_2, mm_0n, mm_1n, mm_2n, q0d, q0b, q0e, q0f, q0i, mm_s0, mm_s1, mm_s2, mm_s3, q0a, q06, q08, q09, q0j, q04, q02, q05, q03, Nat.add_assoc, AB.calm, kpX, kpM, ml_z, ml_1, ml_l, ml_r, ml_b, ml_le, ml_0, ml_0k, Nat.one_ne_zero, List.all_cons, List.all_nil]
  (refine q07 (tick_Pass M.t by_) rfl ?_; rintro _ rfl)
  try simp (maxSteps := 1000000) only [seval, mm_0, mm_1, mm_2, mm_0n, mm_1n, mm_2n, q0d, q0b, q0e, q0f, q0i, mm_s0, mm_s1, mm_s2, mm_s3, q0a, q06, q08, q09, q0j, q04, q02, q05, q03, Nat.add_assoc, AB.calm, kpX, kpM, ml_z, ml_1, ml_l, ml_r, ml_b, ml_le, ml_0, ml_0k, Nat.one_ne_zero, List.all_cons, List.all_nil]
  apply hK
  simp only [Tryz.results45, retK, ares, Bool.and_true, Bool.true_and, AV.ofResults, St.trunc, q00, q01, true_and, and_true, List.cons.injEq, exists_eq_left']
  simp only [mm_retn]
  rfl
theorem model_take (n pad : Nat) (M : Md) : ACall P 62 (modM n pad M) [.ptr 0 0] (fun x m' => x = u64 (addW M.t.seq 1) ∧ m' = modM n pad M.take) := by
  refine q39 tyOk Tryz.func62 rfl rfl ?_
  intro K hK
  rw [q08] at hK ⊢
  simp only [Tryz.ntmps62, List.length_cons, List.length_nil, Nat.reduceAdd, Nat.reduceSub, List.replicate, List.cons_append, List.nil_append]
  try simp (maxSteps := 1000000) only [seval, mm_0, mm_1, mm_2, mm_0n, mm_1n, mm_2n, q0d, q0b, q0e, q0f, q0i, mm_s0, mm_s1, mm_s2, mm_s3, q0a, q06, q08, q09, q0j, q04, q02, q05, q03, Nat.add_assoc, AB.calm, kpX, kpM, ml_z, ml_1, ml_l, ml_r, ml_b, ml_le, ml_0, ml_0k, Nat.one_ne_zero, List.all_cons, List.all_nil]
  (refine q07 (tick_Take M.t) rfl ?_; rintro _ rfl)
  try simp (maxSteps := 1000000) only [seval, mm_0, mm_1, mm_2, mm_0n, mm_1n, mm_2n, q0d, q0b, q0e, q0f, q0i, mm_s0, mm_s1, mm_s2, mm_s3, q0a, q06, q08, q09, q0j, q04, q02, q05, q03, Nat.add_assoc, AB.calm, kpX, kpM, ml_z, ml_1, ml_l, ml_r, ml_b, ml_le, ml_0, ml_0k, Nat.one_ne_zero, List.all_cons, List.all_nil]
  apply hK
  simp only [Tryz.results62, retK, ares, Bool.and_true, Bool.true_and, AV.ofResults, St.trunc, q00, q01, List.getD_cons_zero, List.getD_cons_succ, true_and, and_true, List.cons.injEq, exists_eq_left']
  simp only [mm_retn]
  rfl
theorem take_in (n pad : Nat) (M : Md) (r : List AB) : ACall P 62 (modM n pad M ++ r) [.ptr 0 0] (fun x m' => x = u64 (addW M.t.seq 1) ∧ m' = modM n pad M.take ++ r) :=
  mod_in (model_take n pad M) rfl (by rintro x m' ⟨rfl, rfl⟩; exact ⟨rfl, M.take, rfl, rfl, rfl⟩)

theorem mm_setBn {n pad s : Nat} (M : Md) (v : Bk) (h : s < n) : (modM n pad M).set 1 (.row 87 2 ((bkRow n M.b).set (Int.toNat (s : Int)) (.agg [.sl 1 (v.map fun p => str p.1), .sl 4 (v.map fun p => En.av p.2)]))) = modM n pad (M.setB s v) := by
  have := mm_setB (pad := pad) M [] v h
  simpa using this
theorem ptr_load {n pad s : Nat} (h : s < n) : (List.drop (Int.toNat (s : Int) * 1) (ptrs n pad)).headD .any = .ptr (fb s) 0 ∧ 0 < (List.drop (Int.toNat (s : Int) * 1) (ptrs n pad)).length := by
  rw [Int.toNat_natCast]; exact ptr_drop h
def Md.tell (M : Md) (s : Nat) (l : List Chg) (seq : Int) : Md := M.setF s (tellF (M.f s) l seq)
theorem Tell_in {n pad B s : Nat} {M : Md} (h : MOk n B M) (r : List AB) (hr : r.all (AB.calm n) = true) (hs : s < n) (l : List Chg) (seq : Int) (hl : l.length ≤ 50000) :
    q17 P (kpM n) 64 (modM n pad M ++ r) [.ptr (fb s) 0, .sl 7 (chgs l), u64 seq] (fun x m' => m' = modM n pad (M.tell s l seq) ++ r) :=
  feed_in M r hs (feed_Tell (M.f s) l seq (h.m s) (by have := h.ml s; have := h.B; omega) hl (fun k => by have := h.q s k; omega)).toX rfl rfl hr (by rintro x m' rfl; exact ⟨_, rfl, rfl⟩)
def Md.sweep (n : Nat) (M : Md) (s : Int) : Md :=
  if (decide (s < 0) || decide ((n : Int) ≤ s)) = true then M
  else (M.take.setB s.toNat (q1q (M.b s.toNat) M.t.now).1).tell s.toNat (q1q (M.b s.toNat) M.t.now).2 (addW M.t.seq 1)
theorem model_Sweep {n pad B : Nat} {M : Md} (h : MOk n B M) (s : Int) : q0s P 3 33 (modM n pad M) [.ptr 0 0, i64 s] (fun x m' => x = .tup [] ∧ m' = modM n pad (M.sweep n s)) := by
  refine q2y tyOk Tryz.func33 rfl rfl (by rw [q08, mlen]; omega) ?_
  intro K hK
  rw [q08] at hK
  simp only [Tryz.ntmps33, List.length_cons, List.length_nil, Nat.reduceAdd, Nat.reduceSub, List.replicate, List.cons_append, List.nil_append]
  unfold Md.sweep at hK
  try simp (maxSteps := 1000000) only [seval, mm_0, mm_1, mm_2, mm_0n, mm_1n, mm_2n, q0d, q0b, q0e, q0f, q0i, mm_s0, mm_s1, mm_s2, mm_s3, q0a, q06, q08, q09, q0j, q04, q02, q05, q03, Nat.add_assoc, AB.calm, kpX, kpM, ml_z, ml_1, ml_l, ml_r, ml_b, ml_le, ml_0, ml_0k, Nat.one_ne_zero, List.all_cons, List.all_nil]
  cases h1 : decide (s < 0) with
  | true =>
    rw [h1] at hK
    try simp (maxSteps := 1000000) only [seval, mm_0, mm_1, mm_2, mm_0n, mm_1n, mm_2n, q0d, q0b, q0e, q0f, q0i, mm_s0, mm_s1, mm_s2, mm_s3, q0a, q06, q08, q09, q0j, q04, q02, q05, q03, Nat.add_assoc, AB.calm, kpX, kpM, ml_z, ml_1, ml_l, ml_r, ml_b, ml_le, ml_0, ml_0k, Nat.one_ne_zero, List.all_cons, List.all_nil]
    apply hK
    simp only [Tryz.results33, retK, ares, Bool.and_true, Bool.true_and, AV.ofResults, St.trunc, q00, q01, true_and, and_true, List.cons.injEq, exists_eq_left']
    simp only [mm_retn]
    rfl
  | false =>
    rw [h1] at hK
    try simp (maxSteps := 1000000) only [seval, mm_0, mm_1, mm_2, mm_0n, mm_1n, mm_2n, q0d, q0b, q0e, q0f, q0i, mm_s0, mm_s1, mm_s2, mm_s3, q0a, q06, q08, q09, q0j, q04, q02, q05, q03, Nat.add_assoc, AB.calm, kpX, kpM, ml_z, ml_1, ml_l, ml_r, ml_b, ml_le, ml_0, ml_0k, Nat.one_ne_zero, List.all_cons, List.all_nil]
    (first | refine q0g ?_ ?_ | refine q0k ?_ ?_ | refine q0l ?_ ?_ | refine q0m ?_ ?_ | refine q0h ?_ ?_) <;> intro h2
    · have h2 : decide ((n : Int) ≤ s) = true := h2
      rw [h2] at hK
      try simp (maxSteps := 1000000) only [seval, mm_0, mm_1, mm_2, mm_0n, mm_1n, mm_2n, q0d, q0b, q0e, q0f, q0i, mm_s0, mm_s1, mm_s2, mm_s3, q0a, q06, q08, q09, q0j, q04, q02, q05, q03, Nat.add_assoc, AB.calm, kpX, kpM, ml_z, ml_1, ml_l, ml_r, ml_b, ml_le, ml_0, ml_0k, Nat.one_ne_zero, List.all_cons, List.all_nil]
      apply hK
      simp only [Tryz.results33, retK, ares, Bool.and_true, Bool.true_and, AV.ofResults, St.trunc, q00, q01, true_and, and_true, List.cons.injEq, exists_eq_left']
      simp only [mm_retn]
      rfl
    · have h2 : decide ((n : Int) ≤ s) = false := h2
      rw [h2] at hK
      have hs0 : ¬ s < 0 := of_decide_eq_false h1
      have hs1 : ¬ (n : Int) ≤ s := of_decide_eq_false h2
      obtain ⟨k, rfl⟩ : ∃ k : Nat, s = (k : Int) := ⟨s.toNat, by omega⟩
      have hk : k < n := by omega
      have hb := bk_at M.b hk
      have c1 : (0 : Int) ≤ ((k : Nat) : Int) ∧ Int.toNat ((k : Nat) : Int) < n := by omega
      have hS := sweep_call B (M.b k) M.t.now (h.b _) (by have := h.B; omega)
      unfold q10 at hS
      have hset := mm_setBn (pad := pad) ⟨M.c, ⟨M.t.now, addW M.t.seq 1, M.t.cl⟩, M.b, M.f⟩ (q1q (M.b k) M.t.now).1 hk
      obtain ⟨hp1, hp2⟩ := ptr_load (pad := pad) hk
      have hcl : (q1q (M.b k) M.t.now).2.length ≤ B := by
        have h3 := (q49 (h.b k).1 M.t.now (M.b k).length).2.2
        have h4 := (h.b k).2.1
        unfold q16 at h3
        rw [List.take_length] at h3
        unfold q1q
        omega
      have hM1 : MOk n B (M.take.setB k (q1q (M.b k) M.t.now).1) := ⟨h.n1, h.n8, h.s, fun j => by
        simp only [Md.setB]
        split
        · exact book_sweep (h.b k) M.t.now
        · exact h.b j, h.m, h.ml, h.q, h.B⟩
      have hT := Tell_in (pad := pad) hM1 [] rfl hk (q1q (M.b k) M.t.now).2 (addW M.t.seq 1) (by have := h.B; omega)
      rw [List.append_nil] at hT
      try simp (maxSteps := 1000000) only [seval, mm_0, mm_1, mm_2, mm_0n, mm_1n, mm_2n, q0d, q0b, q0e, q0f, q0i, mm_s0, mm_s1, mm_s2, mm_s3, q0a, q06, q08, q09, q0j, q04, q02, q05, q03, Nat.add_assoc, AB.calm, kpX, kpM, ml_z, ml_1, ml_l, ml_r, ml_b, ml_le, ml_0, ml_0k, Nat.one_ne_zero, List.all_cons, List.all_nil]
      refine q30 (Sym.ACall.mono (model_take n pad M) ?_)
      rintro _ _ ⟨rfl, rfl⟩
      try simp (maxSteps := 1000000) only [seval, mm_0, mm_1, mm_2, mm_0n, mm_1n, mm_2n, q0d, q0b, q0e, q0f, q0i, mm_s0, mm_s1, mm_s2, mm_s3, q0a, q06, q08, q09, q0j, q04, q02, q05, q03, Nat.add_assoc, AB.calm, kpX, kpM, ml_z, ml_1, ml_l, ml_r, ml_b, ml_le, ml_0, ml_0k, Nat.one_ne_zero, List.all_cons, List.all_nil]
      refine q0w tyOk (by rfl) (by simp only [q08, mlen]; omega) (by kernel_rfl) rfl ?_
      try simp (maxSteps := 1000000) only [seval, mm_0, mm_1, mm_2, mm_0n, mm_1n, mm_2n, q0d, q0b, q0e, q0f, q0i, mm_s0, mm_s1, mm_s2, mm_s3, q0a, q06, q08, q09, q0j, q04, q02, q05, q03, Nat.add_assoc, AB.calm, kpX, kpM, ml_z, ml_1, ml_l, ml_r, ml_b, ml_le, ml_0, ml_0k, Nat.one_ne_zero, List.all_cons, List.all_nil, c1, hb, q4q, Md.take]
      refine q3y hS rfl ?_
      try simp (maxSteps := 1000000) only [seval, mm_0, mm_1, mm_2, mm_0n, mm_1n, mm_2n, q0d, q0b, q0e, q0f, q0i, mm_s0, mm_s1, mm_s2, mm_s3, q0a, q06, q08, q09, q0j, q04, q02, q05, q03, Nat.add_assoc, AB.calm, kpX, kpM, ml_z, ml_1, ml_l, ml_r, ml_b, ml_le, ml_0, ml_0k, Nat.one_ne_zero, List.all_cons, List.all_nil, c1, hb, q4q]
      refine ⟨by kernel_rfl, ?_⟩
      try simp (maxSteps := 1000000) only [seval, mm_0, mm_1, mm_2, mm_0n, mm_1n, mm_2n, q0d, q0b, q0e, q0f, q0i, mm_s0, mm_s1, mm_s2, mm_s3, q0a, q06, q08, q09, q0j, q04, q02, q05, q03, Nat.add_assoc, AB.calm, kpX, kpM, ml_z, ml_1, ml_l, ml_r, ml_b, ml_le, ml_0, ml_0k, Nat.one_ne_zero, List.all_cons, List.all_nil, hset, c1, hp1, hp2]
      refine q2i (kp := kpM n) (fun b hb => by simp [kpM, hb]) (hT.mono ?_)
      rintro x m' rfl
      rw [List.append_nil]
      try simp (maxSteps := 1000000) only [seval, mm_0, mm_1, mm_2, mm_0n, mm_1n, mm_2n, q0d, q0b, q0e, q0f, q0i, mm_s0, mm_s1, mm_s2, mm_s3, q0a, q06, q08, q09, q0j, q04, q02, q05, q03, Nat.add_assoc, AB.calm, kpX, kpM, ml_z, ml_1, ml_l, ml_r, ml_b, ml_le, ml_0, ml_0k, Nat.one_ne_zero, List.all_cons, List.all_nil]
      apply hK
      simp only [Tryz.results33, retK, ares, Bool.and_true, Bool.true_and, AV.ofResults, St.trunc, q00, q01, true_and, and_true, List.cons.injEq, exists_eq_left']
      simp only [mm_retn]
      simp only [Int.toNat_natCast]
      rfl
end Go.Proofs.YtdkcpcflfnakdaaGreat
namespace Go.Proofs.YtdkcpcflfnakdaaGreat
open Go Go.Proofs.YtdkcpcflfnakdaaGreat.Sym
attribute [-sevalprocAttr] Int.reduceToNat Int.reduceNatCast Int.reduceNatCast' Nat.reduceSubDiff
set_option maxRecDepth 100000
set_option maxHeartbeats 1000000
set_option maxHeartbeats 1000000
set_option linter.unusedSimpArgs false
set_option linter.unusedVariables false

def slO (sz : Nat) : Option (List AV) → AV
  | none => .v (.slice none 0 0)
  | some l => .sl sz l
def prs (l : List Pr) : List AV := l.map Pr.av
structure Rp where
  err : Int
  vals : Option (List Pr)
  evs : Option (List Ev)
  lost : Bool
def Rp.av (r : Rp) : AV := .agg [i64 r.err, slO 3 (r.vals.map prs), slO 8 (r.evs.map evts), bool r.lost]
def errR (e : Int) : Rp := ⟨e, none, none, false⟩

def Md.write (n : Nat) (M : Md) (o : Opb) : Md :=
  if M.t.cl = true then M.take else (M.take.setB (stN n o.u) (writeB (M.b (stN n o.u)) o M.t.now M.c.k)).tell (stN n o.u) (writeC (M.b (stN n o.u)) o M.t.now M.c.k) (addW M.t.seq 1)
def writeR (n : Nat) (M : Md) (o : Opb) : Rp := if M.t.cl = true then errR 5 else errR (q2s (M.b (stN n o.u)) o M.t.now M.c.k).2
theorem mok_write {n B : Nat} {M : Md} (h : MOk n B M) (o : Opb) (hB : B + 1 ≤ 900) : MOk n (B + 1) (M.take.setB (stN n o.u) (writeB (M.b (stN n o.u)) o M.t.now M.c.k)) :=
  ⟨h.n1, h.n8, h.s, fun j => by
    simp only [Md.setB]
    split
    · exact book_write (h.b _) o _ _
    · exact (h.b j).mono (Nat.le_succ _), h.m, fun j => Nat.le_succ_of_le (h.ml j), h.q, hB⟩
theorem model_write {n pad B : Nat} {M : Md} (h : MOk n B M) (hB : B + 1 ≤ 900) (o : Opb) (hu : o.u.size ≤ 1000000) : q0s P 3 39 (modM n pad M) [.ptr 0 0, o.av] (fun x m' => x = (writeR n M o).av ∧ m' = modM n pad (M.write n o)) := by
  refine q2y tyOk Tryz.func39 rfl rfl (by rw [q08, mlen]; omega) ?_
  intro K hK
  rw [q08] at hK
  simp only [Tryz.ntmps39, List.length_cons, List.length_nil, Nat.reduceAdd, Nat.reduceSub, List.replicate, List.cons_append, List.nil_append]
  unfold Md.write writeR at hK
  try simp (maxSteps := 1000000) only [seval, mm_0, mm_1, mm_2, mm_0n, mm_1n, mm_2n, q0d, q0b, q0e, q0f, q0i, mm_s0, mm_s1, mm_s2, mm_s3, q0a, q06, q08, q09, q0j, q04, q02, q05, q03, Nat.add_assoc, AB.calm, kpX, kpM, ml_z, ml_1, ml_l, ml_r, ml_b, ml_le, ml_0, ml_0k, Nat.one_ne_zero, List.all_cons, List.all_nil, Opb.av]
  refine q30 (mod_in (model_take n pad M) rfl ?_)
  rintro _ _ ⟨rfl, rfl⟩
  refine ⟨rfl, _, rfl, ?_⟩
  have hs := (stN_lt h.n1 h.n8 o.u).1
  have hM1 := mok_write h o hB
  have hT1 : MOk n B M.take := ⟨h.n1, h.n8, h.s, h.b, h.m, h.ml, h.q, h.B⟩
  have e1 : M.take.t.cl = M.t.cl := rfl
  have e2 : M.take.t.now = M.t.now := rfl
  have e3 : M.take.b = M.b := rfl
  have e4 : M.take.c = M.c := rfl
  have hw := write_call B (M.b (stN n o.u)) o M.t.now M.c.k (h.b _) (by have := h.B; omega)
  have hcl : (writeC (M.b (stN n o.u)) o M.t.now M.c.k).length ≤ 50000 := by have := settleC_len (M.b (stN n o.u)) o.u (q2s (M.b (stN n o.u)) o M.t.now M.c.k).1 M.t.now; unfold writeC; omega
  have hstr := stripe_in (pad := pad) hT1 o.u hu
  generalize M.take = M1 at *
  cases hc : M.t.cl with
  | true =>
    rw [hc, if_pos rfl, if_pos rfl] at hK
    rw [hc] at e1
    try simp (maxSteps := 1000000) only [seval, mm_0, mm_1, mm_2, mm_0n, mm_1n, mm_2n, q0d, q0b, q0e, q0f, q0i, mm_s0, mm_s1, mm_s2, mm_s3, q0a, q06, q08, q09, q0j, q04, q02, q05, q03, Nat.add_assoc, AB.calm, kpX, kpM, ml_z, ml_1, ml_l, ml_r, ml_b, ml_le, ml_0, ml_0k, Nat.one_ne_zero, List.all_cons, List.all_nil, e1]
    apply hK
    simp only [Tryz.results39, retK, ares, Bool.and_true, AV.ofResults, St.trunc, q00, q01, aload, acell, T, TI.isAgg, List.getD_cons_zero, List.getD_cons_succ, List.drop_zero, and_true, ↓reduceIte, List.cons.injEq, exists_eq_left']
    simp only [q0b, List.getElem?_cons_zero, List.getElem?_cons_succ, List.take_succ_cons, List.take_zero, q2n, and_true, true_and, List.length_cons, List.length_nil, q00, q01, Nat.reduceAdd, Nat.le_refl]
    rfl
  | false =>
    rw [hc, if_neg (by decide), if_neg (by decide)] at hK
    rw [hc] at e1
    generalize stN n o.u = k at *
    have hb := bk_at M.b hs
    have c1 : (0 : Int) ≤ ((k : Nat) : Int) ∧ Int.toNat ((k : Nat) : Int) < n := by omega
    unfold q10 at hw
    have hset := fun r => mm_setB (pad := pad) M1 r (writeB (M.b k) o M.t.now M.c.k) hs
    rw [e3] at hset
    obtain ⟨hp1, hp2⟩ := ptr_load (pad := pad) hs
    unfold Opb.av at hw
    try simp (maxSteps := 1000000) only [seval, mm_0, mm_1, mm_2, mm_0n, mm_1n, mm_2n, q0d, q0b, q0e, q0f, q0i, mm_s0, mm_s1, mm_s2, mm_s3, q0a, q06, q08, q09, q0j, q04, q02, q05, q03, Nat.add_assoc, AB.calm, kpX, kpM, ml_z, ml_1, ml_l, ml_r, ml_b, ml_le, ml_0, ml_0k, Nat.one_ne_zero, List.all_cons, List.all_nil, e1]
    refine q30 (Sym.ACall.mono (hstr _) ?_)
    rintro _ _ ⟨rfl, rfl⟩
    try simp (maxSteps := 1000000) only [seval, mm_0, mm_1, mm_2, mm_0n, mm_1n, mm_2n, q0d, q0b, q0e, q0f, q0i, mm_s0, mm_s1, mm_s2, mm_s3, q0a, q06, q08, q09, q0j, q04, q02, q05, q03, Nat.add_assoc, AB.calm, kpX, kpM, ml_z, ml_1, ml_l, ml_r, ml_b, ml_le, ml_0, ml_0k, Nat.one_ne_zero, List.all_cons, List.all_nil]
    refine q0w tyOk (by rfl) (by simp only [q09, List.length_cons, List.length_nil, mlen]; omega) (by kernel_rfl) rfl ?_
    try simp (maxSteps := 1000000) only [seval, mm_0, mm_1, mm_2, mm_0n, mm_1n, mm_2n, q0d, q0b, q0e, q0f, q0i, mm_s0, mm_s1, mm_s2, mm_s3, q0a, q06, q08, q09, q0j, q04, q02, q05, q03, Nat.add_assoc, AB.calm, kpX, kpM, ml_z, ml_1, ml_l, ml_r, ml_b, ml_le, ml_0, ml_0k, Nat.one_ne_zero, List.all_cons, List.all_nil, c1, e2, e3, e4, hb, q4q]
    refine q3y hw rfl ?_
    try simp (maxSteps := 1000000) only [seval, mm_0, mm_1, mm_2, mm_0n, mm_1n, mm_2n, q0d, q0b, q0e, q0f, q0i, mm_s0, mm_s1, mm_s2, mm_s3, q0a, q06, q08, q09, q0j, q04, q02, q05, q03, Nat.add_assoc, AB.calm, kpX, kpM, ml_z, ml_1, ml_l, ml_r, ml_b, ml_le, ml_0, ml_0k, Nat.one_ne_zero, List.all_cons, List.all_nil, c1, hb, q4q]
    refine ⟨by (rcases n_cases h.n1 h.n8 with rfl | rfl | rfl | rfl | rfl | rfl | rfl | rfl <;> kernel_rfl), ?_⟩
    try simp (maxSteps := 1000000) only [seval, mm_0, mm_1, mm_2, mm_0n, mm_1n, mm_2n, q0d, q0b, q0e, q0f, q0i, mm_s0, mm_s1, mm_s2, mm_s3, q0a, q06, q08, q09, q0j, q04, q02, q05, q03, Nat.add_assoc, AB.calm, kpX, kpM, ml_z, ml_1, ml_l, ml_r, ml_b, ml_le, ml_0, ml_0k, Nat.one_ne_zero, List.all_cons, List.all_nil, c1, hb, q4q]
    refine q0w tyOk (by rfl) (by simp only [q09, List.length_cons, List.length_nil, mlen]; omega) (by kernel_rfl) rfl ?_
    try simp (maxSteps := 1000000) only [seval, mm_0, mm_1, mm_2, mm_0n, mm_1n, mm_2n, q0d, q0b, q0e, q0f, q0i, mm_s0, mm_s1, mm_s2, mm_s3, q0a, q06, q08, q09, q0j, q04, q02, q05, q03, Nat.add_assoc, AB.calm, kpX, kpM, ml_z, ml_1, ml_l, ml_r, ml_b, ml_le, ml_0, ml_0k, Nat.one_ne_zero, List.all_cons, List.all_nil, c1, e3, hb, q4q]
    refine ⟨by kernel_rfl, ?_⟩
    try simp (maxSteps := 1000000) only [seval, mm_0, mm_1, mm_2, mm_0n, mm_1n, mm_2n, q0d, q0b, q0e, q0f, q0i, mm_s0, mm_s1, mm_s2, mm_s3, q0a, q06, q08, q09, q0j, q04, q02, q05, q03, Nat.add_assoc, AB.calm, kpX, kpM, ml_z, ml_1, ml_l, ml_r, ml_b, ml_le, ml_0, ml_0k, Nat.one_ne_zero, List.all_cons, List.all_nil, hset, c1, hp1, hp2]
    refine q2i (kp := kpM n) (fun b hb => by simp [kpM, hb]) ((Tell_in hM1 _ ?_ hs _ _ hcl).mono ?_)
    · rfl
    rintro x m' rfl
    try simp (maxSteps := 1000000) only [seval, mm_0, mm_1, mm_2, mm_0n, mm_1n, mm_2n, q0d, q0b, q0e, q0f, q0i, mm_s0, mm_s1, mm_s2, mm_s3, q0a, q06, q08, q09, q0j, q04, q02, q05, q03, Nat.add_assoc, AB.calm, kpX, kpM, ml_z, ml_1, ml_l, ml_r, ml_b, ml_le, ml_0, ml_0k, Nat.one_ne_zero, List.all_cons, List.all_nil]
    apply hK
    simp only [Tryz.results39, retK, ares, Bool.and_true, AV.ofResults, St.trunc, q00, q01, aload, acell, T, TI.isAgg, List.getD_cons_zero, List.getD_cons_succ, List.drop_zero, and_true, ↓reduceIte, List.cons.injEq, exists_eq_left']
    simp only [q0b, List.getElem?_cons_zero, List.getElem?_cons_succ, List.take_succ_cons, List.take_zero, q2n, and_true, true_and, List.length_cons, List.length_nil, q00, q01, Nat.reduceAdd, Nat.le_refl]
    rfl
end Go.Proofs.YtdkcpcflfnakdaaGreat
namespace Go.Proofs.YtdkcpcflfnakdaaGreat
open Go Go.Proofs.YtdkcpcflfnakdaaGreat.Sym
attribute [-sevalprocAttr] Int.reduceToNat Int.reduceNatCast Int.reduceNatCast' Nat.reduceSubDiff
set_option maxRecDepth 100000
set_option maxHeartbeats 1000000
set_option maxHeartbeats 1000000
set_option linter.unusedSimpArgs false
set_option linter.unusedVariables false

def countM (M : Md) (who : Int) (i : Nat) : Nat := ((List.range i).map fun j => cntM (M.f j).m who).sum
theorem countM_next (M : Md) (who : Int) (i : Nat) : countM M who (i + 1) = countM M who i + cntM (M.f i).m who := by
  simp [countM, List.range_succ]
theorem countM_le {n B : Nat} {M : Md} (h : MOk n B M) (who : Int) : ∀ i, countM M who i ≤ B * i
  | 0 => by simp [countM]
  | i + 1 => by
    have h1 := countM_le h who i
    have h2 := cnt_le (M.f i).m who
    have h3 := h.ml i
    rw [countM_next, Nat.mul_succ]
    omega
theorem Count_in {n pad B s : Nat} {M : Md} (h : MOk n B M) (r : List AB) (hs : s < n) (who : Int) :
    ACall P 69 (modM n pad M ++ r) [.ptr (fb s) 0, i64 who] (fun x m' => x = i64 (cntM (M.f s).m who : Nat) ∧ m' = modM n pad M ++ r) :=
  feed_inA M r hs (feed_Count (M.f s) who (by have := h.ml s; have := h.B; omega)) rfl rfl (by rintro x m' ⟨rfl, rfl⟩; exact ⟨_, rfl, rfl, by rw [setF_same]⟩)
theorem Watching_in {n pad B s : Nat} {M : Md} (h : MOk n B M) (r : List AB) (hs : s < n) (who : Int) (u : ByteArray) :
    ACall P 70 (modM n pad M ++ r) [.ptr (fb s) 0, i64 who, str u] (fun x m' => x = bool (watF (M.f s).m who u) ∧ m' = modM n pad M ++ r) :=
  feed_inA M r hs (feed_Watching (M.f s) who u (h.m s) (by have := h.ml s; have := h.B; omega)) rfl rfl (by rintro x m' ⟨rfl, rfl⟩; exact ⟨_, rfl, rfl, by rw [setF_same]⟩)
def Md.watchF (M : Md) (s : Nat) (who : Int) (u : ByteArray) : Md := M.setF s { M.f s with m := watchM (M.f s).m who u }
def Md.unwatchF (M : Md) (s : Nat) (who : Int) (u : ByteArray) : Md := M.setF s { M.f s with m := q3j (M.f s).m who u }
theorem Watch_in {n pad B s : Nat} {M : Md} (h : MOk n B M) (r : List AB) (hs : s < n) (who : Int) (u : ByteArray) :
    ACall P 71 (modM n pad M ++ r) [.ptr (fb s) 0, i64 who, str u] (fun x m' => m' = modM n pad (M.watchF s who u) ++ r) :=
  feed_inA M r hs (feed_Watch (M.f s) who u (h.m s) (by have := h.ml s; have := h.B; omega)) rfl rfl (by rintro x m' rfl; exact ⟨_, rfl, rfl⟩)
theorem Unwatch_in {n pad B s : Nat} {M : Md} (h : MOk n B M) (r : List AB) (hs : s < n) (who : Int) (u : ByteArray) :
    ACall P 43 (modM n pad M ++ r) [.ptr (fb s) 0, i64 who, str u] (fun x m' => m' = modM n pad (M.unwatchF s who u) ++ r) :=
  feed_inA M r hs (feed_Unwatch (M.f s) who u (h.m s) (by have := h.ml s; have := h.B; omega)) rfl rfl (by rintro x m' rfl; exact ⟨_, rfl, rfl⟩)
theorem Drain_in {n pad B s : Nat} {M : Md} (h : MOk n B M) (r : List AB) (hr : r.all (AB.calm n) = true) (hs : s < n) (who : Int) (hw : cli who = true) :
    q17 P (kpM n) 67 (modM n pad M ++ r) [.ptr (fb s) 0, i64 who] (fun x m' => x = .tup [.sl 8 (evts ((M.f s).q who.toNat).1), bool ((M.f s).q who.toNat).2] ∧ m' = modM n pad (M.setF s ((M.f s).drain who)) ++ r) := by
  refine feed_in M r hs (feed_Drain (M.f s) who (fun k => by have := h.q s k; omega)) rfl rfl hr ?_
  rintro x m' ⟨rfl, rfl⟩
  rw [if_pos hw, drainL, if_pos hw, drainB, if_pos hw]
  exact ⟨_, rfl, rfl, rfl⟩

def fullW (n : Nat) (M : Md) (who : Int) (u : ByteArray) : Bool := (!watF (M.f (stN n u)).m who u) && decide (M.c.w ≤ (countM M who n : Nat))
theorem model_watch {n pad B : Nat} {M : Md} (h : MOk n B M) (who : Int) (u : ByteArray) (hu : u.size ≤ 1000000) : ACall P 41 (modM n pad M) [.ptr 0 0, i64 who, str u]
    (fun x m' => x = i64 (if fullW n M who u = true then 4 else 0) ∧ m' = modM n pad (if fullW n M who u = true then M else M.watchF (stN n u) who u)) := by
  refine q39 tyOk Tryz.func41 rfl rfl ?_
  intro K hK
  rw [q08] at hK ⊢
  simp only [Tryz.ntmps41, List.length_cons, List.length_nil, Nat.reduceAdd, Nat.reduceSub, List.replicate, List.cons_append, List.nil_append]
  have hs := (stN_lt h.n1 h.n8 u).1
  unfold fullW at hK
  have hstr := stripe_in (pad := pad) h u hu
  generalize stN n u = k at *
  have c1 : (0 : Int) ≤ ((k : Nat) : Int) ∧ Int.toNat ((k : Nat) : Int) < n := by omega
  obtain ⟨hp1, hp2⟩ := ptr_load (pad := pad) hs
  have hstr0 := hstr []
  rw [List.append_nil] at hstr0
  try simp (maxSteps := 1000000) only [seval, mm_0, mm_1, mm_2, mm_0n, mm_1n, mm_2n, q0d, q0b, q0e, q0f, q0i, mm_s0, mm_s1, mm_s2, mm_s3, q0a, q06, q08, q09, q0j, q04, q02, q05, q03, Nat.add_assoc, AB.calm, kpX, kpM, ml_z, ml_1, ml_l, ml_r, ml_b, ml_le, ml_0, ml_0k, Nat.one_ne_zero, List.all_cons, List.all_nil]
  refine q0w tyOk (by rfl) (by simp only [q08, mlen]; omega) (by kernel_rfl) rfl ?_
  try simp (maxSteps := 1000000) only [seval, mm_0, mm_1, mm_2, mm_0n, mm_1n, mm_2n, q0d, q0b, q0e, q0f, q0i, mm_s0, mm_s1, mm_s2, mm_s3, q0a, q06, q08, q09, q0j, q04, q02, q05, q03, Nat.add_assoc, AB.calm, kpX, kpM, ml_z, ml_1, ml_l, ml_r, ml_b, ml_le, ml_0, ml_0k, Nat.one_ne_zero, List.all_cons, List.all_nil]
  have hg : modM n pad M ++ List.replicate 0 AB.gone = modM n pad M := by simp
  refine q5c hstr0 (by rfl) ?_
  try simp (maxSteps := 1000000) only [seval, mm_0, mm_1, mm_2, mm_0n, mm_1n, mm_2n, q0d, q0b, q0e, q0f, q0i, mm_s0, mm_s1, mm_s2, mm_s3, q0a, q06, q08, q09, q0j, q04, q02, q05, q03, Nat.add_assoc, AB.calm, kpX, kpM, ml_z, ml_1, ml_l, ml_r, ml_b, ml_le, ml_0, ml_0k, Nat.one_ne_zero, List.all_cons, List.all_nil, c1, hp1, hp2]
  refine ⟨by kernel_rfl, ?_⟩
  try simp (maxSteps := 1000000) only [seval, mm_0, mm_1, mm_2, mm_0n, mm_1n, mm_2n, q0d, q0b, q0e, q0f, q0i, mm_s0, mm_s1, mm_s2, mm_s3, q0a, q06, q08, q09, q0j, q04, q02, q05, q03, Nat.add_assoc, AB.calm, kpX, kpM, ml_z, ml_1, ml_l, ml_r, ml_b, ml_le, ml_0, ml_0k, Nat.one_ne_zero, List.all_cons, List.all_nil]
  refine q1h tyOk (α := Nat) (mlen n) [0, 1, 2, 7, 8, 23, 24, 25] (fun i => i ≤ n)
    (fun i => ⟨[.ptr 0 0, i64 who, str u, .any, .any, .any, .any, .ptr (fb k) 0, i64 (countM M who i : Nat), .any, .any, .any, .any, .any, .any, .any, .any, .any, .any, .any, .any, .any, .any, .own 2 1 0 n, i64 n, i64 i, .any, .any, .any, .any, .any, .any, .any, .any, .any, .any, .any, .any, .any, .any, .any, .any, .any, .any, .any, .any, .any, .any, .any, .any, .any, .any, .any], modM n pad M⟩)
    (fun i => n - i) 0 (Nat.le_refl _) (Nat.zero_le _) ?_ ?_
  · simp only [St.trunc, St.keep, q00, q01, keepV, ml_n0, ml_n2, mm_retn, ml_nf hs, List.elem_cons, List.elem_nil, Nat.reduceAdd, Nat.reduceBEq, Nat.zero_add, Bool.false_eq_true, ↓reduceIte]
    rfl
  intro i hi
  try simp (maxSteps := 1000000) only [seval, mm_0, mm_1, mm_2, mm_0n, mm_1n, mm_2n, q0d, q0b, q0e, q0f, q0i, mm_s0, mm_s1, mm_s2, mm_s3, q0a, q06, q08, q09, q0j, q04, q02, q05, q03, Nat.add_assoc, AB.calm, kpX, kpM, ml_z, ml_1, ml_l, ml_r, ml_b, ml_le, ml_0, ml_0k, Nat.one_ne_zero, List.all_cons, List.all_nil]
  (first | refine q0g ?_ ?_ | refine q0k ?_ ?_ | refine q0l ?_ ?_ | refine q0m ?_ ?_ | refine q0h ?_ ?_) <;> intro hc
  · have hlt : i < n := by simpa using hc
    have c2 : (0 : Int) ≤ ((i : Nat) : Int) ∧ Int.toNat ((i : Nat) : Int) < n := by omega
    obtain ⟨hq1, hq2⟩ := ptr_load (pad := pad) hlt
    have hC := Count_in (pad := pad) h [] hlt who
    rw [List.append_nil] at hC
    have hcl := countM_le h who i
    have hcl2 := cnt_le (M.f i).m who
    have hcl3 := h.ml i
    have hB := h.B
    have hn8 := h.n8
    have hmul : B * i ≤ 900 * 8 := Nat.mul_le_mul hB (by omega)
    have ew : IntKind.i64.wrap (((countM M who i : Nat) : Int) + ((cntM (M.f i).m who : Nat) : Int)) = ((countM M who i + cntM (M.f i).m who : Nat) : Int) := by rw [wrap_i64 (by omega) (by omega)]; omega
    have ew2 : IntKind.i64.wrap ((i : Int) + 1) = ((i + 1 : Nat) : Int) := by rw [wrap_i64 (by omega) (by omega)]; rfl
    try simp (maxSteps := 1000000) only [seval, mm_0, mm_1, mm_2, mm_0n, mm_1n, mm_2n, q0d, q0b, q0e, q0f, q0i, mm_s0, mm_s1, mm_s2, mm_s3, q0a, q06, q08, q09, q0j, q04, q02, q05, q03, Nat.add_assoc, AB.calm, kpX, kpM, ml_z, ml_1, ml_l, ml_r, ml_b, ml_le, ml_0, ml_0k, Nat.one_ne_zero, List.all_cons, List.all_nil, c2, hq1, hq2]
    refine q30 (Sym.ACall.mono hC ?_)
    rintro _ _ ⟨rfl, rfl⟩
    try simp (maxSteps := 1000000) only [seval, mm_0, mm_1, mm_2, mm_0n, mm_1n, mm_2n, q0d, q0b, q0e, q0f, q0i, mm_s0, mm_s1, mm_s2, mm_s3, q0a, q06, q08, q09, q0j, q04, q02, q05, q03, Nat.add_assoc, AB.calm, kpX, kpM, ml_z, ml_1, ml_l, ml_r, ml_b, ml_le, ml_0, ml_0k, Nat.one_ne_zero, List.all_cons, List.all_nil, ew, ew2]
    simp only [q0p, St.trunc, St.keep, q00, q01, keepV, ml_n0, ml_n2, mm_retn, ml_nf hs, ml_nf hlt, List.elem_cons, List.elem_nil, Nat.reduceAdd, Nat.reduceBEq, Nat.zero_add, Bool.false_eq_true, ↓reduceIte]
    exact ⟨i + 1, hlt, by omega, by rw [countM_next]⟩
  · have hge : i = n := by have : ¬ ((i : Int) < (n : Int)) := by simpa using hc
                           omega
    subst hge
    try simp (maxSteps := 1000000) only [seval, mm_0, mm_1, mm_2, mm_0n, mm_1n, mm_2n, q0d, q0b, q0e, q0f, q0i, mm_s0, mm_s1, mm_s2, mm_s3, q0a, q06, q08, q09, q0j, q04, q02, q05, q03, Nat.add_assoc, AB.calm, kpX, kpM, ml_z, ml_1, ml_l, ml_r, ml_b, ml_le, ml_0, ml_0k, Nat.one_ne_zero, List.all_cons, List.all_nil]
    have hn8 := h.n8
    have hW := Watching_in (pad := pad) h [] hs who u
    rw [List.append_nil] at hW
    refine q30 (Sym.ACall.mono hW ?_)
    rintro _ _ ⟨rfl, rfl⟩
    try simp (maxSteps := 1000000) only [seval, mm_0, mm_1, mm_2, mm_0n, mm_1n, mm_2n, q0d, q0b, q0e, q0f, q0i, mm_s0, mm_s1, mm_s2, mm_s3, q0a, q06, q08, q09, q0j, q04, q02, q05, q03, Nat.add_assoc, AB.calm, kpX, kpM, ml_z, ml_1, ml_l, ml_r, ml_b, ml_le, ml_0, ml_0k, Nat.one_ne_zero, List.all_cons, List.all_nil]
    cases hw : watF (M.f k).m who u with
    | true =>
      rw [hw, Bool.not_true, Bool.false_and, if_neg (by decide), if_neg (by decide)] at hK
      try simp (maxSteps := 1000000) only [seval, mm_0, mm_1, mm_2, mm_0n, mm_1n, mm_2n, q0d, q0b, q0e, q0f, q0i, mm_s0, mm_s1, mm_s2, mm_s3, q0a, q06, q08, q09, q0j, q04, q02, q05, q03, Nat.add_assoc, AB.calm, kpX, kpM, ml_z, ml_1, ml_l, ml_r, ml_b, ml_le, ml_0, ml_0k, Nat.one_ne_zero, List.all_cons, List.all_nil]
      have hC := Watch_in (pad := pad) h [] hs who u
      rw [List.append_nil] at hC
      refine q30 (Sym.ACall.mono hC ?_)
      rintro _ _ rfl
      rw [List.append_nil]
      try simp (maxSteps := 1000000) only [seval, mm_0, mm_1, mm_2, mm_0n, mm_1n, mm_2n, q0d, q0b, q0e, q0f, q0i, mm_s0, mm_s1, mm_s2, mm_s3, q0a, q06, q08, q09, q0j, q04, q02, q05, q03, Nat.add_assoc, AB.calm, kpX, kpM, ml_z, ml_1, ml_l, ml_r, ml_b, ml_le, ml_0, ml_0k, Nat.one_ne_zero, List.all_cons, List.all_nil]
      apply hK
      simp only [Tryz.results41, retK, ares, Bool.and_true, Bool.true_and, AV.ofResults, St.trunc, q00, q01, List.getD_cons_zero, List.getD_cons_succ, true_and, and_true, List.cons.injEq, exists_eq_left']
      simp only [mm_retn]
    | false =>
      rw [hw, Bool.not_false, Bool.true_and] at hK
      try simp (maxSteps := 1000000) only [seval, mm_0, mm_1, mm_2, mm_0n, mm_1n, mm_2n, q0d, q0b, q0e, q0f, q0i, mm_s0, mm_s1, mm_s2, mm_s3, q0a, q06, q08, q09, q0j, q04, q02, q05, q03, Nat.add_assoc, AB.calm, kpX, kpM, ml_z, ml_1, ml_l, ml_r, ml_b, ml_le, ml_0, ml_0k, Nat.one_ne_zero, List.all_cons, List.all_nil]
      (first | refine q0g ?_ ?_ | refine q0k ?_ ?_ | refine q0l ?_ ?_ | refine q0m ?_ ?_ | refine q0h ?_ ?_) <;> intro hf
      · rw [show decide (M.c.w ≤ ((countM M who i : Nat) : Int)) = true from hf, if_pos rfl, if_pos rfl] at hK
        try simp (maxSteps := 1000000) only [seval, mm_0, mm_1, mm_2, mm_0n, mm_1n, mm_2n, q0d, q0b, q0e, q0f, q0i, mm_s0, mm_s1, mm_s2, mm_s3, q0a, q06, q08, q09, q0j, q04, q02, q05, q03, Nat.add_assoc, AB.calm, kpX, kpM, ml_z, ml_1, ml_l, ml_r, ml_b, ml_le, ml_0, ml_0k, Nat.one_ne_zero, List.all_cons, List.all_nil]
        apply hK
        simp only [Tryz.results41, retK, ares, Bool.and_true, Bool.true_and, AV.ofResults, St.trunc, q00, q01, List.getD_cons_zero, List.getD_cons_succ, true_and, and_true, List.cons.injEq, exists_eq_left']
        simp only [mm_retn]
      · rw [show decide (M.c.w ≤ ((countM M who i : Nat) : Int)) = false from hf, if_neg (by decide), if_neg (by decide)] at hK
        try simp (maxSteps := 1000000) only [seval, mm_0, mm_1, mm_2, mm_0n, mm_1n, mm_2n, q0d, q0b, q0e, q0f, q0i, mm_s0, mm_s1, mm_s2, mm_s3, q0a, q06, q08, q09, q0j, q04, q02, q05, q03, Nat.add_assoc, AB.calm, kpX, kpM, ml_z, ml_1, ml_l, ml_r, ml_b, ml_le, ml_0, ml_0k, Nat.one_ne_zero, List.all_cons, List.all_nil]
        have hC := Watch_in (pad := pad) h [] hs who u
        rw [List.append_nil] at hC
        refine q30 (Sym.ACall.mono hC ?_)
        rintro _ _ rfl
        rw [List.append_nil]
        try simp (maxSteps := 1000000) only [seval, mm_0, mm_1, mm_2, mm_0n, mm_1n, mm_2n, q0d, q0b, q0e, q0f, q0i, mm_s0, mm_s1, mm_s2, mm_s3, q0a, q06, q08, q09, q0j, q04, q02, q05, q03, Nat.add_assoc, AB.calm, kpX, kpM, ml_z, ml_1, ml_l, ml_r, ml_b, ml_le, ml_0, ml_0k, Nat.one_ne_zero, List.all_cons, List.all_nil]
        apply hK
        simp only [Tryz.results41, retK, ares, Bool.and_true, Bool.true_and, AV.ofResults, St.trunc, q00, q01, List.getD_cons_zero, List.getD_cons_succ, true_and, and_true, List.cons.injEq, exists_eq_left']
        simp only [mm_retn]

def Md.drains (M : Md) (who : Int) (i : Nat) : Md := { M with f := fun j => if j < i then (M.f j).drain who else M.f j }
theorem drains_0 (M : Md) (who : Int) : M.drains who 0 = M := by
  simp only [Md.drains, Nat.not_lt_zero, if_false]
theorem drains_next (M : Md) (who : Int) (i : Nat) : (M.drains who i).setF i (((M.drains who i).f i).drain who) = M.drains who (i + 1) := by
  simp only [Md.drains, Md.setF, Nat.lt_irrefl, if_false]
  congr 1
  funext j
  by_cases h1 : j = i
  · subst h1; simp
  · have e : (j < i + 1) = (j < i) := by simp; omega
    simp only [if_neg h1, e]
theorem drains_at (M : Md) (who : Int) (i : Nat) : (M.drains who i).f i = M.f i := by simp [Md.drains]
theorem mok_drains {n B : Nat} {M : Md} (h : MOk n B M) (who : Int) (i : Nat) : MOk n B (M.drains who i) :=
  ⟨h.n1, h.n8, h.s, h.b, fun j => by
    simp only [Md.drains]
    split
    · unfold Fd.drain; split <;> exact h.m j
    · exact h.m j, fun j => by
    simp only [Md.drains]
    split
    · unfold Fd.drain; split <;> exact h.ml j
    · exact h.ml j, fun j k => by
    simp only [Md.drains]
    split
    · unfold Fd.drain
      split
      · simp only [Fd.setQ]
        split
        · simp
        · exact h.q j k
      · exact h.q j k
    · exact h.q j k, h.B⟩
def rowsW (M : Md) (who : Int) (i : Nat) : Rws := (List.range i).map fun j => ((M.f j).q who.toNat).1
def lostW (M : Md) (who : Int) (i : Nat) : Bool := (List.range i).any fun j => ((M.f j).q who.toNat).2
theorem rowsW_next (M : Md) (who : Int) (i : Nat) : rowsW M who (i + 1) = rowsW M who i ++ [((M.f i).q who.toNat).1] := by simp [rowsW, List.range_succ]
theorem lostW_next (M : Md) (who : Int) (i : Nat) : lostW M who (i + 1) = (lostW M who i || ((M.f i).q who.toNat).2) := by simp [lostW, List.range_succ]
theorem rowsW_len (M : Md) (who : Int) (i : Nat) : (rowsW M who i).length = i := by simp [rowsW]
theorem model_poll {n pad B : Nat} {M : Md} (h : MOk n B M) (who : Int) (hw : cli who = true) : q0s P 3 40 (modM n pad M) [.ptr 0 0, i64 who]
    (fun x m' => x = Rp.av ⟨0, none, some (mergeF (rowsW M who n)), lostW M who n⟩ ∧ m' = modM n pad (M.drains who n)) := by
  refine q2y tyOk Tryz.func40 rfl rfl (by rw [q08, mlen]; omega) ?_
  intro K hK
  rw [q08] at hK
  simp only [Tryz.ntmps40, List.length_cons, List.length_nil, Nat.reduceAdd, Nat.reduceSub, List.replicate, List.cons_append, List.nil_append]
  try simp (maxSteps := 1000000) only [seval, mm_0, mm_1, mm_2, mm_0n, mm_1n, mm_2n, q0d, q0b, q0e, q0f, q0i, mm_s0, mm_s1, mm_s2, mm_s3, q0a, q06, q08, q09, q0j, q04, q02, q05, q03, Nat.add_assoc, AB.calm, kpX, kpM, ml_z, ml_1, ml_l, ml_r, ml_b, ml_le, ml_0, ml_0k, Nat.one_ne_zero, List.all_cons, List.all_nil]
  refine loopK_turn (Turns.adopt (i := 6) 39 1 rfl) ?_
  try simp (maxSteps := 1000000) only [seval, mm_0, mm_1, mm_2, mm_0n, mm_1n, mm_2n, q0d, q0b, q0e, q0f, q0i, mm_s0, mm_s1, mm_s2, mm_s3, q0a, q06, q08, q09, q0j, q04, q02, q05, q03, Nat.add_assoc, AB.calm, kpX, kpM, ml_z, ml_1, ml_l, ml_r, ml_b, ml_le, ml_0, ml_0k, Nat.one_ne_zero, List.all_cons, List.all_nil]
  refine q1h tyOk (α := Nat) (mlen n + 3) [0, 1, 4, 5, 6, 14, 15, 16] (fun i => i ≤ n)
    (fun i => ⟨[.ptr 0 0, i64 who, .any, .any, .ptr (mlen n) 0, .ptr (mlen n + 1) 0, .own (mlen n + 2) 1 0 i, .any, .any, .any, .any, .any, .any, .any, .own 2 1 0 n, i64 n, i64 i, .any, .any, .any, .any, .any, .any, .any, .any, .any, .any, .any, .any, .any, .any, .any, .any, .any, .any, .any, .any, .any, .any, .any, .any], modM n pad (M.drains who i) ++ [.box [i64 0, .v (.slice none 0 0), .v (.slice none 0 0), bool false], .box [i64 0, .v (.slice none 0 0), .v (.slice none 0 0), bool (lostW M who i)], .row 39 1 (rws (rowsW M who i))]⟩)
    (fun i => n - i) 0 (by omega) (Nat.zero_le _) ?_ ?_
  · rw [drains_0]
    simp only [St.trunc, St.keep, q00, q01, AB.trunc, keepV, ml_k0, ml_k2, ml_kl, ml_kl0, mm_rn3, Nat.reduceLeDiff, List.elem_cons, List.elem_nil, List.take_succ_cons, List.take_zero, List.map_cons, List.map_nil, Nat.reduceAdd, Nat.reduceBEq, Nat.zero_add, Bool.false_eq_true, ↓reduceIte]
    rfl
  intro i hi
  try simp (maxSteps := 1000000) only [seval, mm_0, mm_1, mm_2, mm_0n, mm_1n, mm_2n, q0d, q0b, q0e, q0f, q0i, mm_s0, mm_s1, mm_s2, mm_s3, q0a, q06, q08, q09, q0j, q04, q02, q05, q03, Nat.add_assoc, AB.calm, kpX, kpM, ml_z, ml_1, ml_l, ml_r, ml_b, ml_le, ml_0, ml_0k, Nat.one_ne_zero, List.all_cons, List.all_nil]
  (first | refine q0g ?_ ?_ | refine q0k ?_ ?_ | refine q0l ?_ ?_ | refine q0m ?_ ?_ | refine q0h ?_ ?_) <;> intro hc
  · have hlt : i < n := by simpa using hc
    have c2 : (0 : Int) ≤ ((i : Nat) : Int) ∧ Int.toNat ((i : Nat) : Int) < n := by omega
    obtain ⟨hq1, hq2⟩ := ptr_load (pad := pad) hlt
    have hn8 := h.n8
    have ew2 : IntKind.i64.wrap ((i : Int) + 1) = ((i + 1 : Nat) : Int) := by rw [wrap_i64 (by omega) (by omega)]; rfl
    have hl := rowsW_len M who i
    try simp (maxSteps := 1000000) only [seval, mm_0, mm_1, mm_2, mm_0n, mm_1n, mm_2n, q0d, q0b, q0e, q0f, q0i, mm_s0, mm_s1, mm_s2, mm_s3, q0a, q06, q08, q09, q0j, q04, q02, q05, q03, Nat.add_assoc, AB.calm, kpX, kpM, ml_z, ml_1, ml_l, ml_r, ml_b, ml_le, ml_0, ml_0k, Nat.one_ne_zero, List.all_cons, List.all_nil, c2, hq1, hq2]
    refine q2i (kp := kpM n) (fun b hb => by simp [kpM, show b < 3 by omega]) ((Drain_in (mok_drains h who i) _ ?_ hlt who hw).mono ?_)
    · rfl
    rintro x m' ⟨rfl, rfl⟩
    rw [drains_next, drains_at]
    try simp (maxSteps := 1000000) only [seval, mm_0, mm_1, mm_2, mm_0n, mm_1n, mm_2n, q0d, q0b, q0e, q0f, q0i, mm_s0, mm_s1, mm_s2, mm_s3, q0a, q06, q08, q09, q0j, q04, q02, q05, q03, Nat.add_assoc, AB.calm, kpX, kpM, ml_z, ml_1, ml_l, ml_r, ml_b, ml_le, ml_0, ml_0k, Nat.one_ne_zero, List.all_cons, List.all_nil, rws_len, hl]
    refine ⟨⟨by simp only [maxLen]; omega, by omega⟩, ?_⟩
    have er : rws (rowsW M who i) ++ [.sl 8 (evts ((M.f i).q who.toNat).1)] = rws (rowsW M who (i + 1)) := by rw [rowsW_next, rws, rws, List.map_append]; rfl
    have el := lostW_next M who i
    cases hL : lostW M who i with
    | true =>
      rw [hL, Bool.true_or] at el
      try simp (maxSteps := 1000000) only [seval, mm_0, mm_1, mm_2, mm_0n, mm_1n, mm_2n, q0d, q0b, q0e, q0f, q0i, mm_s0, mm_s1, mm_s2, mm_s3, q0a, q06, q08, q09, q0j, q04, q02, q05, q03, Nat.add_assoc, AB.calm, kpX, kpM, ml_z, ml_1, ml_l, ml_r, ml_b, ml_le, ml_0, ml_0k, Nat.one_ne_zero, List.all_cons, List.all_nil, ew2]
      simp only [q0p, St.trunc, St.keep, q00, q01, AB.trunc, keepV, ml_k0, ml_k2, ml_kl, ml_kl0, mm_rn3, Nat.reduceLeDiff, er, List.drop_zero, List.elem_cons, List.elem_nil, List.take_succ_cons, List.take_zero, List.map_cons, List.map_nil, Nat.reduceAdd, Nat.reduceBEq, Nat.le_refl, Nat.zero_add, Bool.false_eq_true, ↓reduceIte]
      exact ⟨i + 1, hlt, by omega, by rw [el]⟩
    | false =>
      rw [hL, Bool.false_or] at el
      try simp (maxSteps := 1000000) only [seval, mm_0, mm_1, mm_2, mm_0n, mm_1n, mm_2n, q0d, q0b, q0e, q0f, q0i, mm_s0, mm_s1, mm_s2, mm_s3, q0a, q06, q08, q09, q0j, q04, q02, q05, q03, Nat.add_assoc, AB.calm, kpX, kpM, ml_z, ml_1, ml_l, ml_r, ml_b, ml_le, ml_0, ml_0k, Nat.one_ne_zero, List.all_cons, List.all_nil, ew2]
      simp only [q0p, St.trunc, St.keep, q00, q01, AB.trunc, keepV, ml_k0, ml_k2, ml_kl, ml_kl0, mm_rn3, Nat.reduceLeDiff, er, List.drop_zero, List.elem_cons, List.elem_nil, List.take_succ_cons, List.take_zero, List.map_cons, List.map_nil, Nat.reduceAdd, Nat.reduceBEq, Nat.le_refl, Nat.zero_add, Bool.false_eq_true, ↓reduceIte]
      exact ⟨i + 1, hlt, by omega, by rw [el]⟩
  · have hge : i = n := by have : ¬ ((i : Int) < (n : Int)) := by simpa using hc
                           omega
    subst hge
    have hn8 := h.n8
    have hl := rowsW_len M who i
    have hM := feed_Merge (rowsW M who i) (by omega) (by
      have : ∀ k, total (rowsW M who k) ≤ 100 * k := by
        intro k
        induction k with
        | zero => simp [rowsW, total]
        | succ k ih =>
          have h1 := h.q k who.toNat
          rw [rowsW_next]
          simp only [total, List.map_append, List.sum_append, List.map_cons, List.map_nil, List.sum_cons, List.sum_nil] at ih ⊢
          omega
      have := this i
      omega) (by
      intro j
      by_cases hj : j < i
      · have := h.q j who.toNat
        simp only [rowsW, List.getD_eq_getElem?_getD, List.getElem?_map, List.getElem?_range hj, Option.map_some, Option.getD_some]
        omega
      · rw [List.getD_eq_getElem?_getD, List.getElem?_eq_none (by omega)]
        simp)
    try simp (maxSteps := 1000000) only [seval, mm_0, mm_1, mm_2, mm_0n, mm_1n, mm_2n, q0d, q0b, q0e, q0f, q0i, mm_s0, mm_s1, mm_s2, mm_s3, q0a, q06, q08, q09, q0j, q04, q02, q05, q03, Nat.add_assoc, AB.calm, kpX, kpM, ml_z, ml_1, ml_l, ml_r, ml_b, ml_le, ml_0, ml_0k, Nat.one_ne_zero, List.all_cons, List.all_nil]
    refine callO_shut ?_
    try simp (maxSteps := 1000000) only [seval, mm_0, mm_1, mm_2, mm_0n, mm_1n, mm_2n, q0d, q0b, q0e, q0f, q0i, mm_s0, mm_s1, mm_s2, mm_s3, q0a, q06, q08, q09, q0j, q04, q02, q05, q03, Nat.add_assoc, AB.calm, kpX, kpM, ml_z, ml_1, ml_l, ml_r, ml_b, ml_le, ml_0, ml_0k, Nat.one_ne_zero, List.all_cons, List.all_nil, rws_len, hl]
    rw [List.take_of_length_le (by rw [rws_len, hl]; exact Nat.le_refl _)]
    (refine q07 hM rfl ?_; rintro _ rfl)
    try simp (maxSteps := 1000000) only [seval, mm_0, mm_1, mm_2, mm_0n, mm_1n, mm_2n, q0d, q0b, q0e, q0f, q0i, mm_s0, mm_s1, mm_s2, mm_s3, q0a, q06, q08, q09, q0j, q04, q02, q05, q03, Nat.add_assoc, AB.calm, kpX, kpM, ml_z, ml_1, ml_l, ml_r, ml_b, ml_le, ml_0, ml_0k, Nat.one_ne_zero, List.all_cons, List.all_nil]
    apply hK
    simp only [Tryz.results40, retK, ares, Bool.and_true, AV.ofResults, St.trunc, q00, q01, aload, acell, T, TI.isAgg, List.getD_cons_zero, List.getD_cons_succ, List.drop_zero, and_true, ↓reduceIte, List.cons.injEq, exists_eq_left']
    simp only [q0d, List.getElem?_cons_zero, List.take_succ_cons, List.take_zero, q2n, and_true, true_and, List.length_cons, List.length_nil, q00, q01, Nat.reduceAdd, Nat.le_refl]
    first | rfl | exact ⟨rfl, rfl⟩
end Go.Proofs.YtdkcpcflfnakdaaGreat
namespace Go.Proofs.YtdkcpcflfnakdaaGreat
open Go Go.Proofs.YtdkcpcflfnakdaaGreat.Sym
attribute [-sevalprocAttr] Int.reduceToNat Int.reduceNatCast Int.reduceNatCast' Nat.reduceSubDiff
set_option maxRecDepth 100000
set_option maxHeartbeats 1000000
set_option maxHeartbeats 2000000
set_option linter.unusedSimpArgs false
set_option linter.unusedVariables false

def badN (us : List ByteArray) : Bool := us.any fun u => !nameB u
def badO (o : Opb) : Bool :=
  if (o.kind == 1) = true then (!nameB o.u) || !(decide (0 ≤ o.id) && decide (o.id ≤ 255) && decide (1 ≤ o.st) && decide (o.st ≤ 9) && decide (0 ≤ o.pr) && decide (o.pr ≤ 9))
  else if (o.kind == 2 || o.kind == 3) = true then (!nameB o.u) || !inB o.id 0 255
  else if (o.kind == 4 || (o.kind == 6 || o.kind == 7)) = true then !nameB o.u
  else if (o.kind == 5) = true then badN o.us || !inB o.us.length 1 8
  else !(o.kind == 8 || o.kind == 9)
theorem bad_next {us : List ByteArray} {i : Nat} (h : i < us.length) : badN (us.take (i + 1)) = (badN (us.take i) || !nameB us[i]) := by
  rw [q23 h, badN, List.any_append]; simp [badN]
theorem model_Bad (o : Opb) (hu : o.us.length ≤ 1000) : PCall P 14 [o.av] (fun x => x = bool (badO o)) := by
  refine q0r tyOk Tryz.func14 rfl rfl ?_
  intro K hK
  simp only [Tryz.ntmps14, List.length_cons, List.length_nil, Nat.reduceAdd, Nat.reduceSub, List.replicate, List.cons_append, List.nil_append]
  unfold badO at hK
  try simp (maxSteps := 1000000) only [seval, Opb.av]
  cases h1 : (o.kind == 1)
  · rw [h1, if_neg (by decide)] at hK
    try simp (maxSteps := 1000000) only [seval]
    cases h2 : (o.kind == 2)
    · cases h3 : (o.kind == 3)
      · rw [h2, h3, if_neg (by decide)] at hK
        try simp (maxSteps := 1000000) only [seval, h3]
        cases h4 : (o.kind == 4)
        · try simp (maxSteps := 1000000) only [seval]
          cases h6 : (o.kind == 6)
          · try simp (maxSteps := 1000000) only [seval]
            cases h7 : (o.kind == 7)
            · rw [h4, h6, h7, if_neg (by decide)] at hK
              try simp (maxSteps := 1000000) only [seval]
              cases h5 : (o.kind == 5)
              · rw [h5, if_neg (by decide)] at hK
                try simp (maxSteps := 1000000) only [seval]
                cases h8 : (o.kind == 8)
                · try simp (maxSteps := 1000000) only [seval]
                  cases h9 : (o.kind == 9)
                  · rw [h8, h9] at hK
                    try simp (maxSteps := 1000000) only [seval]
                    apply hK
                    simp only [Tryz.results14, retK, ares, Bool.and_true, Bool.true_and, AV.ofResults, St.trunc, q00, q01, List.getD_cons_zero, List.getD_cons_succ, List.take_zero, List.map_nil, true_and, and_true, List.cons.injEq, exists_eq_left']
                    try rfl
                  · rw [h8, h9] at hK
                    try simp (maxSteps := 1000000) only [seval]
                    apply hK
                    simp only [Tryz.results14, retK, ares, Bool.and_true, Bool.true_and, AV.ofResults, St.trunc, q00, q01, List.getD_cons_zero, List.getD_cons_succ, List.take_zero, List.map_nil, true_and, and_true, List.cons.injEq, exists_eq_left']
                    try rfl
                · rw [h8] at hK
                  try simp (maxSteps := 1000000) only [seval]
                  apply hK
                  simp only [Tryz.results14, retK, ares, Bool.and_true, Bool.true_and, AV.ofResults, St.trunc, q00, q01, List.getD_cons_zero, List.getD_cons_succ, List.take_zero, List.map_nil, true_and, and_true, List.cons.injEq, exists_eq_left']
                  try rfl
              · rw [h5, if_pos rfl] at hK
                try simp (maxSteps := 1000000) only [seval]
                refine q1h tyOk (α := Nat) 1 [1, 47, 48, 49] (fun i => i ≤ o.us.length ∧ badN (o.us.take i) = false)
                  (fun i => ⟨[.any, .ptr 0 0, .any, .any, .any, .any, .any, .any, .any, .any, .any, .any, .any, .any, .any, .any, .any, .any, .any, .any, .any, .any, .any, .any, .any, .any, .any, .any, .any, .any, .any, .any, .any, .any, .any, .any, .any, .any, .any, .any, .any, .any, .any, .any, .any, .any, .any, .sl 1 (o.us.map fun x => str x), i64 (o.us.map fun x => str x).length, i64 i, .any, .any, .any, .any, .any, .any, .any, .any, .any, .any, .any, .any, .any, .any, .any], [.box [i64 o.kind, str o.u, i64 o.id, i64 o.st, i64 o.pr, u64 o.ttl, .sl 1 (o.us.map fun x => str x)]]⟩)
                  (fun i => o.us.length - i) 0 (Nat.zero_le _) ⟨Nat.zero_le _, rfl⟩ rfl ?_
                rintro i ⟨hi, hbad⟩
                try simp (maxSteps := 1000000) only [seval, List.length_map]
                (first | refine q0g ?_ ?_ | refine q0k ?_ ?_ | refine q0l ?_ ?_ | refine q0m ?_ ?_ | refine q0h ?_ ?_) <;> intro hc
                · have hlt : i < o.us.length := by simpa using hc
                  have c1 : (0 : Int) ≤ (i : Int) ∧ Int.toNat (i : Int) < o.us.length := by omega
                  have eg : (o.us.map fun x => str x).getD (Int.toNat (i : Int)) .any = str o.us[i] := by
                    simp [List.getD_eq_getElem?_getD, hlt]
                  have ew : IntKind.i64.wrap ((i : Int) + 1) = ((i + 1 : Nat) : Int) := by rw [wrap_i64 (by omega) (by omega)]; rfl
                  have hn := bad_next hlt
                  try simp (maxSteps := 1000000) only [seval, c1, eg, List.length_map]
                  (refine q07 (q43 o.us[i]) rfl ?_; rintro _ rfl)
                  try simp (maxSteps := 1000000) only [seval]
                  cases hb : nameB o.us[i]
                  · have hbt : badN o.us = true := by
                      rw [badN, List.any_eq_true]
                      exact ⟨o.us[i], List.getElem_mem hlt, by rw [hb]; rfl⟩
                    rw [hbt, Bool.true_or] at hK
                    try simp (maxSteps := 1000000) only [seval]
                    apply hK
                    simp only [Tryz.results14, retK, ares, Bool.and_true, Bool.true_and, AV.ofResults, St.trunc, q00, q01, List.getD_cons_zero, List.getD_cons_succ, List.take_zero, List.map_nil, true_and, and_true, List.cons.injEq, exists_eq_left']
                    try rfl
                  · try simp (maxSteps := 1000000) only [seval, ew]
                    simp only [q0p, St.trunc, St.keep, q00, q01, AB.trunc, keepV, List.elem_cons, List.elem_nil, List.take_succ_cons, List.take_zero, List.map_cons, List.map_nil, Nat.reduceAdd, Nat.reduceBEq, Nat.reduceLeDiff, Nat.zero_add, Bool.false_eq_true, ↓reduceIte]
                    exact ⟨i + 1, ⟨hlt, by rw [hn, hbad, hb]; rfl⟩, by omega, by first | rfl | simp⟩
                · have hge : i = o.us.length := by have : ¬ ((i : Int) < (o.us.length : Int)) := by simpa using hc
                                                   omega
                  subst hge
                  rw [List.take_length] at hbad
                  rw [hbad, Bool.false_or] at hK
                  try simp (maxSteps := 1000000) only [seval, List.length_map]
                  (refine q07 (q2t o.us.length 1 8) rfl ?_; rintro _ rfl)
                  try simp (maxSteps := 1000000) only [seval]
                  apply hK
                  simp only [Tryz.results14, retK, ares, Bool.and_true, Bool.true_and, AV.ofResults, St.trunc, q00, q01, List.getD_cons_zero, List.getD_cons_succ, List.take_zero, List.map_nil, true_and, and_true, List.cons.injEq, exists_eq_left']
                  try rfl
            · rw [h4, h6, h7, if_pos (by rfl)] at hK
              try simp (maxSteps := 1000000) only [seval]
              (refine q07 (q43 o.u) rfl ?_; rintro _ rfl)
              try simp (maxSteps := 1000000) only [seval]
              apply hK
              simp only [Tryz.results14, retK, ares, Bool.and_true, Bool.true_and, AV.ofResults, St.trunc, q00, q01, List.getD_cons_zero, List.getD_cons_succ, List.take_zero, List.map_nil, true_and, and_true, List.cons.injEq, exists_eq_left']
              try rfl
          · rw [h4, h6, if_pos (by rfl)] at hK
            try simp (maxSteps := 1000000) only [seval]
            (refine q07 (q43 o.u) rfl ?_; rintro _ rfl)
            try simp (maxSteps := 1000000) only [seval]
            apply hK
            simp only [Tryz.results14, retK, ares, Bool.and_true, Bool.true_and, AV.ofResults, St.trunc, q00, q01, List.getD_cons_zero, List.getD_cons_succ, List.take_zero, List.map_nil, true_and, and_true, List.cons.injEq, exists_eq_left']
            try rfl
        · rw [h4, if_pos (by rfl)] at hK
          try simp (maxSteps := 1000000) only [seval]
          (refine q07 (q43 o.u) rfl ?_; rintro _ rfl)
          try simp (maxSteps := 1000000) only [seval]
          apply hK
          simp only [Tryz.results14, retK, ares, Bool.and_true, Bool.true_and, AV.ofResults, St.trunc, q00, q01, List.getD_cons_zero, List.getD_cons_succ, List.take_zero, List.map_nil, true_and, and_true, List.cons.injEq, exists_eq_left']
          try rfl
      · rw [h2, h3, if_pos (by rfl)] at hK
        try simp (maxSteps := 1000000) only [seval, h3]
        (refine q07 (q43 o.u) rfl ?_; rintro _ rfl)
        try simp (maxSteps := 1000000) only [seval]
        cases hn : nameB o.u
        · rw [hn] at hK
          try simp (maxSteps := 1000000) only [seval]
          apply hK
          simp only [Tryz.results14, retK, ares, Bool.and_true, Bool.true_and, AV.ofResults, St.trunc, q00, q01, List.getD_cons_zero, List.getD_cons_succ, List.take_zero, List.map_nil, true_and, and_true, List.cons.injEq, exists_eq_left']
          try rfl
        · rw [hn] at hK
          try simp (maxSteps := 1000000) only [seval]
          (refine q07 (q2t o.id 0 255) rfl ?_; rintro _ rfl)
          try simp (maxSteps := 1000000) only [seval]
          apply hK
          simp only [Tryz.results14, retK, ares, Bool.and_true, Bool.true_and, AV.ofResults, St.trunc, q00, q01, List.getD_cons_zero, List.getD_cons_succ, List.take_zero, List.map_nil, true_and, and_true, List.cons.injEq, exists_eq_left']
          try rfl
    · rw [h2, if_pos (by rfl)] at hK
      try simp (maxSteps := 1000000) only [seval]
      (refine q07 (q43 o.u) rfl ?_; rintro _ rfl)
      try simp (maxSteps := 1000000) only [seval]
      cases hn : nameB o.u
      · rw [hn] at hK
        try simp (maxSteps := 1000000) only [seval]
        apply hK
        simp only [Tryz.results14, retK, ares, Bool.and_true, Bool.true_and, AV.ofResults, St.trunc, q00, q01, List.getD_cons_zero, List.getD_cons_succ, List.take_zero, List.map_nil, true_and, and_true, List.cons.injEq, exists_eq_left']
        try rfl
      · rw [hn] at hK
        try simp (maxSteps := 1000000) only [seval]
        (refine q07 (q2t o.id 0 255) rfl ?_; rintro _ rfl)
        try simp (maxSteps := 1000000) only [seval]
        apply hK
        simp only [Tryz.results14, retK, ares, Bool.and_true, Bool.true_and, AV.ofResults, St.trunc, q00, q01, List.getD_cons_zero, List.getD_cons_succ, List.take_zero, List.map_nil, true_and, and_true, List.cons.injEq, exists_eq_left']
        try rfl
  · rw [h1, if_pos rfl] at hK
    try simp (maxSteps := 1000000) only [seval]
    (refine q07 (q43 o.u) rfl ?_; rintro _ rfl)
    try simp (maxSteps := 1000000) only [seval]
    cases hn : nameB o.u
    · rw [hn] at hK
      try simp (maxSteps := 1000000) only [seval]
      apply hK
      simp only [Tryz.results14, retK, ares, Bool.and_true, Bool.true_and, AV.ofResults, St.trunc, q00, q01, List.getD_cons_zero, List.getD_cons_succ, List.take_zero, List.map_nil, true_and, and_true, List.cons.injEq, exists_eq_left']
      try rfl
    · rw [hn] at hK
      try simp (maxSteps := 1000000) only [seval]
      (refine q07 (sess_Right o.id o.st o.pr) rfl ?_; rintro _ rfl)
      try simp (maxSteps := 1000000) only [seval]
      apply hK
      simp only [Tryz.results14, retK, ares, Bool.and_true, Bool.true_and, AV.ofResults, St.trunc, q00, q01, List.getD_cons_zero, List.getD_cons_succ, List.take_zero, List.map_nil, true_and, and_true, List.cons.injEq, exists_eq_left']
      try rfl
end Go.Proofs.YtdkcpcflfnakdaaGreat
