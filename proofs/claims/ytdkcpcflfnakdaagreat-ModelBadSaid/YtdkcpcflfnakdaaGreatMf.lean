/- Books: how many sessions are kept; a presence. -/
import Derived.Test.YtdkcpcflfnakdaaGreatMe
import Derived.Test.YtdkcpcflfnakdaaGreatMc
namespace Go.Proofs.YtdkcpcflfnakdaaGreat
open Go Go.Proofs.YtdkcpcflfnakdaaGreat.Sym
set_option maxRecDepth 100000
set_option maxHeartbeats 1000000
set_option linter.unusedSimpArgs false
set_option linter.unusedVariables false

theorem sess_Right (id st pr : Int) : PCall P 35 [i64 id, i64 st, i64 pr] (fun x => x = bool (decide (0 ≤ id) && decide (id ≤ 255) && decide (1 ≤ st) && decide (st ≤ 9) && decide (0 ≤ pr) && decide (pr ≤ 9))) := by
  refine q0u tyOk Tryz.func35 rfl rfl ?_
  intro K hK
  simp only [Tryz.ntmps35, List.length_cons, List.length_nil, Nat.reduceAdd, Nat.reduceSub, List.replicate, List.cons_append, List.nil_append]
  try simp (maxSteps := 1000000) only [seval, -Int.reduceToNat, -Int.reduceNatCast, -Int.reduceNatCast', -Nat.reduceSubDiff, T, eqc36, eqc44, eqc49, eqc52, q00, q01, q02, q03]
  (first | refine q0a ?_ ?_ | refine q0g ?_ ?_ | refine q0h ?_ ?_ | refine q0i ?_ ?_ | refine q0b ?_ ?_) <;> intro h1
  rotate_left
  · try simp (maxSteps := 1000000) only [seval, -Int.reduceToNat, -Int.reduceNatCast, -Int.reduceNatCast', -Nat.reduceSubDiff, T, eqc36, eqc44, eqc49, eqc52, q00, q01, q02, q03]
    apply hK
    simp only [Tryz.results35, retK, ares, List.take_nil, Bool.and_true, Bool.true_and, AV.ofResults, St.trunc, q04, q05, List.getD_cons_zero, List.getD_cons_succ, List.map_nil, true_and, and_true, List.cons.injEq, exists_eq_left']
    simp only [h1, Bool.false_and]
  try simp (maxSteps := 1000000) only [seval, -Int.reduceToNat, -Int.reduceNatCast, -Int.reduceNatCast', -Nat.reduceSubDiff, T, eqc36, eqc44, eqc49, eqc52, q00, q01, q02, q03]
  (first | refine q0a ?_ ?_ | refine q0g ?_ ?_ | refine q0h ?_ ?_ | refine q0i ?_ ?_ | refine q0b ?_ ?_) <;> intro h2
  rotate_left
  · try simp (maxSteps := 1000000) only [seval, -Int.reduceToNat, -Int.reduceNatCast, -Int.reduceNatCast', -Nat.reduceSubDiff, T, eqc36, eqc44, eqc49, eqc52, q00, q01, q02, q03]
    apply hK
    simp only [Tryz.results35, retK, ares, List.take_nil, Bool.and_true, Bool.true_and, AV.ofResults, St.trunc, q04, q05, List.getD_cons_zero, List.getD_cons_succ, List.map_nil, true_and, and_true, List.cons.injEq, exists_eq_left']
    simp only [h1, h2, Bool.false_and, Bool.and_false]
  try simp (maxSteps := 1000000) only [seval, -Int.reduceToNat, -Int.reduceNatCast, -Int.reduceNatCast', -Nat.reduceSubDiff, T, eqc36, eqc44, eqc49, eqc52, q00, q01, q02, q03]
  (first | refine q0a ?_ ?_ | refine q0g ?_ ?_ | refine q0h ?_ ?_ | refine q0i ?_ ?_ | refine q0b ?_ ?_) <;> intro h3
  rotate_left
  · try simp (maxSteps := 1000000) only [seval, -Int.reduceToNat, -Int.reduceNatCast, -Int.reduceNatCast', -Nat.reduceSubDiff, T, eqc36, eqc44, eqc49, eqc52, q00, q01, q02, q03]
    apply hK
    simp only [Tryz.results35, retK, ares, List.take_nil, Bool.and_true, Bool.true_and, AV.ofResults, St.trunc, q04, q05, List.getD_cons_zero, List.getD_cons_succ, List.map_nil, true_and, and_true, List.cons.injEq, exists_eq_left']
    simp only [h1, h2, h3, Bool.and_true, Bool.false_and, Bool.and_false]
  try simp (maxSteps := 1000000) only [seval, -Int.reduceToNat, -Int.reduceNatCast, -Int.reduceNatCast', -Nat.reduceSubDiff, T, eqc36, eqc44, eqc49, eqc52, q00, q01, q02, q03]
  (first | refine q0a ?_ ?_ | refine q0g ?_ ?_ | refine q0h ?_ ?_ | refine q0i ?_ ?_ | refine q0b ?_ ?_) <;> intro h4
  rotate_left
  · try simp (maxSteps := 1000000) only [seval, -Int.reduceToNat, -Int.reduceNatCast, -Int.reduceNatCast', -Nat.reduceSubDiff, T, eqc36, eqc44, eqc49, eqc52, q00, q01, q02, q03]
    apply hK
    simp only [Tryz.results35, retK, ares, List.take_nil, Bool.and_true, Bool.true_and, AV.ofResults, St.trunc, q04, q05, List.getD_cons_zero, List.getD_cons_succ, List.map_nil, true_and, and_true, List.cons.injEq, exists_eq_left']
    simp only [h1, h2, h3, h4, Bool.and_true, Bool.false_and, Bool.and_false]
  try simp (maxSteps := 1000000) only [seval, -Int.reduceToNat, -Int.reduceNatCast, -Int.reduceNatCast', -Nat.reduceSubDiff, T, eqc36, eqc44, eqc49, eqc52, q00, q01, q02, q03]
  (first | refine q0a ?_ ?_ | refine q0g ?_ ?_ | refine q0h ?_ ?_ | refine q0i ?_ ?_ | refine q0b ?_ ?_) <;> intro h5
  rotate_left
  · try simp (maxSteps := 1000000) only [seval, -Int.reduceToNat, -Int.reduceNatCast, -Int.reduceNatCast', -Nat.reduceSubDiff, T, eqc36, eqc44, eqc49, eqc52, q00, q01, q02, q03]
    apply hK
    simp only [Tryz.results35, retK, ares, List.take_nil, Bool.and_true, Bool.true_and, AV.ofResults, St.trunc, q04, q05, List.getD_cons_zero, List.getD_cons_succ, List.map_nil, true_and, and_true, List.cons.injEq, exists_eq_left']
    simp only [h1, h2, h3, h4, h5, Bool.and_true, Bool.false_and, Bool.and_false]
  try simp (maxSteps := 1000000) only [seval, -Int.reduceToNat, -Int.reduceNatCast, -Int.reduceNatCast', -Nat.reduceSubDiff, T, eqc36, eqc44, eqc49, eqc52, q00, q01, q02, q03]
  apply hK
  simp only [Tryz.results35, retK, ares, List.take_nil, Bool.and_true, Bool.true_and, AV.ofResults, St.trunc, q04, q05, List.getD_cons_zero, List.getD_cons_succ, List.map_nil, true_and, and_true, List.cons.injEq, exists_eq_left']
  simp only [h1, h2, h3, h4, h5, Bool.true_and, Bool.and_true]

theorem presence_call (n : Nat) (m : Bk) (u : ByteArray) (now : Int) (h : bookOk n m) (hn : n ≤ 700000) :
    PCall P 46 [q1c m, str u, u64 now] (fun x => x = .agg [i64 (ofP (wasOf m u).l now).st, i64 (ofP (wasOf m u).l now).pr, i64 (ofP (wasOf m u).l now).n]) := by
  refine q0u tyOk Tryz.func46 rfl rfl ?_
  intro K hK
  simp only [Tryz.ntmps46, List.length_cons, List.length_nil, Nat.reduceAdd, Nat.reduceSub, List.replicate, List.cons_append, List.nil_append]
  have hml := h.2.1
  have hw := (was_ok h u).2
  try simp (maxSteps := 1000000) only [seval, -Int.reduceToNat, -Int.reduceNatCast, -Int.reduceNatCast', -Nat.reduceSubDiff, T, eqc36, eqc44, eqc49, eqc52, q00, q01, q02, q03, q1c]
  (refine q06 (get_open m u h.1 (by omega)) rfl ?_; rintro _ rfl)
  try simp (maxSteps := 1000000) only [seval, -Int.reduceToNat, -Int.reduceNatCast, -Int.reduceNatCast', -Nat.reduceSubDiff, T, eqc36, eqc44, eqc49, eqc52, q00, q01, q02, q03]
  (refine q06 (of_call (wasOf m u).l now (by omega)) rfl ?_; rintro _ rfl)
  try simp (maxSteps := 1000000) only [seval, -Int.reduceToNat, -Int.reduceNatCast, -Int.reduceNatCast', -Nat.reduceSubDiff, T, eqc36, eqc44, eqc49, eqc52, q00, q01, q02, q03]
  apply hK
  simp only [Tryz.results46, retK, ares, List.take_nil, Bool.and_true, Bool.true_and, AV.ofResults, St.trunc, q04, q05, aload, acell, T, TI.isAgg, List.getD_cons_zero, List.getD_cons_succ, List.take_zero, List.take_succ_cons, List.drop_zero, List.map_nil, List.getElem?_cons_zero, List.getElem?_cons_succ, List.length_cons, List.length_nil, Nat.reduceAdd, Nat.le_refl, true_and, and_true, ↓reduceIte, List.cons.injEq, exists_eq_left']
  try rfl
end Go.Proofs.YtdkcpcflfnakdaaGreat
namespace Go.Proofs.YtdkcpcflfnakdaaGreat
open Go Go.Proofs.YtdkcpcflfnakdaaGreat.Sym
set_option maxRecDepth 100000
set_option maxHeartbeats 1000000
set_option maxHeartbeats 1000000
set_option linter.unusedSimpArgs false
set_option linter.unusedVariables false

def stN (n : Nat) (u : ByteArray) : Nat := (strI n u).toNat
theorem stN_lt {n : Nat} (h1 : 1 ≤ n) (h2 : n ≤ 8) (u : ByteArray) : stN n u < n ∧ strI n u = (stN n u : Int) := by
  have := strI_ok (n := n) (by omega) (by omega) u
  unfold stN
  omega
theorem n_cases {n : Nat} (h1 : 1 ≤ n) (h2 : n ≤ 8) : n = 1 ∨ n = 2 ∨ n = 3 ∨ n = 4 ∨ n = 5 ∨ n = 6 ∨ n = 7 ∨ n = 8 := by omega
/-- A table that may be. -/
structure MOk (n B : Nat) (M : Md) : Prop where
  n1 : 1 ≤ n
  n8 : n ≤ 8
  s : M.c.s = n
  b : ∀ j, bookOk B (M.b j)
  m : ∀ j, q2o (M.f j).m
  ml : ∀ j, (M.f j).m.length ≤ B
  q : ∀ j k, ((M.f j).q k).1.length ≤ 100
  B : B ≤ 900
theorem model_stripe {n pad B : Nat} {M : Md} (h : MOk n B M) (u : ByteArray) (hl : u.size ≤ 1000000) : ACall P 42 (modM n pad M) [.ptr 0 0, str u] (fun x m' => x = i64 (stN n u : Nat) ∧ m' = modM n pad M) := by
  refine acall_go tyOk Tryz.func42 rfl rfl ?_
  intro K hK
  rw [q0c] at hK ⊢
  simp only [Tryz.ntmps42, List.length_cons, List.length_nil, Nat.reduceAdd, Nat.reduceSub, List.replicate, List.cons_append, List.nil_append]
  have hs := stN_lt h.n1 h.n8 u
  have hS := hash_Stripe u M.c.s hl (by rw [h.s]; have := h.n1; omega) (by rw [h.s]; have := h.n8; omega)
  rw [h.s, hs.2] at hS
  try simp (maxSteps := 1000000) only [seval, -Int.reduceToNat, -Int.reduceNatCast, -Int.reduceNatCast', -Nat.reduceSubDiff, T, eqc36, eqc44, eqc49, eqc52, q00, q01, q02, q03, mm_0, mm_1, mm_2, mm_0n, mm_1n, mm_2n, q0o, q0l, q0p, q0q, q0r, mm_s0, mm_s1, mm_s2, mm_s3, q0k, q0f, q0c, q0j, q0s, q0d, q08, q0e, q09, Nat.add_assoc, AB.calm, kpX, kpM, ml_z, ml_1, ml_l, ml_r, ml_b, ml_le, ml_0, ml_0k, Nat.one_ne_zero, List.all_cons, List.all_nil, h.s]
  (refine q06 hS rfl ?_; rintro _ rfl)
  try simp (maxSteps := 1000000) only [seval, -Int.reduceToNat, -Int.reduceNatCast, -Int.reduceNatCast', -Nat.reduceSubDiff, T, eqc36, eqc44, eqc49, eqc52, q00, q01, q02, q03, mm_0, mm_1, mm_2, mm_0n, mm_1n, mm_2n, q0o, q0l, q0p, q0q, q0r, mm_s0, mm_s1, mm_s2, mm_s3, q0k, q0f, q0c, q0j, q0s, q0d, q08, q0e, q09, Nat.add_assoc, AB.calm, kpX, kpM, ml_z, ml_1, ml_l, ml_r, ml_b, ml_le, ml_0, ml_0k, Nat.one_ne_zero, List.all_cons, List.all_nil]
  apply hK
  simp only [Tryz.results42, retK, ares, Bool.and_true, Bool.true_and, AV.ofResults, St.trunc, q04, q05, List.getD_cons_zero, List.getD_cons_succ, true_and, and_true, List.cons.injEq, exists_eq_left']
  rw [mm_retn]
theorem stripe_in {n pad B : Nat} {M : Md} (h : MOk n B M) (u : ByteArray) (hl : u.size ≤ 1000000) (r : List AB) : ACall P 42 (modM n pad M ++ r) [.ptr 0 0, str u] (fun x m' => x = i64 (stN n u : Nat) ∧ m' = modM n pad M ++ r) :=
  mod_in (model_stripe h u hl) rfl (by rintro x m' ⟨rfl, rfl⟩; exact ⟨rfl, M, rfl, rfl, rfl⟩)
def presOf (n : Nat) (M : Md) (u : ByteArray) : Pr := ofP (wasOf (M.b (stN n u)) u).l M.t.now
theorem model_Presence {n pad B : Nat} {M : Md} (h : MOk n B M) (u : ByteArray) (hl : u.size ≤ 1000000) : ACall P 21 (modM n pad M) [.ptr 0 0, str u] (fun x m' => x = (presOf n M u).av ∧ m' = modM n pad M) := by
  refine acall_go tyOk Tryz.func21 rfl rfl ?_
  intro K hK
  rw [q0c] at hK ⊢
  simp only [Tryz.ntmps21, List.length_cons, List.length_nil, Nat.reduceAdd, Nat.reduceSub, List.replicate, List.cons_append, List.nil_append]
  have hs := (stN_lt h.n1 h.n8 u).1
  have hb := bk_at M.b hs
  have c1 : (0 : Int) ≤ ((stN n u : Nat) : Int) ∧ Int.toNat ((stN n u : Nat) : Int) < n := by omega
  have hP := presence_call B (M.b (stN n u)) u M.t.now (h.b _) (by have := h.B; omega)
  unfold q1c at hP
  try simp (maxSteps := 1000000) only [seval, -Int.reduceToNat, -Int.reduceNatCast, -Int.reduceNatCast', -Nat.reduceSubDiff, T, eqc36, eqc44, eqc49, eqc52, q00, q01, q02, q03, mm_0, mm_1, mm_2, mm_0n, mm_1n, mm_2n, q0o, q0l, q0p, q0q, q0r, mm_s0, mm_s1, mm_s2, mm_s3, q0k, q0f, q0c, q0j, q0s, q0d, q08, q0e, q09, Nat.add_assoc, AB.calm, kpX, kpM, ml_z, ml_1, ml_l, ml_r, ml_b, ml_le, ml_0, ml_0k, Nat.one_ne_zero, List.all_cons, List.all_nil]
  refine q0x tyOk (by rfl) (by simp only [q0j, List.length_cons, List.length_nil, mlen]; omega) (by kernel_rfl) rfl ?_
  try simp (maxSteps := 1000000) only [seval, -Int.reduceToNat, -Int.reduceNatCast, -Int.reduceNatCast', -Nat.reduceSubDiff, T, eqc36, eqc44, eqc49, eqc52, q00, q01, q02, q03, mm_0, mm_1, mm_2, mm_0n, mm_1n, mm_2n, q0o, q0l, q0p, q0q, q0r, mm_s0, mm_s1, mm_s2, mm_s3, q0k, q0f, q0c, q0j, q0s, q0d, q08, q0e, q09, Nat.add_assoc, AB.calm, kpX, kpM, ml_z, ml_1, ml_l, ml_r, ml_b, ml_le, ml_0, ml_0k, Nat.one_ne_zero, List.all_cons, List.all_nil]
  refine drawCall_wide (stripe_in h u hl _) (by rfl) ?_
  try simp (maxSteps := 1000000) only [seval, -Int.reduceToNat, -Int.reduceNatCast, -Int.reduceNatCast', -Nat.reduceSubDiff, T, eqc36, eqc44, eqc49, eqc52, q00, q01, q02, q03, mm_0, mm_1, mm_2, mm_0n, mm_1n, mm_2n, q0o, q0l, q0p, q0q, q0r, mm_s0, mm_s1, mm_s2, mm_s3, q0k, q0f, q0c, q0j, q0s, q0d, q08, q0e, q09, Nat.add_assoc, AB.calm, kpX, kpM, ml_z, ml_1, ml_l, ml_r, ml_b, ml_le, ml_0, ml_0k, Nat.one_ne_zero, List.all_cons, List.all_nil, c1, hb, bkRow_len]
  refine q2m hP rfl ?_
  try simp (maxSteps := 1000000) only [seval, -Int.reduceToNat, -Int.reduceNatCast, -Int.reduceNatCast', -Nat.reduceSubDiff, T, eqc36, eqc44, eqc49, eqc52, q00, q01, q02, q03, mm_0, mm_1, mm_2, mm_0n, mm_1n, mm_2n, q0o, q0l, q0p, q0q, q0r, mm_s0, mm_s1, mm_s2, mm_s3, q0k, q0f, q0c, q0j, q0s, q0d, q08, q0e, q09, Nat.add_assoc, AB.calm, kpX, kpM, ml_z, ml_1, ml_l, ml_r, ml_b, ml_le, ml_0, ml_0k, Nat.one_ne_zero, List.all_cons, List.all_nil]
  refine ⟨by kernel_rfl, ?_⟩
  try simp (maxSteps := 1000000) only [seval, -Int.reduceToNat, -Int.reduceNatCast, -Int.reduceNatCast', -Nat.reduceSubDiff, T, eqc36, eqc44, eqc49, eqc52, q00, q01, q02, q03, mm_0, mm_1, mm_2, mm_0n, mm_1n, mm_2n, q0o, q0l, q0p, q0q, q0r, mm_s0, mm_s1, mm_s2, mm_s3, q0k, q0f, q0c, q0j, q0s, q0d, q08, q0e, q09, Nat.add_assoc, AB.calm, kpX, kpM, ml_z, ml_1, ml_l, ml_r, ml_b, ml_le, ml_0, ml_0k, Nat.one_ne_zero, List.all_cons, List.all_nil]
  apply hK
  simp only [Tryz.results21, retK, ares, Bool.and_true, AV.ofResults, St.trunc, q04, q05, aload, acell, T, TI.isAgg, List.getD_cons_zero, List.getD_cons_succ, List.drop_zero, and_true, ↓reduceIte, List.cons.injEq, exists_eq_left']
  simp only [q0o, List.getElem?_cons_zero, List.take_succ_cons, List.take_zero, mm_ret, and_true, true_and, List.length_cons, List.length_nil, q04, q05, Nat.reduceAdd, Nat.le_refl]
  rfl
end Go.Proofs.YtdkcpcflfnakdaaGreat
namespace Go.Proofs.YtdkcpcflfnakdaaGreat
open Go Go.Proofs.YtdkcpcflfnakdaaGreat.Sym
set_option maxRecDepth 100000
set_option maxHeartbeats 1000000
set_option maxHeartbeats 1000000
set_option linter.unusedSimpArgs false
set_option linter.unusedVariables false

def Md.take (M : Md) : Md := { M with t := ⟨M.t.now, addW M.t.seq 1, M.t.cl⟩ }
def Md.shut (M : Md) : Md := { M with t := ⟨M.t.now, M.t.seq, true⟩ }
theorem model_take (n pad : Nat) (M : Md) : ACall P 62 (modM n pad M) [.ptr 0 0] (fun x m' => x = u64 (addW M.t.seq 1) ∧ m' = modM n pad M.take) := by
  refine acall_go tyOk Tryz.func62 rfl rfl ?_
  intro K hK
  rw [q0c] at hK ⊢
  simp only [Tryz.ntmps62, List.length_cons, List.length_nil, Nat.reduceAdd, Nat.reduceSub, List.replicate, List.cons_append, List.nil_append]
  try simp (maxSteps := 1000000) only [seval, -Int.reduceToNat, -Int.reduceNatCast, -Int.reduceNatCast', -Nat.reduceSubDiff, T, eqc36, eqc44, eqc49, eqc52, q00, q01, q02, q03, mm_0, mm_1, mm_2, mm_0n, mm_1n, mm_2n, q0o, q0l, q0p, q0q, q0r, mm_s0, mm_s1, mm_s2, mm_s3, q0k, q0f, q0c, q0j, q0s, q0d, q08, q0e, q09, Nat.add_assoc, AB.calm, kpX, kpM, ml_z, ml_1, ml_l, ml_r, ml_b, ml_le, ml_0, ml_0k, Nat.one_ne_zero, List.all_cons, List.all_nil]
  (refine q06 (tick_Take M.t) rfl ?_; rintro _ rfl)
  try simp (maxSteps := 1000000) only [seval, -Int.reduceToNat, -Int.reduceNatCast, -Int.reduceNatCast', -Nat.reduceSubDiff, T, eqc36, eqc44, eqc49, eqc52, q00, q01, q02, q03, mm_0, mm_1, mm_2, mm_0n, mm_1n, mm_2n, q0o, q0l, q0p, q0q, q0r, mm_s0, mm_s1, mm_s2, mm_s3, q0k, q0f, q0c, q0j, q0s, q0d, q08, q0e, q09, Nat.add_assoc, AB.calm, kpX, kpM, ml_z, ml_1, ml_l, ml_r, ml_b, ml_le, ml_0, ml_0k, Nat.one_ne_zero, List.all_cons, List.all_nil]
  apply hK
  simp only [Tryz.results62, retK, ares, Bool.and_true, Bool.true_and, AV.ofResults, St.trunc, q04, q05, List.getD_cons_zero, List.getD_cons_succ, true_and, and_true, List.cons.injEq, exists_eq_left']
  simp only [mm_retn]
  rfl
/-- What stands behind the row of feeds. -/
theorem ptr_load {n pad s : Nat} (h : s < n) : (List.drop (Int.toNat (s : Int) * 1) (ptrs n pad)).headD .any = .ptr (fb s) 0 ∧ 0 < (List.drop (Int.toNat (s : Int) * 1) (ptrs n pad)).length := by
  rw [Int.toNat_natCast]; exact ptr_drop h
def Md.tell (M : Md) (s : Nat) (l : List Chg) (seq : Int) : Md := M.setF s (tellF (M.f s) l seq)
theorem Tell_in {n pad B s : Nat} {M : Md} (h : MOk n B M) (r : List AB) (hr : r.all (AB.calm n) = true) (hs : s < n) (l : List Chg) (seq : Int) (hl : l.length ≤ 50000) :
    q1b P (kpM n) 64 (modM n pad M ++ r) [.ptr (fb s) 0, .sl 7 (chgs l), u64 seq] (fun x m' => m' = modM n pad (M.tell s l seq) ++ r) :=
  feed_in M r hs (feed_Tell (M.f s) l seq (h.m s) (by have := h.ml s; have := h.B; omega) hl (fun k => by have := h.q s k; omega)).toX rfl rfl hr (by rintro x m' rfl; exact ⟨_, rfl, rfl⟩)
end Go.Proofs.YtdkcpcflfnakdaaGreat
namespace Go.Proofs.YtdkcpcflfnakdaaGreat
open Go Go.Proofs.YtdkcpcflfnakdaaGreat.Sym
set_option maxRecDepth 100000
set_option maxHeartbeats 1000000
set_option maxHeartbeats 1000000
set_option linter.unusedSimpArgs false
set_option linter.unusedVariables false

def slO (sz : Nat) : Option (List AV) → AV
  | none => .v (.slice none 0 0)
  | some l => .sl sz l
def prs (l : List Pr) : List AV := l.map Pr.av
structure Rp where
  err : Int
  vals : Option (List Pr)
  evs : Option (List Ev)
  lost : Bool
def Rp.av (r : Rp) : AV := .agg [i64 r.err, slO 3 (r.vals.map prs), slO 8 (r.evs.map evts), bool r.lost]
def errR (e : Int) : Rp := ⟨e, none, none, false⟩

def Md.write (n : Nat) (M : Md) (o : Opb) : Md :=
  if M.t.cl = true then M.take else (M.take.setB (stN n o.u) (writeB (M.b (stN n o.u)) o M.t.now M.c.k)).tell (stN n o.u) (writeC (M.b (stN n o.u)) o M.t.now M.c.k) (addW M.t.seq 1)
def writeR (n : Nat) (M : Md) (o : Opb) : Rp := if M.t.cl = true then errR 5 else errR (writeL (M.b (stN n o.u)) o M.t.now M.c.k).2
theorem mok_write {n B : Nat} {M : Md} (h : MOk n B M) (o : Opb) (hB : B + 1 ≤ 900) : MOk n (B + 1) (M.take.setB (stN n o.u) (writeB (M.b (stN n o.u)) o M.t.now M.c.k)) :=
  ⟨h.n1, h.n8, h.s, fun j => by
    simp only [Md.setB]
    split
    · exact book_write (h.b _) o _ _
    · exact (h.b j).mono (Nat.le_succ _), h.m, fun j => Nat.le_succ_of_le (h.ml j), h.q, hB⟩
theorem model_write {n pad B : Nat} {M : Md} (h : MOk n B M) (hB : B + 1 ≤ 900) (o : Opb) (hu : o.u.size ≤ 1000000) : q0y P 3 39 (modM n pad M) [.ptr 0 0, o.av] (fun x m' => x = (writeR n M o).av ∧ m' = modM n pad (M.write n o)) := by
  refine acallN_go tyOk Tryz.func39 rfl rfl (by rw [q0c, mlen]; omega) ?_
  intro K hK
  rw [q0c] at hK
  simp only [Tryz.ntmps39, List.length_cons, List.length_nil, Nat.reduceAdd, Nat.reduceSub, List.replicate, List.cons_append, List.nil_append]
  unfold Md.write writeR at hK
  try simp (maxSteps := 1000000) only [seval, -Int.reduceToNat, -Int.reduceNatCast, -Int.reduceNatCast', -Nat.reduceSubDiff, T, eqc36, eqc44, eqc49, eqc52, q00, q01, q02, q03, mm_0, mm_1, mm_2, mm_0n, mm_1n, mm_2n, q0o, q0l, q0p, q0q, q0r, mm_s0, mm_s1, mm_s2, mm_s3, q0k, q0f, q0c, q0j, q0s, q0d, q08, q0e, q09, Nat.add_assoc, AB.calm, kpX, kpM, ml_z, ml_1, ml_l, ml_r, ml_b, ml_le, ml_0, ml_0k, Nat.one_ne_zero, List.all_cons, List.all_nil, Opb.av]
  refine callG_A (mod_in (model_take n pad M) rfl ?_)
  rintro _ _ ⟨rfl, rfl⟩
  refine ⟨rfl, _, rfl, ?_⟩
  have hs := (stN_lt h.n1 h.n8 o.u).1
  have hM1 := mok_write h o hB
  have hT1 : MOk n B M.take := ⟨h.n1, h.n8, h.s, h.b, h.m, h.ml, h.q, h.B⟩
  have e1 : M.take.t.cl = M.t.cl := rfl
  have e2 : M.take.t.now = M.t.now := rfl
  have e3 : M.take.b = M.b := rfl
  have e4 : M.take.c = M.c := rfl
  have hw := write_call B (M.b (stN n o.u)) o M.t.now M.c.k (h.b _) (by have := h.B; omega)
  have hcl : (writeC (M.b (stN n o.u)) o M.t.now M.c.k).length ≤ 50000 := by have := settleC_len (M.b (stN n o.u)) o.u (writeL (M.b (stN n o.u)) o M.t.now M.c.k).1 M.t.now; unfold writeC; omega
  have hstr := stripe_in (pad := pad) hT1 o.u hu
  generalize M.take = M1 at *
  cases hc : M.t.cl with
  | true =>
    rw [hc, if_pos rfl, if_pos rfl] at hK
    rw [hc] at e1
    try simp (maxSteps := 1000000) only [seval, -Int.reduceToNat, -Int.reduceNatCast, -Int.reduceNatCast', -Nat.reduceSubDiff, T, eqc36, eqc44, eqc49, eqc52, q00, q01, q02, q03, mm_0, mm_1, mm_2, mm_0n, mm_1n, mm_2n, q0o, q0l, q0p, q0q, q0r, mm_s0, mm_s1, mm_s2, mm_s3, q0k, q0f, q0c, q0j, q0s, q0d, q08, q0e, q09, Nat.add_assoc, AB.calm, kpX, kpM, ml_z, ml_1, ml_l, ml_r, ml_b, ml_le, ml_0, ml_0k, Nat.one_ne_zero, List.all_cons, List.all_nil, e1]
    apply hK
    simp only [Tryz.results39, retK, ares, Bool.and_true, AV.ofResults, St.trunc, q04, q05, aload, acell, T, TI.isAgg, List.getD_cons_zero, List.getD_cons_succ, List.drop_zero, and_true, ↓reduceIte, List.cons.injEq, exists_eq_left']
    simp only [q0l, List.getElem?_cons_zero, List.getElem?_cons_succ, List.take_succ_cons, List.take_zero, mm_ret, and_true, true_and, List.length_cons, List.length_nil, q04, q05, Nat.reduceAdd, Nat.le_refl]
    rfl
  | false =>
    rw [hc, if_neg (by decide), if_neg (by decide)] at hK
    rw [hc] at e1
    generalize stN n o.u = k at *
    have hb := bk_at M.b hs
    have c1 : (0 : Int) ≤ ((k : Nat) : Int) ∧ Int.toNat ((k : Nat) : Int) < n := by omega
    unfold q1c at hw
    have hset := fun r => mm_setB (pad := pad) M1 r (writeB (M.b k) o M.t.now M.c.k) hs
    rw [e3] at hset
    obtain ⟨hp1, hp2⟩ := ptr_load (pad := pad) hs
    unfold Opb.av at hw
    try simp (maxSteps := 1000000) only [seval, -Int.reduceToNat, -Int.reduceNatCast, -Int.reduceNatCast', -Nat.reduceSubDiff, T, eqc36, eqc44, eqc49, eqc52, q00, q01, q02, q03, mm_0, mm_1, mm_2, mm_0n, mm_1n, mm_2n, q0o, q0l, q0p, q0q, q0r, mm_s0, mm_s1, mm_s2, mm_s3, q0k, q0f, q0c, q0j, q0s, q0d, q08, q0e, q09, Nat.add_assoc, AB.calm, kpX, kpM, ml_z, ml_1, ml_l, ml_r, ml_b, ml_le, ml_0, ml_0k, Nat.one_ne_zero, List.all_cons, List.all_nil, e1]
    refine callG_A (Sym.ACall.mono (hstr _) ?_)
    rintro _ _ ⟨rfl, rfl⟩
    try simp (maxSteps := 1000000) only [seval, -Int.reduceToNat, -Int.reduceNatCast, -Int.reduceNatCast', -Nat.reduceSubDiff, T, eqc36, eqc44, eqc49, eqc52, q00, q01, q02, q03, mm_0, mm_1, mm_2, mm_0n, mm_1n, mm_2n, q0o, q0l, q0p, q0q, q0r, mm_s0, mm_s1, mm_s2, mm_s3, q0k, q0f, q0c, q0j, q0s, q0d, q08, q0e, q09, Nat.add_assoc, AB.calm, kpX, kpM, ml_z, ml_1, ml_l, ml_r, ml_b, ml_le, ml_0, ml_0k, Nat.one_ne_zero, List.all_cons, List.all_nil]
    refine q0x tyOk (by rfl) (by simp only [q0j, List.length_cons, List.length_nil, mlen]; omega) (by kernel_rfl) rfl ?_
    try simp (maxSteps := 1000000) only [seval, -Int.reduceToNat, -Int.reduceNatCast, -Int.reduceNatCast', -Nat.reduceSubDiff, T, eqc36, eqc44, eqc49, eqc52, q00, q01, q02, q03, mm_0, mm_1, mm_2, mm_0n, mm_1n, mm_2n, q0o, q0l, q0p, q0q, q0r, mm_s0, mm_s1, mm_s2, mm_s3, q0k, q0f, q0c, q0j, q0s, q0d, q08, q0e, q09, Nat.add_assoc, AB.calm, kpX, kpM, ml_z, ml_1, ml_l, ml_r, ml_b, ml_le, ml_0, ml_0k, Nat.one_ne_zero, List.all_cons, List.all_nil, c1, e2, e3, e4, hb, bkRow_len]
    refine q2m hw rfl ?_
    try simp (maxSteps := 1000000) only [seval, -Int.reduceToNat, -Int.reduceNatCast, -Int.reduceNatCast', -Nat.reduceSubDiff, T, eqc36, eqc44, eqc49, eqc52, q00, q01, q02, q03, mm_0, mm_1, mm_2, mm_0n, mm_1n, mm_2n, q0o, q0l, q0p, q0q, q0r, mm_s0, mm_s1, mm_s2, mm_s3, q0k, q0f, q0c, q0j, q0s, q0d, q08, q0e, q09, Nat.add_assoc, AB.calm, kpX, kpM, ml_z, ml_1, ml_l, ml_r, ml_b, ml_le, ml_0, ml_0k, Nat.one_ne_zero, List.all_cons, List.all_nil, c1, hb, bkRow_len]
    refine ⟨by (rcases n_cases h.n1 h.n8 with rfl | rfl | rfl | rfl | rfl | rfl | rfl | rfl <;> kernel_rfl), ?_⟩
    try simp (maxSteps := 1000000) only [seval, -Int.reduceToNat, -Int.reduceNatCast, -Int.reduceNatCast', -Nat.reduceSubDiff, T, eqc36, eqc44, eqc49, eqc52, q00, q01, q02, q03, mm_0, mm_1, mm_2, mm_0n, mm_1n, mm_2n, q0o, q0l, q0p, q0q, q0r, mm_s0, mm_s1, mm_s2, mm_s3, q0k, q0f, q0c, q0j, q0s, q0d, q08, q0e, q09, Nat.add_assoc, AB.calm, kpX, kpM, ml_z, ml_1, ml_l, ml_r, ml_b, ml_le, ml_0, ml_0k, Nat.one_ne_zero, List.all_cons, List.all_nil, c1, hb, bkRow_len]
    refine q0x tyOk (by rfl) (by simp only [q0j, List.length_cons, List.length_nil, mlen]; omega) (by kernel_rfl) rfl ?_
    try simp (maxSteps := 1000000) only [seval, -Int.reduceToNat, -Int.reduceNatCast, -Int.reduceNatCast', -Nat.reduceSubDiff, T, eqc36, eqc44, eqc49, eqc52, q00, q01, q02, q03, mm_0, mm_1, mm_2, mm_0n, mm_1n, mm_2n, q0o, q0l, q0p, q0q, q0r, mm_s0, mm_s1, mm_s2, mm_s3, q0k, q0f, q0c, q0j, q0s, q0d, q08, q0e, q09, Nat.add_assoc, AB.calm, kpX, kpM, ml_z, ml_1, ml_l, ml_r, ml_b, ml_le, ml_0, ml_0k, Nat.one_ne_zero, List.all_cons, List.all_nil, c1, e3, hb, bkRow_len]
    refine ⟨by kernel_rfl, ?_⟩
    try simp (maxSteps := 1000000) only [seval, -Int.reduceToNat, -Int.reduceNatCast, -Int.reduceNatCast', -Nat.reduceSubDiff, T, eqc36, eqc44, eqc49, eqc52, q00, q01, q02, q03, mm_0, mm_1, mm_2, mm_0n, mm_1n, mm_2n, q0o, q0l, q0p, q0q, q0r, mm_s0, mm_s1, mm_s2, mm_s3, q0k, q0f, q0c, q0j, q0s, q0d, q08, q0e, q09, Nat.add_assoc, AB.calm, kpX, kpM, ml_z, ml_1, ml_l, ml_r, ml_b, ml_le, ml_0, ml_0k, Nat.one_ne_zero, List.all_cons, List.all_nil, hset, c1, hp1, hp2]
    refine callG_X (kp := kpM n) (fun b hb => by simp [kpM, hb]) ((Tell_in hM1 _ ?_ hs _ _ hcl).mono ?_)
    · rfl
    rintro x m' rfl
    try simp (maxSteps := 1000000) only [seval, -Int.reduceToNat, -Int.reduceNatCast, -Int.reduceNatCast', -Nat.reduceSubDiff, T, eqc36, eqc44, eqc49, eqc52, q00, q01, q02, q03, mm_0, mm_1, mm_2, mm_0n, mm_1n, mm_2n, q0o, q0l, q0p, q0q, q0r, mm_s0, mm_s1, mm_s2, mm_s3, q0k, q0f, q0c, q0j, q0s, q0d, q08, q0e, q09, Nat.add_assoc, AB.calm, kpX, kpM, ml_z, ml_1, ml_l, ml_r, ml_b, ml_le, ml_0, ml_0k, Nat.one_ne_zero, List.all_cons, List.all_nil]
    apply hK
    simp only [Tryz.results39, retK, ares, Bool.and_true, AV.ofResults, St.trunc, q04, q05, aload, acell, T, TI.isAgg, List.getD_cons_zero, List.getD_cons_succ, List.drop_zero, and_true, ↓reduceIte, List.cons.injEq, exists_eq_left']
    simp only [q0l, List.getElem?_cons_zero, List.getElem?_cons_succ, List.take_succ_cons, List.take_zero, mm_ret, and_true, true_and, List.length_cons, List.length_nil, q04, q05, Nat.reduceAdd, Nat.le_refl]
    rfl
end Go.Proofs.YtdkcpcflfnakdaaGreat
namespace Go.Proofs.YtdkcpcflfnakdaaGreat
open Go Go.Proofs.YtdkcpcflfnakdaaGreat.Sym
set_option maxRecDepth 100000
set_option maxHeartbeats 1000000
set_option linter.unusedSimpArgs false
set_option linter.unusedVariables false

def newM (room : Int) : Nat → List AB
  | 0 => [.box [.v (.slice none 0 0), .v (.slice none 0 0), .v (.pointer none), .v (.pointer none), .v (.pointer none), .v (.pointer none), .v (.pointer none), .v (.pointer none), .v (.pointer none), .v (.pointer none)]]
  | 1 => [.box [.v (.slice none 0 0), .v (.slice none 0 0), .ptr 1 0, .v (.pointer none), .v (.pointer none), .v (.pointer none), .v (.pointer none), .v (.pointer none), .v (.pointer none), .v (.pointer none)], .box [i64 room, .v (.slice none 0 0), bool false]]
  | 2 => [.box [.v (.slice none 0 0), .v (.slice none 0 0), .ptr 1 0, .ptr 2 0, .v (.pointer none), .v (.pointer none), .v (.pointer none), .v (.pointer none), .v (.pointer none), .v (.pointer none)], .box [i64 room, .v (.slice none 0 0), bool false], .box [i64 room, .v (.slice none 0 0), bool false]]
  | 3 => [.box [.v (.slice none 0 0), .v (.slice none 0 0), .ptr 1 0, .ptr 2 0, .ptr 3 0, .v (.pointer none), .v (.pointer none), .v (.pointer none), .v (.pointer none), .v (.pointer none)], .box [i64 room, .v (.slice none 0 0), bool false], .box [i64 room, .v (.slice none 0 0), bool false], .box [i64 room, .v (.slice none 0 0), bool false]]
  | 4 => [.box [.v (.slice none 0 0), .v (.slice none 0 0), .ptr 1 0, .ptr 2 0, .ptr 3 0, .ptr 4 0, .v (.pointer none), .v (.pointer none), .v (.pointer none), .v (.pointer none)], .box [i64 room, .v (.slice none 0 0), bool false], .box [i64 room, .v (.slice none 0 0), bool false], .box [i64 room, .v (.slice none 0 0), bool false], .box [i64 room, .v (.slice none 0 0), bool false]]
  | 5 => [.box [.v (.slice none 0 0), .v (.slice none 0 0), .ptr 1 0, .ptr 2 0, .ptr 3 0, .ptr 4 0, .ptr 5 0, .v (.pointer none), .v (.pointer none), .v (.pointer none)], .box [i64 room, .v (.slice none 0 0), bool false], .box [i64 room, .v (.slice none 0 0), bool false], .box [i64 room, .v (.slice none 0 0), bool false], .box [i64 room, .v (.slice none 0 0), bool false], .box [i64 room, .v (.slice none 0 0), bool false]]
  | 6 => [.box [.v (.slice none 0 0), .v (.slice none 0 0), .ptr 1 0, .ptr 2 0, .ptr 3 0, .ptr 4 0, .ptr 5 0, .ptr 6 0, .v (.pointer none), .v (.pointer none)], .box [i64 room, .v (.slice none 0 0), bool false], .box [i64 room, .v (.slice none 0 0), bool false], .box [i64 room, .v (.slice none 0 0), bool false], .box [i64 room, .v (.slice none 0 0), bool false], .box [i64 room, .v (.slice none 0 0), bool false], .box [i64 room, .v (.slice none 0 0), bool false]]
  | 7 => [.box [.v (.slice none 0 0), .v (.slice none 0 0), .ptr 1 0, .ptr 2 0, .ptr 3 0, .ptr 4 0, .ptr 5 0, .ptr 6 0, .ptr 7 0, .v (.pointer none)], .box [i64 room, .v (.slice none 0 0), bool false], .box [i64 room, .v (.slice none 0 0), bool false], .box [i64 room, .v (.slice none 0 0), bool false], .box [i64 room, .v (.slice none 0 0), bool false], .box [i64 room, .v (.slice none 0 0), bool false], .box [i64 room, .v (.slice none 0 0), bool false], .box [i64 room, .v (.slice none 0 0), bool false]]
  | _ => [.box [.v (.slice none 0 0), .v (.slice none 0 0), .ptr 1 0, .ptr 2 0, .ptr 3 0, .ptr 4 0, .ptr 5 0, .ptr 6 0, .ptr 7 0, .ptr 8 0], .box [i64 room, .v (.slice none 0 0), bool false], .box [i64 room, .v (.slice none 0 0), bool false], .box [i64 room, .v (.slice none 0 0), bool false], .box [i64 room, .v (.slice none 0 0), bool false], .box [i64 room, .v (.slice none 0 0), bool false], .box [i64 room, .v (.slice none 0 0), bool false], .box [i64 room, .v (.slice none 0 0), bool false], .box [i64 room, .v (.slice none 0 0), bool false]]
theorem ring_New1 (room : Int) : ACall P 65 [] [i64 room] (fun x m' => x = .ptr 0 0 ∧ m' = [.box [i64 (max room 0), .v (.slice none 0 0), bool false]]) := by
  refine q0y.toA (q1y tyOk Tryz.func65 rfl rfl (N := 0) (M := 1) (Nat.zero_le _) (by simp) ?_)
  intro K hK
  simp only [Tryz.ntmps65, List.length_cons, List.length_nil, Nat.reduceAdd, Nat.reduceSub, List.replicate, List.cons_append, List.nil_append]
  try simp (maxSteps := 1000000) only [seval, -Int.reduceToNat, -Int.reduceNatCast, -Int.reduceNatCast', -Nat.reduceSubDiff, T, eqc36, eqc44, eqc49, eqc52, q00, q01, q02, q03]
  apply hK
  simp only [Tryz.results65, retK, ares, List.take_nil, Bool.and_true, Bool.true_and, AV.ofResults, St.trunc, q04, q05, AB.trunc, List.getD_cons_zero, List.getD_cons_succ, List.take_succ_cons, List.map_nil, List.map_cons, Nat.reduceLeDiff, true_and, and_true, ↓reduceIte, List.cons.injEq, exists_eq_left']
  rw [show (if 0 > room then 0 else room) = max room 0 by omega]
theorem feed_New0 (room : Int) : ACall P 38 [] [i64 room] (fun x m' => x = .ptr 0 0 ∧ m' = newM (max room 0) 8) := by
  refine q0y.toA (q1y tyOk Tryz.func38 rfl rfl (N := 0) (M := 9) (Nat.zero_le _) (by simp) ?_)
  intro K hK
  simp only [Tryz.ntmps38, List.length_cons, List.length_nil, Nat.reduceAdd, Nat.reduceSub, List.replicate, List.cons_append, List.nil_append]
  try simp (maxSteps := 1000000) only [seval, -Int.reduceToNat, -Int.reduceNatCast, -Int.reduceNatCast', -Nat.reduceSubDiff, T, eqc36, eqc44, eqc49, eqc52, q00, q01, q02, q03]
  refine q1r tyOk (α := Nat) 9 [0, 3, 7] (fun i => i ≤ 8)
    (fun i => ⟨[i64 room, .any, .any, .ptr 0 0, .any, .any, .any, i64 i, .any, .any, .any, .any, .any, .any, .any, .any, .any, .any, .any], newM (max room 0) i⟩)
    (fun i => 8 - i) 0 (by decide) (Nat.zero_le _) rfl ?_
  intro i hi
  try simp (maxSteps := 1000000) only [seval, -Int.reduceToNat, -Int.reduceNatCast, -Int.reduceNatCast', -Nat.reduceSubDiff, T, eqc36, eqc44, eqc49, eqc52, q00, q01, q02, q03]
  (first | refine q0a ?_ ?_ | refine q0g ?_ ?_ | refine q0h ?_ ?_ | refine q0i ?_ ?_ | refine q0b ?_ ?_) <;> intro h
  · have hlt : i < 8 := by have := of_decide_eq_true h; omega
    have c : i = 0 ∨ i = 1 ∨ i = 2 ∨ i = 3 ∨ i = 4 ∨ i = 5 ∨ i = 6 ∨ i = 7 := by omega
    rcases c with rfl | rfl | rfl | rfl | rfl | rfl | rfl | rfl
    all_goals
      simp only [newM]
      try simp (maxSteps := 1000000) only [seval, -Int.reduceToNat, -Int.reduceNatCast, -Int.reduceNatCast', -Nat.reduceSubDiff, T, eqc36, eqc44, eqc49, eqc52, q00, q01, q02, q03]
      refine q0x tyOk (by rfl) (by simp only [List.length_cons, List.length_nil, Nat.reduceAdd, Nat.zero_le]) (by kernel_rfl) rfl ?_
      try simp (maxSteps := 1000000) only [seval, -Int.reduceToNat, -Int.reduceNatCast, -Int.reduceNatCast', -Nat.reduceSubDiff, T, eqc36, eqc44, eqc49, eqc52, q00, q01, q02, q03, Int.cast_ofNat_Int]
      refine drawCall_newB (ring_New1 room) rfl rfl ?_
      try simp (maxSteps := 1000000) only [seval, -Int.reduceToNat, -Int.reduceNatCast, -Int.reduceNatCast', -Nat.reduceSubDiff, T, eqc36, eqc44, eqc49, eqc52, q00, q01, q02, q03, Int.cast_ofNat_Int, Int.reduceToNat]
      refine ⟨by kernel_rfl, ?_⟩
      try simp (maxSteps := 1000000) only [seval, -Int.reduceToNat, -Int.reduceNatCast, -Int.reduceNatCast', -Nat.reduceSubDiff, T, eqc36, eqc44, eqc49, eqc52, q00, q01, q02, q03, Int.cast_ofNat_Int, Int.reduceToNat]
      simp only [q0v, St.trunc, St.keep, q04, q05, AB.trunc, keepV, List.elem_cons, List.elem_nil, List.take_succ_cons, List.take_zero, List.map_cons, List.map_nil, Nat.reduceAdd, Nat.reduceBEq, Nat.reduceLeDiff, Nat.zero_add, Bool.false_eq_true, ↓reduceIte]
      refine ⟨_ + 1, hlt, by omega, rfl⟩
  · obtain rfl : i = 8 := by have := of_decide_eq_false h; omega
    try simp (maxSteps := 1000000) only [seval, -Int.reduceToNat, -Int.reduceNatCast, -Int.reduceNatCast', -Nat.reduceSubDiff, T, eqc36, eqc44, eqc49, eqc52, q00, q01, q02, q03]
    apply hK
    simp only [Tryz.results38, retK, ares, Bool.and_true, Bool.true_and, AV.ofResults, St.trunc, q04, q05, List.getD_cons_zero, List.getD_cons_succ, Nat.reduceLeDiff, true_and, and_true, ↓reduceIte, List.cons.injEq, exists_eq_left']
    rfl
theorem new_turn0 (room : Int) : Turns ⟨[.ptr 0 0], [.box [.v (.slice none 0 0), .v (.slice none 0 0), .ptr 1 0, .ptr 2 0, .ptr 3 0, .ptr 4 0, .ptr 5 0, .ptr 6 0, .ptr 7 0, .ptr 8 0], .box [i64 room, .v (.slice none 0 0), bool false], .box [i64 room, .v (.slice none 0 0), bool false], .box [i64 room, .v (.slice none 0 0), bool false], .box [i64 room, .v (.slice none 0 0), bool false], .box [i64 room, .v (.slice none 0 0), bool false], .box [i64 room, .v (.slice none 0 0), bool false], .box [i64 room, .v (.slice none 0 0), bool false], .box [i64 room, .v (.slice none 0 0), bool false]]⟩ ⟨[.ptr 0 0], [.box [.sl 1 [], .v (.slice none 0 0), .ptr 1 0, .ptr 2 0, .ptr 3 0, .ptr 4 0, .ptr 5 0, .ptr 6 0, .ptr 7 0, .ptr 8 0], .box [i64 room, .v (.slice none 0 0), bool false], .box [i64 room, .v (.slice none 0 0), bool false], .box [i64 room, .v (.slice none 0 0), bool false], .box [i64 room, .v (.slice none 0 0), bool false], .box [i64 room, .v (.slice none 0 0), bool false], .box [i64 room, .v (.slice none 0 0), bool false], .box [i64 room, .v (.slice none 0 0), bool false], .box [i64 room, .v (.slice none 0 0), bool false]]⟩ :=
  Turns.asSlIn (s := ⟨[.ptr 0 0], [.box [.v (.slice none 0 0), .v (.slice none 0 0), .ptr 1 0, .ptr 2 0, .ptr 3 0, .ptr 4 0, .ptr 5 0, .ptr 6 0, .ptr 7 0, .ptr 8 0], .box [i64 room, .v (.slice none 0 0), bool false], .box [i64 room, .v (.slice none 0 0), bool false], .box [i64 room, .v (.slice none 0 0), bool false], .box [i64 room, .v (.slice none 0 0), bool false], .box [i64 room, .v (.slice none 0 0), bool false], .box [i64 room, .v (.slice none 0 0), bool false], .box [i64 room, .v (.slice none 0 0), bool false], .box [i64 room, .v (.slice none 0 0), bool false]]⟩) (b := 0) (c := 0) 1 rfl rfl
theorem new_turn1 (room : Int) : Turns ⟨[.ptr 0 0], [.box [.sl 1 [], .v (.slice none 0 0), .ptr 1 0, .ptr 2 0, .ptr 3 0, .ptr 4 0, .ptr 5 0, .ptr 6 0, .ptr 7 0, .ptr 8 0], .box [i64 room, .v (.slice none 0 0), bool false], .box [i64 room, .v (.slice none 0 0), bool false], .box [i64 room, .v (.slice none 0 0), bool false], .box [i64 room, .v (.slice none 0 0), bool false], .box [i64 room, .v (.slice none 0 0), bool false], .box [i64 room, .v (.slice none 0 0), bool false], .box [i64 room, .v (.slice none 0 0), bool false], .box [i64 room, .v (.slice none 0 0), bool false]]⟩ ⟨[.ptr 0 0], [.box [.sl 1 [], .sl 1 [], .ptr 1 0, .ptr 2 0, .ptr 3 0, .ptr 4 0, .ptr 5 0, .ptr 6 0, .ptr 7 0, .ptr 8 0], .box [i64 room, .v (.slice none 0 0), bool false], .box [i64 room, .v (.slice none 0 0), bool false], .box [i64 room, .v (.slice none 0 0), bool false], .box [i64 room, .v (.slice none 0 0), bool false], .box [i64 room, .v (.slice none 0 0), bool false], .box [i64 room, .v (.slice none 0 0), bool false], .box [i64 room, .v (.slice none 0 0), bool false], .box [i64 room, .v (.slice none 0 0), bool false]]⟩ :=
  Turns.asSlIn (s := ⟨[.ptr 0 0], [.box [.sl 1 [], .v (.slice none 0 0), .ptr 1 0, .ptr 2 0, .ptr 3 0, .ptr 4 0, .ptr 5 0, .ptr 6 0, .ptr 7 0, .ptr 8 0], .box [i64 room, .v (.slice none 0 0), bool false], .box [i64 room, .v (.slice none 0 0), bool false], .box [i64 room, .v (.slice none 0 0), bool false], .box [i64 room, .v (.slice none 0 0), bool false], .box [i64 room, .v (.slice none 0 0), bool false], .box [i64 room, .v (.slice none 0 0), bool false], .box [i64 room, .v (.slice none 0 0), bool false], .box [i64 room, .v (.slice none 0 0), bool false]]⟩) (b := 0) (c := 1) 1 rfl rfl
theorem new_turn2 (room : Int) : Turns ⟨[.ptr 0 0], [.box [.sl 1 [], .sl 1 [], .ptr 1 0, .ptr 2 0, .ptr 3 0, .ptr 4 0, .ptr 5 0, .ptr 6 0, .ptr 7 0, .ptr 8 0], .box [i64 room, .v (.slice none 0 0), bool false], .box [i64 room, .v (.slice none 0 0), bool false], .box [i64 room, .v (.slice none 0 0), bool false], .box [i64 room, .v (.slice none 0 0), bool false], .box [i64 room, .v (.slice none 0 0), bool false], .box [i64 room, .v (.slice none 0 0), bool false], .box [i64 room, .v (.slice none 0 0), bool false], .box [i64 room, .v (.slice none 0 0), bool false]]⟩ ⟨[.ptr 0 0], [.box [.sl 1 [], .sl 1 [], .ptr 1 0, .ptr 2 0, .ptr 3 0, .ptr 4 0, .ptr 5 0, .ptr 6 0, .ptr 7 0, .ptr 8 0], .box [i64 room, .own 9 8 0 0, bool false], .box [i64 room, .v (.slice none 0 0), bool false], .box [i64 room, .v (.slice none 0 0), bool false], .box [i64 room, .v (.slice none 0 0), bool false], .box [i64 room, .v (.slice none 0 0), bool false], .box [i64 room, .v (.slice none 0 0), bool false], .box [i64 room, .v (.slice none 0 0), bool false], .box [i64 room, .v (.slice none 0 0), bool false], .row 49 8 []]⟩ :=
  Turns.adoptIn (s := ⟨[.ptr 0 0], [.box [.sl 1 [], .sl 1 [], .ptr 1 0, .ptr 2 0, .ptr 3 0, .ptr 4 0, .ptr 5 0, .ptr 6 0, .ptr 7 0, .ptr 8 0], .box [i64 room, .v (.slice none 0 0), bool false], .box [i64 room, .v (.slice none 0 0), bool false], .box [i64 room, .v (.slice none 0 0), bool false], .box [i64 room, .v (.slice none 0 0), bool false], .box [i64 room, .v (.slice none 0 0), bool false], .box [i64 room, .v (.slice none 0 0), bool false], .box [i64 room, .v (.slice none 0 0), bool false], .box [i64 room, .v (.slice none 0 0), bool false]]⟩) (b := 1) (c := 1) 49 8 rfl rfl
theorem new_turn3 (room : Int) : Turns ⟨[.ptr 0 0], [.box [.sl 1 [], .sl 1 [], .ptr 1 0, .ptr 2 0, .ptr 3 0, .ptr 4 0, .ptr 5 0, .ptr 6 0, .ptr 7 0, .ptr 8 0], .box [i64 room, .own 9 8 0 0, bool false], .box [i64 room, .v (.slice none 0 0), bool false], .box [i64 room, .v (.slice none 0 0), bool false], .box [i64 room, .v (.slice none 0 0), bool false], .box [i64 room, .v (.slice none 0 0), bool false], .box [i64 room, .v (.slice none 0 0), bool false], .box [i64 room, .v (.slice none 0 0), bool false], .box [i64 room, .v (.slice none 0 0), bool false], .row 49 8 []]⟩ ⟨[.ptr 0 0], [.box [.sl 1 [], .sl 1 [], .ptr 1 0, .ptr 2 0, .ptr 3 0, .ptr 4 0, .ptr 5 0, .ptr 6 0, .ptr 7 0, .ptr 8 0], .box [i64 room, .own 9 8 0 0, bool false], .box [i64 room, .own 10 8 0 0, bool false], .box [i64 room, .v (.slice none 0 0), bool false], .box [i64 room, .v (.slice none 0 0), bool false], .box [i64 room, .v (.slice none 0 0), bool false], .box [i64 room, .v (.slice none 0 0), bool false], .box [i64 room, .v (.slice none 0 0), bool false], .box [i64 room, .v (.slice none 0 0), bool false], .row 49 8 [], .row 49 8 []]⟩ :=
  Turns.adoptIn (s := ⟨[.ptr 0 0], [.box [.sl 1 [], .sl 1 [], .ptr 1 0, .ptr 2 0, .ptr 3 0, .ptr 4 0, .ptr 5 0, .ptr 6 0, .ptr 7 0, .ptr 8 0], .box [i64 room, .own 9 8 0 0, bool false], .box [i64 room, .v (.slice none 0 0), bool false], .box [i64 room, .v (.slice none 0 0), bool false], .box [i64 room, .v (.slice none 0 0), bool false], .box [i64 room, .v (.slice none 0 0), bool false], .box [i64 room, .v (.slice none 0 0), bool false], .box [i64 room, .v (.slice none 0 0), bool false], .box [i64 room, .v (.slice none 0 0), bool false], .row 49 8 []]⟩) (b := 2) (c := 1) 49 8 rfl rfl
theorem new_turn4 (room : Int) : Turns ⟨[.ptr 0 0], [.box [.sl 1 [], .sl 1 [], .ptr 1 0, .ptr 2 0, .ptr 3 0, .ptr 4 0, .ptr 5 0, .ptr 6 0, .ptr 7 0, .ptr 8 0], .box [i64 room, .own 9 8 0 0, bool false], .box [i64 room, .own 10 8 0 0, bool false], .box [i64 room, .v (.slice none 0 0), bool false], .box [i64 room, .v (.slice none 0 0), bool false], .box [i64 room, .v (.slice none 0 0), bool false], .box [i64 room, .v (.slice none 0 0), bool false], .box [i64 room, .v (.slice none 0 0), bool false], .box [i64 room, .v (.slice none 0 0), bool false], .row 49 8 [], .row 49 8 []]⟩ ⟨[.ptr 0 0], [.box [.sl 1 [], .sl 1 [], .ptr 1 0, .ptr 2 0, .ptr 3 0, .ptr 4 0, .ptr 5 0, .ptr 6 0, .ptr 7 0, .ptr 8 0], .box [i64 room, .own 9 8 0 0, bool false], .box [i64 room, .own 10 8 0 0, bool false], .box [i64 room, .own 11 8 0 0, bool false], .box [i64 room, .v (.slice none 0 0), bool false], .box [i64 room, .v (.slice none 0 0), bool false], .box [i64 room, .v (.slice none 0 0), bool false], .box [i64 room, .v (.slice none 0 0), bool false], .box [i64 room, .v (.slice none 0 0), bool false], .row 49 8 [], .row 49 8 [], .row 49 8 []]⟩ :=
  Turns.adoptIn (s := ⟨[.ptr 0 0], [.box [.sl 1 [], .sl 1 [], .ptr 1 0, .ptr 2 0, .ptr 3 0, .ptr 4 0, .ptr 5 0, .ptr 6 0, .ptr 7 0, .ptr 8 0], .box [i64 room, .own 9 8 0 0, bool false], .box [i64 room, .own 10 8 0 0, bool false], .box [i64 room, .v (.slice none 0 0), bool false], .box [i64 room, .v (.slice none 0 0), bool false], .box [i64 room, .v (.slice none 0 0), bool false], .box [i64 room, .v (.slice none 0 0), bool false], .box [i64 room, .v (.slice none 0 0), bool false], .box [i64 room, .v (.slice none 0 0), bool false], .row 49 8 [], .row 49 8 []]⟩) (b := 3) (c := 1) 49 8 rfl rfl
theorem new_turn5 (room : Int) : Turns ⟨[.ptr 0 0], [.box [.sl 1 [], .sl 1 [], .ptr 1 0, .ptr 2 0, .ptr 3 0, .ptr 4 0, .ptr 5 0, .ptr 6 0, .ptr 7 0, .ptr 8 0], .box [i64 room, .own 9 8 0 0, bool false], .box [i64 room, .own 10 8 0 0, bool false], .box [i64 room, .own 11 8 0 0, bool false], .box [i64 room, .v (.slice none 0 0), bool false], .box [i64 room, .v (.slice none 0 0), bool false], .box [i64 room, .v (.slice none 0 0), bool false], .box [i64 room, .v (.slice none 0 0), bool false], .box [i64 room, .v (.slice none 0 0), bool false], .row 49 8 [], .row 49 8 [], .row 49 8 []]⟩ ⟨[.ptr 0 0], [.box [.sl 1 [], .sl 1 [], .ptr 1 0, .ptr 2 0, .ptr 3 0, .ptr 4 0, .ptr 5 0, .ptr 6 0, .ptr 7 0, .ptr 8 0], .box [i64 room, .own 9 8 0 0, bool false], .box [i64 room, .own 10 8 0 0, bool false], .box [i64 room, .own 11 8 0 0, bool false], .box [i64 room, .own 12 8 0 0, bool false], .box [i64 room, .v (.slice none 0 0), bool false], .box [i64 room, .v (.slice none 0 0), bool false], .box [i64 room, .v (.slice none 0 0), bool false], .box [i64 room, .v (.slice none 0 0), bool false], .row 49 8 [], .row 49 8 [], .row 49 8 [], .row 49 8 []]⟩ :=
  Turns.adoptIn (s := ⟨[.ptr 0 0], [.box [.sl 1 [], .sl 1 [], .ptr 1 0, .ptr 2 0, .ptr 3 0, .ptr 4 0, .ptr 5 0, .ptr 6 0, .ptr 7 0, .ptr 8 0], .box [i64 room, .own 9 8 0 0, bool false], .box [i64 room, .own 10 8 0 0, bool false], .box [i64 room, .own 11 8 0 0, bool false], .box [i64 room, .v (.slice none 0 0), bool false], .box [i64 room, .v (.slice none 0 0), bool false], .box [i64 room, .v (.slice none 0 0), bool false], .box [i64 room, .v (.slice none 0 0), bool false], .box [i64 room, .v (.slice none 0 0), bool false], .row 49 8 [], .row 49 8 [], .row 49 8 []]⟩) (b := 4) (c := 1) 49 8 rfl rfl
theorem new_turn6 (room : Int) : Turns ⟨[.ptr 0 0], [.box [.sl 1 [], .sl 1 [], .ptr 1 0, .ptr 2 0, .ptr 3 0, .ptr 4 0, .ptr 5 0, .ptr 6 0, .ptr 7 0, .ptr 8 0], .box [i64 room, .own 9 8 0 0, bool false], .box [i64 room, .own 10 8 0 0, bool false], .box [i64 room, .own 11 8 0 0, bool false], .box [i64 room, .own 12 8 0 0, bool false], .box [i64 room, .v (.slice none 0 0), bool false], .box [i64 room, .v (.slice none 0 0), bool false], .box [i64 room, .v (.slice none 0 0), bool false], .box [i64 room, .v (.slice none 0 0), bool false], .row 49 8 [], .row 49 8 [], .row 49 8 [], .row 49 8 []]⟩ ⟨[.ptr 0 0], [.box [.sl 1 [], .sl 1 [], .ptr 1 0, .ptr 2 0, .ptr 3 0, .ptr 4 0, .ptr 5 0, .ptr 6 0, .ptr 7 0, .ptr 8 0], .box [i64 room, .own 9 8 0 0, bool false], .box [i64 room, .own 10 8 0 0, bool false], .box [i64 room, .own 11 8 0 0, bool false], .box [i64 room, .own 12 8 0 0, bool false], .box [i64 room, .own 13 8 0 0, bool false], .box [i64 room, .v (.slice none 0 0), bool false], .box [i64 room, .v (.slice none 0 0), bool false], .box [i64 room, .v (.slice none 0 0), bool false], .row 49 8 [], .row 49 8 [], .row 49 8 [], .row 49 8 [], .row 49 8 []]⟩ :=
  Turns.adoptIn (s := ⟨[.ptr 0 0], [.box [.sl 1 [], .sl 1 [], .ptr 1 0, .ptr 2 0, .ptr 3 0, .ptr 4 0, .ptr 5 0, .ptr 6 0, .ptr 7 0, .ptr 8 0], .box [i64 room, .own 9 8 0 0, bool false], .box [i64 room, .own 10 8 0 0, bool false], .box [i64 room, .own 11 8 0 0, bool false], .box [i64 room, .own 12 8 0 0, bool false], .box [i64 room, .v (.slice none 0 0), bool false], .box [i64 room, .v (.slice none 0 0), bool false], .box [i64 room, .v (.slice none 0 0), bool false], .box [i64 room, .v (.slice none 0 0), bool false], .row 49 8 [], .row 49 8 [], .row 49 8 [], .row 49 8 []]⟩) (b := 5) (c := 1) 49 8 rfl rfl
theorem new_turn7 (room : Int) : Turns ⟨[.ptr 0 0], [.box [.sl 1 [], .sl 1 [], .ptr 1 0, .ptr 2 0, .ptr 3 0, .ptr 4 0, .ptr 5 0, .ptr 6 0, .ptr 7 0, .ptr 8 0], .box [i64 room, .own 9 8 0 0, bool false], .box [i64 room, .own 10 8 0 0, bool false], .box [i64 room, .own 11 8 0 0, bool false], .box [i64 room, .own 12 8 0 0, bool false], .box [i64 room, .own 13 8 0 0, bool false], .box [i64 room, .v (.slice none 0 0), bool false], .box [i64 room, .v (.slice none 0 0), bool false], .box [i64 room, .v (.slice none 0 0), bool false], .row 49 8 [], .row 49 8 [], .row 49 8 [], .row 49 8 [], .row 49 8 []]⟩ ⟨[.ptr 0 0], [.box [.sl 1 [], .sl 1 [], .ptr 1 0, .ptr 2 0, .ptr 3 0, .ptr 4 0, .ptr 5 0, .ptr 6 0, .ptr 7 0, .ptr 8 0], .box [i64 room, .own 9 8 0 0, bool false], .box [i64 room, .own 10 8 0 0, bool false], .box [i64 room, .own 11 8 0 0, bool false], .box [i64 room, .own 12 8 0 0, bool false], .box [i64 room, .own 13 8 0 0, bool false], .box [i64 room, .own 14 8 0 0, bool false], .box [i64 room, .v (.slice none 0 0), bool false], .box [i64 room, .v (.slice none 0 0), bool false], .row 49 8 [], .row 49 8 [], .row 49 8 [], .row 49 8 [], .row 49 8 [], .row 49 8 []]⟩ :=
  Turns.adoptIn (s := ⟨[.ptr 0 0], [.box [.sl 1 [], .sl 1 [], .ptr 1 0, .ptr 2 0, .ptr 3 0, .ptr 4 0, .ptr 5 0, .ptr 6 0, .ptr 7 0, .ptr 8 0], .box [i64 room, .own 9 8 0 0, bool false], .box [i64 room, .own 10 8 0 0, bool false], .box [i64 room, .own 11 8 0 0, bool false], .box [i64 room, .own 12 8 0 0, bool false], .box [i64 room, .own 13 8 0 0, bool false], .box [i64 room, .v (.slice none 0 0), bool false], .box [i64 room, .v (.slice none 0 0), bool false], .box [i64 room, .v (.slice none 0 0), bool false], .row 49 8 [], .row 49 8 [], .row 49 8 [], .row 49 8 [], .row 49 8 []]⟩) (b := 6) (c := 1) 49 8 rfl rfl
theorem new_turn8 (room : Int) : Turns ⟨[.ptr 0 0], [.box [.sl 1 [], .sl 1 [], .ptr 1 0, .ptr 2 0, .ptr 3 0, .ptr 4 0, .ptr 5 0, .ptr 6 0, .ptr 7 0, .ptr 8 0], .box [i64 room, .own 9 8 0 0, bool false], .box [i64 room, .own 10 8 0 0, bool false], .box [i64 room, .own 11 8 0 0, bool false], .box [i64 room, .own 12 8 0 0, bool false], .box [i64 room, .own 13 8 0 0, bool false], .box [i64 room, .own 14 8 0 0, bool false], .box [i64 room, .v (.slice none 0 0), bool false], .box [i64 room, .v (.slice none 0 0), bool false], .row 49 8 [], .row 49 8 [], .row 49 8 [], .row 49 8 [], .row 49 8 [], .row 49 8 []]⟩ ⟨[.ptr 0 0], [.box [.sl 1 [], .sl 1 [], .ptr 1 0, .ptr 2 0, .ptr 3 0, .ptr 4 0, .ptr 5 0, .ptr 6 0, .ptr 7 0, .ptr 8 0], .box [i64 room, .own 9 8 0 0, bool false], .box [i64 room, .own 10 8 0 0, bool false], .box [i64 room, .own 11 8 0 0, bool false], .box [i64 room, .own 12 8 0 0, bool false], .box [i64 room, .own 13 8 0 0, bool false], .box [i64 room, .own 14 8 0 0, bool false], .box [i64 room, .own 15 8 0 0, bool false], .box [i64 room, .v (.slice none 0 0), bool false], .row 49 8 [], .row 49 8 [], .row 49 8 [], .row 49 8 [], .row 49 8 [], .row 49 8 [], .row 49 8 []]⟩ :=
  Turns.adoptIn (s := ⟨[.ptr 0 0], [.box [.sl 1 [], .sl 1 [], .ptr 1 0, .ptr 2 0, .ptr 3 0, .ptr 4 0, .ptr 5 0, .ptr 6 0, .ptr 7 0, .ptr 8 0], .box [i64 room, .own 9 8 0 0, bool false], .box [i64 room, .own 10 8 0 0, bool false], .box [i64 room, .own 11 8 0 0, bool false], .box [i64 room, .own 12 8 0 0, bool false], .box [i64 room, .own 13 8 0 0, bool false], .box [i64 room, .own 14 8 0 0, bool false], .box [i64 room, .v (.slice none 0 0), bool false], .box [i64 room, .v (.slice none 0 0), bool false], .row 49 8 [], .row 49 8 [], .row 49 8 [], .row 49 8 [], .row 49 8 [], .row 49 8 []]⟩) (b := 7) (c := 1) 49 8 rfl rfl
theorem new_turn9 (room : Int) : Turns ⟨[.ptr 0 0], [.box [.sl 1 [], .sl 1 [], .ptr 1 0, .ptr 2 0, .ptr 3 0, .ptr 4 0, .ptr 5 0, .ptr 6 0, .ptr 7 0, .ptr 8 0], .box [i64 room, .own 9 8 0 0, bool false], .box [i64 room, .own 10 8 0 0, bool false], .box [i64 room, .own 11 8 0 0, bool false], .box [i64 room, .own 12 8 0 0, bool false], .box [i64 room, .own 13 8 0 0, bool false], .box [i64 room, .own 14 8 0 0, bool false], .box [i64 room, .own 15 8 0 0, bool false], .box [i64 room, .v (.slice none 0 0), bool false], .row 49 8 [], .row 49 8 [], .row 49 8 [], .row 49 8 [], .row 49 8 [], .row 49 8 [], .row 49 8 []]⟩ ⟨[.ptr 0 0], [.box [.sl 1 [], .sl 1 [], .ptr 1 0, .ptr 2 0, .ptr 3 0, .ptr 4 0, .ptr 5 0, .ptr 6 0, .ptr 7 0, .ptr 8 0], .box [i64 room, .own 9 8 0 0, bool false], .box [i64 room, .own 10 8 0 0, bool false], .box [i64 room, .own 11 8 0 0, bool false], .box [i64 room, .own 12 8 0 0, bool false], .box [i64 room, .own 13 8 0 0, bool false], .box [i64 room, .own 14 8 0 0, bool false], .box [i64 room, .own 15 8 0 0, bool false], .box [i64 room, .own 16 8 0 0, bool false], .row 49 8 [], .row 49 8 [], .row 49 8 [], .row 49 8 [], .row 49 8 [], .row 49 8 [], .row 49 8 [], .row 49 8 []]⟩ :=
  Turns.adoptIn (s := ⟨[.ptr 0 0], [.box [.sl 1 [], .sl 1 [], .ptr 1 0, .ptr 2 0, .ptr 3 0, .ptr 4 0, .ptr 5 0, .ptr 6 0, .ptr 7 0, .ptr 8 0], .box [i64 room, .own 9 8 0 0, bool false], .box [i64 room, .own 10 8 0 0, bool false], .box [i64 room, .own 11 8 0 0, bool false], .box [i64 room, .own 12 8 0 0, bool false], .box [i64 room, .own 13 8 0 0, bool false], .box [i64 room, .own 14 8 0 0, bool false], .box [i64 room, .own 15 8 0 0, bool false], .box [i64 room, .v (.slice none 0 0), bool false], .row 49 8 [], .row 49 8 [], .row 49 8 [], .row 49 8 [], .row 49 8 [], .row 49 8 [], .row 49 8 []]⟩) (b := 8) (c := 1) 49 8 rfl rfl
theorem feed_New (room : Int) : ACall P 38 [] [i64 room] (fun x m' => x = .ptr 0 0 ∧ m' = feedM ⟨[], max room 0, fun _ => ([], false)⟩) := by
  refine ACall.weaken (feed_New0 room) ?_
  rintro x m' ⟨rfl, rfl⟩
  refine ⟨_, _, ?_, rfl, rfl⟩
  refine Turns.trans (new_turn0 _) ?_
  refine Turns.trans (new_turn1 _) ?_
  refine Turns.trans (new_turn2 _) ?_
  refine Turns.trans (new_turn3 _) ?_
  refine Turns.trans (new_turn4 _) ?_
  refine Turns.trans (new_turn5 _) ?_
  refine Turns.trans (new_turn6 _) ?_
  refine Turns.trans (new_turn7 _) ?_
  refine Turns.trans (new_turn8 _) ?_
  refine Turns.trans (new_turn9 _) ?_
  exact Turns.refl _
end Go.Proofs.YtdkcpcflfnakdaaGreat
namespace Go.Proofs.YtdkcpcflfnakdaaGreat
open Go Go.Proofs.YtdkcpcflfnakdaaGreat.Sym
set_option maxRecDepth 100000
set_option maxHeartbeats 1000000
set_option linter.unusedSimpArgs false
set_option linter.unusedVariables false

/-! ### Masks -/
theorem bits_set : ∀ m < 256, ∀ w < 8, (∀ k < 8, hasB (setB (m : Nat) (w : Nat)) (k : Nat) = (hasB (m : Nat) (k : Nat) || decide (k = w))) ∧ (0 ≤ setB (m : Nat) (w : Nat) ∧ setB (m : Nat) (w : Nat) < 256) := by decide +kernel
theorem bits_clr : ∀ m < 256, ∀ w < 8, (∀ k < 8, hasB (clrB (m : Nat) (w : Nat)) (k : Nat) = (hasB (m : Nat) (k : Nat) && decide (k ≠ w))) ∧ (0 ≤ clrB (m : Nat) (w : Nat) ∧ clrB (m : Nat) (w : Nat) < 256) := by decide +kernel
abbrev Msk := List (ByteArray × Int)
def mskOk (m : Msk) : Prop := q2o m ∧ ∀ p ∈ m, 0 ≤ p.2 ∧ p.2 < 256
theorem mask_ok {m : Msk} (h : mskOk m) (u : ByteArray) : 0 ≤ maskOf m u ∧ maskOf m u < 256 := by
  by_cases hk : u ∈ m.map Prod.fst
  · obtain ⟨⟨u', v⟩, hp, rfl⟩ := List.mem_map.1 hk
    rw [maskOf, get_mem ordS q2a h.1 hp]
    exact h.2 _ hp
  · rw [maskOf, get_none ordS q2a h.1 hk]
    exact ⟨Int.le_refl _, by decide⟩
theorem mask_mem {m : Msk} (h : mskOk m) {p : ByteArray × Int} (hp : p ∈ m) : maskOf m p.1 = p.2 := by
  rw [maskOf, get_mem ordS q2a h.1 (k := p.1) (v := p.2) hp]
theorem mask_not {m : Msk} (h : mskOk m) {u : ByteArray} (hk : u ∉ m.map Prod.fst) : maskOf m u = 0 := by
  rw [maskOf, get_none ordS q2a h.1 hk]
theorem msk_with {m : Msk} (h : mskOk m) (u : ByteArray) {v : Int} (hv : 0 ≤ v ∧ v < 256) : mskOk (withG ltS eqS m u v) := by
  refine ⟨with_rises ordS q2a h.1 u v, fun p hp => ?_⟩
  rcases (mem_with ordS q2a h.1).1 hp with rfl | ⟨hp, _⟩
  · exact hv
  · exact h.2 p hp
theorem msk_without {m : Msk} (h : mskOk m) (u : ByteArray) : mskOk (q21 ltS eqS m u) := by
  refine ⟨without_rises ordS q2a h.1 u, fun p hp => ?_⟩
  rw [without_eq ordS q2a h.1] at hp
  exact h.2 p (List.mem_filter.1 hp).1
theorem mask_with {m : Msk} (h : mskOk m) (u : ByteArray) {v : Int} (hv : 0 ≤ v ∧ v < 256) (u' : ByteArray) : maskOf (withG ltS eqS m u v) u' = if u' = u then v else maskOf m u' := by
  have h' := msk_with h u hv
  by_cases e : u' = u
  · subst e
    rw [if_pos rfl]
    exact mask_mem (p := (u', v)) h' ((mem_with ordS q2a h.1).2 (.inl rfl))
  · rw [if_neg e]
    by_cases hk : u' ∈ m.map Prod.fst
    · obtain ⟨p, hp, rfl⟩ := List.mem_map.1 hk
      rw [mask_mem h hp, mask_mem h' ((mem_with ordS q2a h.1).2 (.inr ⟨hp, e⟩))]
    · rw [mask_not h hk, mask_not h']
      intro hc
      obtain ⟨p, hp, rfl⟩ := List.mem_map.1 hc
      rcases (mem_with ordS q2a h.1).1 hp with rfl | ⟨hp, _⟩
      · exact e rfl
      · exact hk (List.mem_map.2 ⟨p, hp, rfl⟩)
theorem to_nat {v : Int} (h : 0 ≤ v ∧ v < 256) : ∃ n : Nat, n < 256 ∧ v = n := ⟨v.toNat, by omega, by omega⟩

theorem watch_ok {m : Msk} (h : mskOk m) (who : Int) (u : ByteArray) : mskOk (watchM m who u) := by
  unfold watchM
  split
  · rename_i hc
    obtain ⟨w, hw, rfl⟩ := cli_iff hc
    obtain ⟨n, hn, hm⟩ := to_nat (mask_ok h u)
    rw [hm]
    exact msk_with h u (bits_set n hn w hw).2
  · exact h
theorem watch_len (m : Msk) (who : Int) (u : ByteArray) : (watchM m who u).length ≤ m.length + 1 := by
  unfold watchM
  split
  · exact with_len _ _ _
  · omega
theorem unwatch_ok {m : Msk} (h : mskOk m) (who : Int) (u : ByteArray) : mskOk (unwatchM m who u) := by
  unfold unwatchM
  split
  · rename_i hc
    obtain ⟨w, hw, rfl⟩ := cli_iff hc
    obtain ⟨n, hn, hm⟩ := to_nat (mask_ok h u)
    split
    · exact h
    · split
      · exact msk_without h u
      · rw [hm]
        exact msk_with h u (bits_clr n hn w hw).2
  · exact h
theorem unwatch_len (m : Msk) (who : Int) (u : ByteArray) : (unwatchM m who u).length ≤ m.length + 1 := by
  unfold unwatchM
  split
  · split
    · omega
    · split
      · exact Nat.le_trans (without_len _ _) (Nat.le_succ _)
      · exact with_len _ _ _
  · omega
/-- Who watches, behind a Watch and an Unwatch. -/
theorem wat_watch {m : Msk} (h : mskOk m) (who : Int) (u : ByteArray) (who' : Int) (u' : ByteArray) : watF (watchM m who u) who' u' = (watF m who' u' || (cli who && (decide (who' = who) && decide (u' = u)))) := by
  unfold watF
  cases hc' : cli who' with
  | false =>
    simp only [Bool.false_and, Bool.false_or]
    cases hc : cli who with
    | false => simp
    | true =>
      have : who' ≠ who := by intro e; rw [e, hc] at hc'; cases hc'
      simp [this]
  | true =>
    simp only [Bool.true_and]
    cases hc : cli who with
    | false => rw [watchM, if_neg (by rw [hc]; decide)]; simp
    | true =>
      rw [watchM, if_pos hc]
      obtain ⟨w, hw, rfl⟩ := cli_iff hc
      obtain ⟨k, hk, rfl⟩ := cli_iff hc'
      obtain ⟨n, hn, hm⟩ := to_nat (mask_ok h u)
      obtain ⟨b1, b2⟩ := bits_set n hn w hw
      have e2 : decide ((k : Int) = (w : Int)) = decide (k = w) := by rw [Bool.eq_iff_iff]; simp; omega
      rw [hm, mask_with h u b2, Bool.true_and, e2]
      by_cases e : u' = u
      · subst e
        rw [if_pos rfl, b1 k hk, hm]; simp
      · rw [if_neg e]; simp [e]
theorem msk_nil : mskOk [] := ⟨List.Pairwise.nil, fun p hp => by cases hp⟩

/-! ### How many -/
/-! ### Queues -/
theorem tell1_q (F : Fd) (c : Chg) (seq : Int) {k : Nat} (hk : k < 8) : (tell1 F c seq 8).q k = if watF F.m k c.u = true then putR F.room (F.q k) ⟨c.u, c.old, c.new, seq⟩ else F.q k := by
  unfold tell1
  simp [hk]
theorem tell1_qy {F : Fd} {c : Chg} {seq : Int} {k : Nat} (hk : k < 8) (h : watF F.m k c.u = true) : (tell1 F c seq 8).q k = putR F.room (F.q k) ⟨c.u, c.old, c.new, seq⟩ := by
  rw [tell1_q F c seq hk, if_pos h]
theorem tell_one (F : Fd) (c : Chg) (seq : Int) : tellF F [c] seq = tell1 F c seq 8 := rfl
end Go.Proofs.YtdkcpcflfnakdaaGreat
namespace Go.Proofs.YtdkcpcflfnakdaaGreat
open Go Go.Proofs.YtdkcpcflfnakdaaGreat.Sym
set_option maxRecDepth 100000
set_option maxHeartbeats 1000000
set_option linter.unusedSimpArgs false
set_option linter.unusedVariables false

/-! ### The document's example -/
end Go.Proofs.YtdkcpcflfnakdaaGreat
