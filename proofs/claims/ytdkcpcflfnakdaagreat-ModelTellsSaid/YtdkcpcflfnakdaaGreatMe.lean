/- The base of the laws of this seat: texts of this session, joined by a program. -/
import Derived.Test.YtdkcpcflfnakdaaGreatMd
namespace Go.Proofs.YtdkcpcflfnakdaaGreat
open Go Go.Proofs.YtdkcpcflfnakdaaGreat.Sym
attribute [-sevalprocAttr] Int.reduceToNat Int.reduceNatCast Int.reduceNatCast' Nat.reduceSubDiff
set_option maxRecDepth 100000
set_option maxHeartbeats 1000000
set_option linter.unusedSimpArgs false
set_option linter.unusedVariables false

structure Fd where
  m : List (ByteArray × Int)
  room : Int
  q : Nat → List Ev × Bool
def feedC (m : List (ByteArray × Int)) : List AV := [.sl 1 (m.map fun p => str p.1), .sl 1 (m.map fun p => u32 p.2), .ptr 1 0, .ptr 2 0, .ptr 3 0, .ptr 4 0, .ptr 5 0, .ptr 6 0, .ptr 7 0, .ptr 8 0]
def qB (F : Fd) (j : Nat) : AB := .box [i64 F.room, .own (9 + j) 8 0 (F.q j).1.length, bool (F.q j).2]
def qR (F : Fd) (j : Nat) : AB := .row 49 8 (evts (F.q j).1)
def feedM (F : Fd) : List AB := [.box (feedC F.m), qB F 0, qB F 1, qB F 2, qB F 3, qB F 4, qB F 5, qB F 6, qB F 7, qR F 0, qR F 1, qR F 2, qR F 3, qR F 4, qR F 5, qR F 6, qR F 7]

section
variable (F : Fd) (r : List AB)
theorem q0u : (feedM F).length = 17 := rfl
theorem fm_0n : (feedM F)[0]? = some (.box (feedC F.m)) := rfl
theorem q13 {m' : List (ByteArray × Int)} : (feedM F).set 0 (.box [.sl 1 (m'.map fun p => str p.1), .sl 1 (m'.map fun p => u32 p.2), .ptr 1 0, .ptr 2 0, .ptr 3 0, .ptr 4 0, .ptr 5 0, .ptr 6 0, .ptr 7 0, .ptr 8 0]) = feedM { F with m := m' } := rfl
theorem fm_0 : (feedM F ++ r)[0]? = some (.box (feedC F.m)) := rfl
theorem q18 {m' : List (ByteArray × Int)} : (feedM F ++ r).set 0 (.box [.sl 1 (m'.map fun p => str p.1), .sl 1 (m'.map fun p => u32 p.2), .ptr 1 0, .ptr 2 0, .ptr 3 0, .ptr 4 0, .ptr 5 0, .ptr 6 0, .ptr 7 0, .ptr 8 0]) = feedM { F with m := m' } ++ r := rfl
theorem fm_17 : (feedM F ++ r)[17]? = r[0]? := rfl
theorem fm_18 : (feedM F ++ r)[18]? = r[1]? := rfl
theorem fm_19 : (feedM F ++ r)[19]? = r[2]? := rfl
theorem fm_20 : (feedM F ++ r)[20]? = r[3]? := rfl
theorem fm_21 : (feedM F ++ r)[21]? = r[4]? := rfl
theorem q1k {x : AB} : (feedM F ++ r).set 17 x = feedM F ++ r.set 0 x := rfl
theorem q1m {x : AB} : (feedM F ++ r).set 18 x = feedM F ++ r.set 1 x := rfl
theorem q1n {x : AB} : (feedM F ++ r).set 19 x = feedM F ++ r.set 2 x := rfl
theorem q1l {x : AB} : (feedM F ++ r).set 20 x = feedM F ++ r.set 3 x := rfl
theorem q1o {x : AB} : (feedM F ++ r).set 21 x = feedM F ++ r.set 4 x := rfl
theorem q19 : (feedM F ++ r).length = 17 + r.length := by rw [List.length_append, q0u]
theorem q1p (r' : List AB) : (feedM F ++ r) ++ r' = feedM F ++ (r ++ r') := List.append_assoc _ _ _
theorem fm_trunc {M : List AB} {n : Nat} (h : 17 ≤ n) : (feedM F).map (AB.trunc M n) = feedM F := by
  have k : ∀ b, b < 17 → ¬ n ≤ b := fun b hb => by omega
  simp only [feedM, feedC, qB, qR, List.map_cons, List.map_nil, AB.trunc, q00, q01, k 1 (by decide), k 2 (by decide), k 3 (by decide), k 4 (by decide), k 5 (by decide), k 6 (by decide), k 7 (by decide), k 8 (by decide), k (9 + 0) (by decide), k (9 + 1) (by decide), k (9 + 2) (by decide), k (9 + 3) (by decide), k (9 + 4) (by decide), k (9 + 5) (by decide), k (9 + 6) (by decide), k (9 + 7) (by decide), if_false]
theorem fm_tk (k : Nat) : (feedM F ++ r).take (17 + k) = feedM F ++ r.take k := by
  rw [List.take_append, q0u, List.take_of_length_le (by rw [q0u]; omega), show 17 + k - 17 = k by omega]
theorem fm_ret {M : List AB} : ((feedM F ++ r).take 17).map (AB.trunc M 17) = feedM F := by
  rw [show (17 : Nat) = 17 + 0 from rfl, fm_tk, List.take_zero, List.append_nil, fm_trunc F (by decide)]
theorem fm_retn {M : List AB} : ((feedM F).take 17).map (AB.trunc M 17) = feedM F := by
  have := fm_ret F [] (M := M)
  rwa [List.append_nil] at this
theorem q1a {M : List AB} {b : Nat} (h : 17 ≤ b) : (feedM F ++ r).map (AB.shut M b) = feedM F ++ r.map (AB.shut M b) := by
  have k : ∀ c, c < 17 → ¬ c = b := fun c hc => by omega
  rw [List.map_append]
  simp only [feedM, feedC, qB, qR, List.map_cons, List.map_nil, AB.shut, shutVs, shutV, k 1 (by decide), k 2 (by decide), k 3 (by decide), k 4 (by decide), k 5 (by decide), k 6 (by decide), k 7 (by decide), k 8 (by decide), k (9 + 0) (by decide), k (9 + 1) (by decide), k (9 + 2) (by decide), k (9 + 3) (by decide), k (9 + 4) (by decide), k (9 + 5) (by decide), k (9 + 6) (by decide), k (9 + 7) (by decide), if_false]
theorem fm_kill {b : Nat} (h : 17 ≤ b) : (feedM F).map (AB.kill b) = feedM F := by
  have k : ∀ c, c < 17 → ¬ c = b := fun c hc => by omega
  simp only [feedM, feedC, qB, qR, List.map_cons, List.map_nil, AB.kill, q1u, killV, k 1 (by decide), k 2 (by decide), k 3 (by decide), k 4 (by decide), k 5 (by decide), k 6 (by decide), k 7 (by decide), k 8 (by decide), k (9 + 0) (by decide), k (9 + 1) (by decide), k (9 + 2) (by decide), k (9 + 3) (by decide), k (9 + 4) (by decide), k (9 + 5) (by decide), k (9 + 6) (by decide), k (9 + 7) (by decide), if_false]
end

theorem q14 (F : Fd) (r : List AB) {b : Nat} (h : 17 ≤ b) : (feedM F ++ r).map (AB.kill b) = feedM F ++ r.map (AB.kill b) := by rw [List.map_append, fm_kill F h]
def hasB (m k : Int) : Bool := andF .u32 (shrF .u32 m k) 1 == 1
def setB (m k : Int) : Int := orF .u32 m (shlF .u32 1 k)
def clrB (m k : Int) : Int := andNotF .u32 m (shlF .u32 1 k)
def cli (who : Int) : Bool := decide (0 ≤ who) && decide (who < 8)
theorem cli_iff {who : Int} (h : cli who = true) : ∃ k : Nat, k < 8 ∧ who = k := by
  simp only [cli, Bool.and_eq_true, decide_eq_true_eq] at h
  exact ⟨who.toNat, by omega, by omega⟩
theorem q54 (who : Int) : PCall P 74 [i64 who] (fun x => x = bool (cli who)) := by
  refine q0r tyOk Tryz.func74 rfl rfl ?_
  intro K hK
  simp only [Tryz.ntmps74, List.length_cons, List.length_nil, Nat.reduceAdd, Nat.reduceSub, List.replicate, List.cons_append, List.nil_append]
  try simp (maxSteps := 1000000) only [seval]
  (first | refine q0g ?_ ?_ | refine q0k ?_ ?_ | refine q0l ?_ ?_ | refine q0m ?_ ?_ | refine q0h ?_ ?_) <;> intro h
  · try simp (maxSteps := 1000000) only [seval]
    apply hK
    simp only [Tryz.results74, retK, ares, List.take_nil, Bool.and_true, Bool.true_and, AV.ofResults, St.trunc, q00, q01, List.getD_cons_zero, List.getD_cons_succ, List.map_nil, true_and, and_true, List.cons.injEq, exists_eq_left']
    rw [cli, h, Bool.true_and]
  · try simp (maxSteps := 1000000) only [seval]
    apply hK
    simp only [Tryz.results74, retK, ares, List.take_nil, Bool.and_true, Bool.true_and, AV.ofResults, St.trunc, q00, q01, List.getD_cons_zero, List.getD_cons_succ, List.map_nil, true_and, and_true, List.cons.injEq, exists_eq_left']
    rw [cli, h, Bool.false_and]

def maskOf (m : List (ByteArray × Int)) (u : ByteArray) : Int := (getG ltS eqS 0 m u).1
def watF (m : List (ByteArray × Int)) (who : Int) (u : ByteArray) : Bool := cli who && hasB (maskOf m u) who
theorem get_su (m : List (ByteArray × Int)) (u : ByteArray) (hr : q2u m) (hl : m.length ≤ 1000) : PCall P 73 [.agg [.sl 1 (m.map fun p => str p.1), .sl 1 (m.map fun p => u32 p.2)], str u]
    (fun x => x = .tup [u32 (maskOf m u), bool (getG ltS eqS 0 m u).2]) := get_call_su m u hr (by omega)
theorem feed_Watching (F : Fd) (who : Int) (u : ByteArray) (hr : q2u F.m) (hl : F.m.length ≤ 1000) : ACall P 70 (feedM F) [.ptr 0 0, i64 who, str u]
    (fun x m' => x = bool (watF F.m who u) ∧ m' = feedM F) := by
  refine q39 tyOk Tryz.func70 rfl rfl ?_
  intro K hK
  rw [q0u] at hK ⊢
  simp only [Tryz.ntmps70, List.length_cons, List.length_nil, Nat.reduceAdd, Nat.reduceSub, List.replicate, List.cons_append, List.nil_append]
  try simp (maxSteps := 1000000) only [seval, fm_0, fm_0n, q18, q13, fm_17, fm_18, fm_19, fm_20, fm_21, q1k, q1m, q1n, q1l, q1o, q19, q0u, q1p, q1a, q14, feedC, kpF, List.all_cons, List.all_nil]
  (refine q07 (get_su F.m u hr hl) rfl ?_; rintro _ rfl)
  try simp (maxSteps := 1000000) only [seval]
  (refine q07 (q54 who) rfl ?_; rintro _ rfl)
  unfold watF at hK
  cases hc : cli who
  · rw [hc] at hK
    try simp (maxSteps := 1000000) only [seval]
    apply hK
    simp only [Tryz.results70, retK, ares, Bool.and_true, AV.ofResults, St.trunc, q00, q01, List.getD_cons_zero, List.getD_cons_succ, and_true, List.cons.injEq, exists_eq_left']
    rw [fm_retn, Bool.false_and]
    exact ⟨rfl, rfl⟩
  · rw [hc] at hK
    obtain ⟨k, hk, rfl⟩ := cli_iff hc
    have h0 : (0 : Int) ≤ (k : Int) := by omega
    try simp (maxSteps := 1000000) only [seval, h0]
    apply hK
    simp only [Tryz.results70, retK, ares, Bool.and_true, Bool.true_and, AV.ofResults, St.trunc, q00, q01, List.getD_cons_zero, List.getD_cons_succ, true_and, and_true, List.cons.injEq, exists_eq_left']
    rw [fm_retn]
    exact ⟨rfl, rfl⟩
theorem with_su (m : List (ByteArray × Int)) (u : ByteArray) (v : Int) (hr : q2u m) (hl : m.length ≤ 1000) : PCall P 76 [.agg [.sl 1 (m.map fun p => str p.1), .sl 1 (m.map fun p => u32 p.2)], str u, u32 v]
    (fun x => x = .agg [.sl 1 ((withG ltS eqS m u v).map fun p => str p.1), .sl 1 ((withG ltS eqS m u v).map fun p => u32 p.2)]) := with_call_su m u v hr (by omega)
theorem without_su (m : List (ByteArray × Int)) (u : ByteArray) (hr : q2u m) (hl : m.length ≤ 1000) : PCall P 75 [.agg [.sl 1 (m.map fun p => str p.1), .sl 1 (m.map fun p => u32 p.2)], str u]
    (fun x => x = .agg [.sl 1 ((q1x ltS eqS m u).map fun p => str p.1), .sl 1 ((q1x ltS eqS m u).map fun p => u32 p.2)]) := without_call_su m u hr (by omega)
def watchM (m : List (ByteArray × Int)) (who : Int) (u : ByteArray) : List (ByteArray × Int) := if cli who = true then withG ltS eqS m u (setB (maskOf m u) who) else m
theorem feed_Watch (F : Fd) (who : Int) (u : ByteArray) (hr : q2u F.m) (hl : F.m.length ≤ 1000) : ACall P 71 (feedM F) [.ptr 0 0, i64 who, str u]
    (fun x m' => m' = feedM { F with m := watchM F.m who u }) := by
  refine q39 tyOk Tryz.func71 rfl rfl ?_
  intro K hK
  rw [q0u] at hK ⊢
  simp only [Tryz.ntmps71, List.length_cons, List.length_nil, Nat.reduceAdd, Nat.reduceSub, List.replicate, List.cons_append, List.nil_append]
  try simp (maxSteps := 1000000) only [seval, fm_0, fm_0n, q18, q13, fm_17, fm_18, fm_19, fm_20, fm_21, q1k, q1m, q1n, q1l, q1o, q19, q0u, q1p, q1a, q14, feedC, kpF, List.all_cons, List.all_nil]
  (refine q07 (q54 who) rfl ?_; rintro _ rfl)
  unfold watchM at hK
  cases hc : cli who
  · rw [hc, if_neg (by decide)] at hK
    try simp (maxSteps := 1000000) only [seval]
    apply hK
    simp only [Tryz.results71, retK, ares, Bool.and_true, AV.ofResults, St.trunc, q00, and_true, List.cons.injEq, exists_eq_left']
    rw [fm_retn]
  · rw [hc, if_pos rfl] at hK
    obtain ⟨k, hk, rfl⟩ := cli_iff hc
    have h0 : (0 : Int) ≤ (k : Int) := by omega
    try simp (maxSteps := 1000000) only [seval, fm_0, fm_0n, q18, q13, fm_17, fm_18, fm_19, fm_20, fm_21, q1k, q1m, q1n, q1l, q1o, q19, q0u, q1p, q1a, q14, feedC, kpF, List.all_cons, List.all_nil]
    (refine q07 (get_su F.m u hr hl) rfl ?_; rintro _ rfl)
    try simp (maxSteps := 1000000) only [seval, fm_0, fm_0n, q18, q13, fm_17, fm_18, fm_19, fm_20, fm_21, q1k, q1m, q1n, q1l, q1o, q19, q0u, q1p, q1a, q14, feedC, kpF, List.all_cons, List.all_nil]
    refine q0w tyOk (by rfl) (by simp only [q0u]; omega) (by kernel_rfl) rfl ?_
    try simp (maxSteps := 1000000) only [seval, fm_0, fm_0n, q18, q13, fm_17, fm_18, fm_19, fm_20, fm_21, q1k, q1m, q1n, q1l, q1o, q19, q0u, q1p, q1a, q14, feedC, kpF, List.all_cons, List.all_nil, h0]
    refine q3y (with_su F.m u (setB (maskOf F.m u) k) hr hl) rfl ?_
    try simp (maxSteps := 1000000) only [seval, fm_0, fm_0n, q18, q13, fm_17, fm_18, fm_19, fm_20, fm_21, q1k, q1m, q1n, q1l, q1o, q19, q0u, q1p, q1a, q14, feedC, kpF, List.all_cons, List.all_nil]
    refine ⟨by kernel_rfl, ?_⟩
    try simp (maxSteps := 1000000) only [seval, fm_0, fm_0n, q18, q13, fm_17, fm_18, fm_19, fm_20, fm_21, q1k, q1m, q1n, q1l, q1o, q19, q0u, q1p, q1a, q14, feedC, kpF, List.all_cons, List.all_nil]
    apply hK
    simp only [Tryz.results71, retK, ares, Bool.and_true, AV.ofResults, St.trunc, q00, and_true, List.cons.injEq, exists_eq_left']
    rw [fm_retn]
def q3j (m : List (ByteArray × Int)) (who : Int) (u : ByteArray) : List (ByteArray × Int) :=
  if cli who = true then (if (maskOf m u == 0) = true then m else if (clrB (maskOf m u) who == 0) = true then q1x ltS eqS m u else withG ltS eqS m u (clrB (maskOf m u) who)) else m
theorem feed_Unwatch (F : Fd) (who : Int) (u : ByteArray) (hr : q2u F.m) (hl : F.m.length ≤ 1000) : ACall P 43 (feedM F) [.ptr 0 0, i64 who, str u]
    (fun x m' => m' = feedM { F with m := q3j F.m who u }) := by
  refine q39 tyOk Tryz.func43 rfl rfl ?_
  intro K hK
  rw [q0u] at hK ⊢
  simp only [Tryz.ntmps43, List.length_cons, List.length_nil, Nat.reduceAdd, Nat.reduceSub, List.replicate, List.cons_append, List.nil_append]
  try simp (maxSteps := 1000000) only [seval, fm_0, fm_0n, q18, q13, fm_17, fm_18, fm_19, fm_20, fm_21, q1k, q1m, q1n, q1l, q1o, q19, q0u, q1p, q1a, q14, feedC, kpF, List.all_cons, List.all_nil]
  (refine q07 (get_su F.m u hr hl) rfl ?_; rintro _ rfl)
  try simp (maxSteps := 1000000) only [seval, fm_0, fm_0n, q18, q13, fm_17, fm_18, fm_19, fm_20, fm_21, q1k, q1m, q1n, q1l, q1o, q19, q0u, q1p, q1a, q14, feedC, kpF, List.all_cons, List.all_nil]
  (refine q07 (q54 who) rfl ?_; rintro _ rfl)
  unfold q3j at hK
  cases hc : cli who
  · rw [hc, if_neg (by decide)] at hK
    try simp (maxSteps := 1000000) only [seval]
    apply hK
    simp only [Tryz.results43, retK, ares, Bool.and_true, AV.ofResults, St.trunc, q00, and_true, List.cons.injEq, exists_eq_left']
    rw [fm_retn]
  · rw [hc, if_pos rfl] at hK
    obtain ⟨k, hk, rfl⟩ := cli_iff hc
    have h0 : (0 : Int) ≤ (k : Int) := by omega
    try simp (maxSteps := 1000000) only [seval, fm_0, fm_0n, q18, q13, fm_17, fm_18, fm_19, fm_20, fm_21, q1k, q1m, q1n, q1l, q1o, q19, q0u, q1p, q1a, q14, feedC, kpF, List.all_cons, List.all_nil, h0]
    (first | refine q0g ?_ ?_ | refine q0k ?_ ?_ | refine q0l ?_ ?_ | refine q0m ?_ ?_ | refine q0h ?_ ?_) <;> intro h1
    · rw [h1, if_pos rfl] at hK
      try simp (maxSteps := 1000000) only [seval]
      apply hK
      simp only [Tryz.results43, retK, ares, Bool.and_true, AV.ofResults, St.trunc, q00, and_true, List.cons.injEq, exists_eq_left']
      rw [fm_retn]
    · rw [h1, if_neg (by decide)] at hK
      try simp (maxSteps := 1000000) only [seval, fm_0, fm_0n, q18, q13, fm_17, fm_18, fm_19, fm_20, fm_21, q1k, q1m, q1n, q1l, q1o, q19, q0u, q1p, q1a, q14, feedC, kpF, List.all_cons, List.all_nil, h0]
      (first | refine q0g ?_ ?_ | refine q0k ?_ ?_ | refine q0l ?_ ?_ | refine q0m ?_ ?_ | refine q0h ?_ ?_) <;> intro h2
      · rw [show (clrB (maskOf F.m u) k == 0) = true from h2, if_pos rfl] at hK
        try simp (maxSteps := 1000000) only [seval, fm_0, fm_0n, q18, q13, fm_17, fm_18, fm_19, fm_20, fm_21, q1k, q1m, q1n, q1l, q1o, q19, q0u, q1p, q1a, q14, feedC, kpF, List.all_cons, List.all_nil]
        (refine q07 (without_su F.m u hr hl) rfl ?_; rintro _ rfl)
        try simp (maxSteps := 1000000) only [seval, fm_0, fm_0n, q18, q13, fm_17, fm_18, fm_19, fm_20, fm_21, q1k, q1m, q1n, q1l, q1o, q19, q0u, q1p, q1a, q14, feedC, kpF, List.all_cons, List.all_nil]
        apply hK
        simp only [Tryz.results43, retK, ares, Bool.and_true, AV.ofResults, St.trunc, q00, and_true, List.cons.injEq, exists_eq_left']
        rw [fm_retn]
      · rw [show (clrB (maskOf F.m u) k == 0) = false from h2, if_neg (by decide)] at hK
        try simp (maxSteps := 1000000) only [seval, fm_0, fm_0n, q18, q13, fm_17, fm_18, fm_19, fm_20, fm_21, q1k, q1m, q1n, q1l, q1o, q19, q0u, q1p, q1a, q14, feedC, kpF, List.all_cons, List.all_nil]
        (refine q07 (with_su F.m u (clrB (maskOf F.m u) k) hr hl) rfl ?_; rintro _ rfl)
        try simp (maxSteps := 1000000) only [seval, fm_0, fm_0n, q18, q13, fm_17, fm_18, fm_19, fm_20, fm_21, q1k, q1m, q1n, q1l, q1o, q19, q0u, q1p, q1a, q14, feedC, kpF, List.all_cons, List.all_nil]
        apply hK
        simp only [Tryz.results43, retK, ares, Bool.and_true, AV.ofResults, St.trunc, q00, and_true, List.cons.injEq, exists_eq_left']
        rw [fm_retn]

def cntM (m : List (ByteArray × Int)) (who : Int) : Nat := (m.filter fun p => cli who && hasB p.2 who).length
theorem cnt_next {m : List (ByteArray × Int)} {who : Int} {i : Nat} (h : i < m.length) : cntM (m.take (i + 1)) who = cntM (m.take i) who + (if (cli who && hasB m[i].2 who) = true then 1 else 0) := by
  rw [q23 h, cntM, List.filter_append, List.length_append, ← cntM, List.filter_cons]
  split <;> rfl
theorem cnt_le (m : List (ByteArray × Int)) (who : Int) : cntM m who ≤ m.length := List.length_filter_le _ _
theorem feed_Count (F : Fd) (who : Int) (hl : F.m.length ≤ 1000) : ACall P 69 (feedM F) [.ptr 0 0, i64 who]
    (fun x m' => x = i64 (cntM F.m who : Nat) ∧ m' = feedM F) := by
  refine acall_goY tyOk Tryz.func69 rfl rfl ?_
  intro K hK
  rw [q0u] at hK ⊢
  simp only [Tryz.ntmps69, List.length_cons, List.length_nil, Nat.reduceAdd, Nat.reduceSub, List.replicate, List.cons_append, List.nil_append]
  have hall := all_call_su F.m
  unfold q2x at hall
  try simp (maxSteps := 1000000) only [seval, fm_0, fm_0n, q18, q13, fm_17, fm_18, fm_19, fm_20, fm_21, q1k, q1m, q1n, q1l, q1o, q19, q0u, q1p, q1a, q14, feedC, kpF, List.all_cons, List.all_nil]
  (refine q07 hall rfl ?_; rintro _ rfl)
  try simp (maxSteps := 1000000) only [seval, fm_0, fm_0n, q18, q13, fm_17, fm_18, fm_19, fm_20, fm_21, q1k, q1m, q1n, q1l, q1o, q19, q0u, q1p, q1a, q14, feedC, kpF, List.all_cons, List.all_nil]
  refine range_rule tyOk (seq_su F.m (by omega)) (α := Nat) 19 19 [0, 3, 5] ([.ptr 0 0, .any, .any, .ptr 17 0, .any, .ptr 18 0, .any, .any, .any, .any, .any, .any, .any, .any, .any, .any, .any, .any, .any, .any, .any, .any, .any, .any, .any, .any, .any]) (fun xs i => i = xs.length ∧ i ≤ F.m.length)
    (fun i => feedM F ++ [.box [i64 who], .box [i64 (cntM (F.m.take i) who : Nat)]]) 0 rfl rfl
    (fun x hx => by simp only [q3v, List.mem_map] at hx; obtain ⟨p, _, rfl⟩ := hx; rfl) (by decide) (by decide) (by rfl) ⟨rfl, Nat.zero_le _⟩ rfl ?_ ?_
  · rintro xs x _ hpre ⟨rfl, hle⟩
    obtain ⟨hi, _, rfl⟩ := q55 hpre
    have hn := cnt_next (who := who) hi
    have hc2 := cnt_le (F.m.take xs.length) who
    rw [List.length_take] at hc2
    generalize F.m[xs.length] = p at *
    generalize cntM (F.m.take xs.length) who = n at *
    have ew : IntKind.i64.wrap ((n : Int) + 1) = ((n + 1 : Nat) : Int) := by rw [wrap_i64 (by omega) (by omega)]; rfl
    try simp (maxSteps := 1000000) only [seval, fm_0, fm_0n, q18, q13, fm_17, fm_18, fm_19, fm_20, fm_21, q1k, q1m, q1n, q1l, q1o, q19, q0u, q1p, q1a, q14, feedC, kpF, List.all_cons, List.all_nil]
    (refine q07 (q54 who) rfl ?_; rintro _ rfl)
    try simp (maxSteps := 1000000) only [seval, fm_0, fm_0n, q18, q13, fm_17, fm_18, fm_19, fm_20, fm_21, q1k, q1m, q1n, q1l, q1o, q19, q0u, q1p, q1a, q14, feedC, kpF, List.all_cons, List.all_nil]
    cases hc : cli who
    · rw [hc] at hn
      try simp (maxSteps := 1000000) only [seval, fm_0, fm_0n, q18, q13, fm_17, fm_18, fm_19, fm_20, fm_21, q1k, q1m, q1n, q1l, q1o, q19, q0u, q1p, q1a, q14, feedC, kpF, List.all_cons, List.all_nil]
      simp only [q2z, St.trunc, q00, q01, Nat.reduceLeDiff, ↓reduceIte]
      exact ⟨xs.length + 1, ⟨by first | rfl | simp, by omega⟩, by rw [hn]; rfl⟩
    · rw [hc] at hn
      obtain ⟨k, hk, rfl⟩ := cli_iff hc
      have h0 : (0 : Int) ≤ (k : Int) := by omega
      try simp (maxSteps := 1000000) only [seval, fm_0, fm_0n, q18, q13, fm_17, fm_18, fm_19, fm_20, fm_21, q1k, q1m, q1n, q1l, q1o, q19, q0u, q1p, q1a, q14, feedC, kpF, List.all_cons, List.all_nil, h0]
      (first | refine q0g ?_ ?_ | refine q0k ?_ ?_ | refine q0l ?_ ?_ | refine q0m ?_ ?_ | refine q0h ?_ ?_) <;> intro h1
      · rw [show hasB p.2 k = true from h1] at hn
        try simp (maxSteps := 1000000) only [seval, fm_0, fm_0n, q18, q13, fm_17, fm_18, fm_19, fm_20, fm_21, q1k, q1m, q1n, q1l, q1o, q19, q0u, q1p, q1a, q14, feedC, kpF, List.all_cons, List.all_nil, ew]
        simp only [q2z, St.trunc, q00, q01, Nat.reduceLeDiff, ↓reduceIte]
        exact ⟨xs.length + 1, ⟨by first | rfl | simp, by omega⟩, by rw [hn]; rfl⟩
      · rw [show hasB p.2 k = false from h1] at hn
        try simp (maxSteps := 1000000) only [seval, fm_0, fm_0n, q18, q13, fm_17, fm_18, fm_19, fm_20, fm_21, q1k, q1m, q1n, q1l, q1o, q19, q0u, q1p, q1a, q14, feedC, kpF, List.all_cons, List.all_nil, ew]
        simp only [q2z, St.trunc, q00, q01, Nat.reduceLeDiff, ↓reduceIte]
        exact ⟨xs.length + 1, ⟨by first | rfl | simp, by omega⟩, by rw [hn]; rfl⟩
  · rintro _ ⟨rfl, hle⟩
    have e1 : (q3v F.m).length = F.m.length := by simp [q3v]
    rw [e1, List.take_length]
    try simp (maxSteps := 1000000) only [seval, fm_0, fm_0n, q18, q13, fm_17, fm_18, fm_19, fm_20, fm_21, q1k, q1m, q1n, q1l, q1o, q19, q0u, q1p, q1a, q14, feedC, kpF, List.all_cons, List.all_nil]
    apply hK
    simp only [Tryz.results69, retK, ares, Bool.and_true, Bool.true_and, AV.ofResults, St.trunc, q00, q01, List.getD_cons_zero, List.getD_cons_succ, true_and, and_true, List.cons.injEq, exists_eq_left']
    rw [fm_ret]
end Go.Proofs.YtdkcpcflfnakdaaGreat
namespace Go.Proofs.YtdkcpcflfnakdaaGreat
open Go Go.Proofs.YtdkcpcflfnakdaaGreat.Sym
attribute [-sevalprocAttr] Int.reduceToNat Int.reduceNatCast Int.reduceNatCast' Nat.reduceSubDiff
set_option maxRecDepth 100000
set_option maxHeartbeats 1000000
set_option linter.unusedSimpArgs false
set_option linter.unusedVariables false

theorem q17.keeps {g : FuncId} {kp kp' : Nat → Bool} {m : List AB} {args : List AV} {K : AV → List AB → Prop} (h : q17 P kp g m args K) (hk : ∀ b, b < m.length → kp' b = true → kp b = true) : q17 P kp' g m args K :=
  ⟨h.1, fun Hd ι w vs hR => (h.2 Hd ι w vs hR).mono fun e w' ⟨y, x, ι', m', h1, h2, h3, h5, h4⟩ => ⟨y, x, ι', m', h1, h2, h3, fun b o hb ho => h5 b o (hk b (by have := (List.getElem?_eq_some_iff.1 ho).1; rw [hR.len] at this; exact this) hb) ho, h4⟩⟩
def Fd.setQ (F : Fd) (k : Nat) (v : List Ev × Bool) : Fd := { F with q := fun j => if j = k then v else F.q j }
theorem ring_at {g : FuncId} {args0 : List AV} {K0 K : AV → List AB → Prop} (F : Fd) (r : List AB) {k : Nat} (hk : k < 8) (h : q17 P (fun i => i != 1) g (ringM F.room (F.q k).1 (F.q k).2) args0 K0) (hb : (q0n args0).all (fun b => decide (b < 2)) = true)
    (hr : outOk (kpOf (fun i => i != 1) [1 + k, 9 + k] 0) [1 + k, 9 + k] 17 r = true)
    (hK : ∀ x m', K0 x m' → ∃ v, m' = ringM F.room v.1 v.2 ∧ K (ren [1 + k, 9 + k] x) (feedM (F.setQ k v) ++ r)) : q17 P (fun b => b != 9 + k) g (feedM F ++ r) (q1i [1 + k, 9 + k] args0) K := by
  have key : ∀ b, (b != 9 + k) = true → kpOf (fun i => i != 1) [1 + k, 9 + k] 0 b = true := by
    intro b hb
    have hb : b ≠ 9 + k := by simpa using hb
    simp only [kpOf]
    split
    · rfl
    · rw [if_neg (Ne.symm hb)]
  refine q17.keeps (kp := kpOf (fun i => i != 1) [1 + k, 9 + k] 0) ?_ (fun b _ hb => key b hb)
  have c : k = 0 ∨ k = 1 ∨ k = 2 ∨ k = 3 ∨ k = 4 ∨ k = 5 ∨ k = 6 ∨ k = 7 := by omega
  rcases c with rfl | rfl | rfl | rfl | rfl | rfl | rfl | rfl
  all_goals
    refine h.frame _ (by decide) rfl rfl hb rfl hr (fun x m' hx => ?_)
    obtain ⟨v, rfl, hv⟩ := hK x m' hx
    exact ⟨rfl, hv⟩

abbrev ids17 : List Nat := [0, 1, 2, 3, 4, 5, 6, 7, 8, 9, 10, 11, 12, 13, 14, 15, 16]
theorem fm_ren (F : Fd) : renM ids17 (feedM F) = feedM F := by
  simp only [feedM, feedC, qB, qR, renM, AB.ren, ren, q1i, List.getD_cons_zero, List.getD_cons_succ, Nat.reduceAdd]
theorem fm_at (F : Fd) (r : List AB) : ids17.map (fun b => (feedM F ++ r)[b]?) = (feedM F).map some := rfl
theorem fm_put (F F' : Fd) (r : List AB) : putL (feedM F ++ r) ids17 (feedM F') = feedM F' ++ r := by
  simp only [feedM, ids17, putL, List.cons_append, List.nil_append, List.set_cons_zero, List.set_cons_succ]
theorem feed_pre {g : FuncId} {args0 : List AV} {K0 K : AV → List AB → Prop} (F : Fd) (r : List AB) (h : ACall P g (feedM F) args0 K0) (ha : args0 = q1i ids17 args0) (hb : (q0n args0).all (fun b => decide (b < 17)) = true)
    (hK : ∀ x m', K0 x m' → ∃ F', m' = feedM F' ∧ K (ren ids17 x) (feedM F' ++ r)) : ACall P g (feedM F ++ r) args0 K := by
  refine h.frame ids17 (by decide) (by rw [fm_ren]; exact fm_at F r) ha hb (by rfl) (fun x m' hx => ?_)
  obtain ⟨F', rfl, hv⟩ := hK x m' hx
  exact ⟨rfl, by rw [fm_ren, fm_put]; exact hv⟩
theorem Watching_at (F : Fd) (r : List AB) (who : Int) (u : ByteArray) (hr : q2u F.m) (hl : F.m.length ≤ 1000) : ACall P 70 (feedM F ++ r) [.ptr 0 0, i64 who, str u]
    (fun x m' => x = bool (watF F.m who u) ∧ m' = feedM F ++ r) := by
  refine feed_pre F r (feed_Watching F who u hr hl) rfl rfl ?_
  rintro x m' ⟨rfl, rfl⟩
  exact ⟨F, rfl, rfl, rfl⟩

theorem queue_at (m : List (ByteArray × Int)) {k : Nat} (hk : k < 8) : ∃ tl, List.drop (2 + k * 1) [AV.sl 1 (m.map fun p => str p.1), .sl 1 (m.map fun p => u32 p.2), .ptr 1 0, .ptr 2 0, .ptr 3 0, .ptr 4 0, .ptr 5 0, .ptr 6 0, .ptr 7 0, .ptr 8 0] = .ptr (1 + k) 0 :: tl := by
  have c : k = 0 ∨ k = 1 ∨ k = 2 ∨ k = 3 ∨ k = 4 ∨ k = 5 ∨ k = 6 ∨ k = 7 := by omega
  rcases c with rfl | rfl | rfl | rfl | rfl | rfl | rfl | rfl <;> exact ⟨_, rfl⟩
def Fd.drain (F : Fd) (who : Int) : Fd := if cli who = true then F.setQ who.toNat ([], false) else F
def drainL (F : Fd) (who : Int) : List Ev := if cli who = true then (F.q who.toNat).1 else []
def drainB (F : Fd) (who : Int) : Bool := if cli who = true then (F.q who.toNat).2 else false
theorem feed_Drain (F : Fd) (who : Int) (hq : ∀ k, (F.q k).1.length ≤ 100000) : q17 P (fun b => decide (b < 9)) 67 (feedM F) [.ptr 0 0, i64 who]
    (fun x m' => x = .tup [if cli who = true then .sl 8 (evts (drainL F who)) else .v (.slice none 0 0), bool (drainB F who)] ∧ m' = feedM (F.drain who)) := by
  have h : q0s P 9 67 (feedM F) [.ptr 0 0, i64 who]
      (fun x m' => x = .tup [if cli who = true then .sl 8 (evts (drainL F who)) else .v (.slice none 0 0), bool (drainB F who)] ∧ m' = feedM (F.drain who)) := by
    refine q2y tyOk Tryz.func67 rfl rfl (by rw [q0u]; decide) ?_
    intro K hK
    rw [q0u] at hK
    simp only [Tryz.ntmps67, List.length_cons, List.length_nil, Nat.reduceAdd, Nat.reduceSub, List.replicate, List.cons_append, List.nil_append]
    try simp (maxSteps := 1000000) only [seval, fm_0, fm_0n, q18, q13, fm_17, fm_18, fm_19, fm_20, fm_21, q1k, q1m, q1n, q1l, q1o, q19, q0u, q1p, q1a, q14, feedC, kpF, List.all_cons, List.all_nil]
    (refine q07 (q54 who) rfl ?_; rintro _ rfl)
    unfold drainL drainB Fd.drain at hK
    cases hc : cli who
    · rw [hc] at hK
      try simp (maxSteps := 1000000) only [seval]
      apply hK
      simp only [Tryz.results67, retK, ares, Bool.and_true, Bool.true_and, AV.ofResults, St.trunc, q00, q01, List.getD_cons_zero, List.getD_cons_succ, true_and, and_true, ↓reduceIte, Bool.false_eq_true, List.cons.injEq, exists_eq_left']
      rw [fm_retn]
      first | done | exact ⟨rfl, rfl⟩
    · rw [hc] at hK
      obtain ⟨k, hk, rfl⟩ := cli_iff hc
      have h0 : (0 : Int) ≤ (k : Int) := by omega
      obtain ⟨tl, htl⟩ := queue_at F.m hk
      try simp (maxSteps := 1000000) only [seval, fm_0, fm_0n, q18, q13, fm_17, fm_18, fm_19, fm_20, fm_21, q1k, q1m, q1n, q1l, q1o, q19, q0u, q1p, q1a, q14, feedC, kpF, List.all_cons, List.all_nil, h0, hk, Int.toNat_natCast, htl]
      refine ⟨Nat.succ_pos _, ?_⟩
      refine q2i (kp := fun b => b != 9 + k) (fun b hb => by simp; omega) (ring_at F [] hk (ring_Drain F.room (F.q k).1 (F.q k).2 (hq k)) rfl rfl ?_)
      rintro x m' ⟨rfl, rfl⟩
      refine ⟨([], false), rfl, ?_⟩
      try simp (maxSteps := 1000000) only [seval, fm_0, fm_0n, q18, q13, fm_17, fm_18, fm_19, fm_20, fm_21, q1k, q1m, q1n, q1l, q1o, q19, q0u, q1p, q1a, q14, feedC, kpF, List.all_cons, List.all_nil]
      simp only [if_true, Int.toNat_natCast] at hK
      apply hK
      simp only [Tryz.results67, retK, ares, Bool.and_true, Bool.true_and, AV.ofResults, St.trunc, q00, q01, List.getD_cons_zero, List.getD_cons_succ, true_and, and_true, List.cons.injEq, exists_eq_left']
      rw [fm_retn]
      first | done | exact ⟨rfl, rfl⟩
  exact h.toX

def tell1 (F : Fd) (c : Chg) (seq : Int) (n : Nat) : Fd := { F with q := fun k => if (decide (k < n) && watF F.m k c.u) = true then putR F.room (F.q k) ⟨c.u, c.old, c.new, seq⟩ else F.q k }
theorem tell1_0 (F : Fd) (c : Chg) (seq : Int) : tell1 F c seq 0 = F := by
  simp only [tell1, Nat.not_lt_zero, decide_false, Bool.false_and, Bool.false_eq_true, if_false]
theorem tell1_at (F : Fd) (c : Chg) (seq : Int) (j : Nat) : (tell1 F c seq j).q j = F.q j := by
  simp [tell1]
theorem tell1_no {F : Fd} {c : Chg} {seq : Int} {j : Nat} (h : watF F.m j c.u = false) : tell1 F c seq (j + 1) = tell1 F c seq j := by
  unfold tell1
  congr 1
  funext k
  by_cases e : k = j
  · subst e; rw [h]; simp
  · have : decide (k < j + 1) = decide (k < j) := by rw [Bool.eq_iff_iff]; simp; omega
    rw [this]
theorem tell1_yes {F : Fd} {c : Chg} {seq : Int} {j : Nat} (h : watF F.m j c.u = true) : tell1 F c seq (j + 1) = (tell1 F c seq j).setQ j (putR F.room (F.q j) ⟨c.u, c.old, c.new, seq⟩) := by
  unfold tell1 Fd.setQ
  congr 1
  funext k
  by_cases e : k = j
  · subst e; rw [h]; simp
  · have : decide (k < j + 1) = decide (k < j) := by rw [Bool.eq_iff_iff]; simp; omega
    rw [this]; simp [e]
theorem putR_len (room : Int) (q : List Ev × Bool) (e : Ev) : (putR room q e).1.length ≤ q.1.length + 1 := by
  unfold putR; split <;> simp
theorem tell1_len (F : Fd) (c : Chg) (seq : Int) (n k : Nat) : ((tell1 F c seq n).q k).1.length ≤ (F.q k).1.length + 1 := by
  unfold tell1
  simp only
  split
  · exact putR_len _ _ _
  · omega
def tellF (F : Fd) (l : List Chg) (seq : Int) : Fd := l.foldl (fun F c => tell1 F c seq 8) F
theorem tellF_next {F : Fd} {l : List Chg} {seq : Int} {i : Nat} (h : i < l.length) : tellF F (l.take (i + 1)) seq = tell1 (tellF F (l.take i) seq) l[i] seq 8 := by
  rw [q23 h, tellF, List.foldl_append]; rfl
theorem tellF_ok (F : Fd) (l : List Chg) (seq : Int) : (tellF F l seq).m = F.m ∧ (tellF F l seq).room = F.room ∧ ∀ k, ((tellF F l seq).q k).1.length ≤ (F.q k).1.length + l.length := by
  induction l generalizing F with
  | nil => exact ⟨rfl, rfl, fun k => Nat.le_refl _⟩
  | cons c l ih =>
    obtain ⟨h1, h2, h3⟩ := ih (tell1 F c seq 8)
    refine ⟨h1, h2, fun k => ?_⟩
    have := h3 k
    have := tell1_len F c seq 8 k
    simp only [List.length_cons]
    exact Nat.le_trans (h3 k) (by omega)
theorem ptr_at {k : Nat} (hk : k < 8) : ∃ tl, List.drop (k * 1) [AV.ptr 1 0, .ptr 2 0, .ptr 3 0, .ptr 4 0, .ptr 5 0, .ptr 6 0, .ptr 7 0, .ptr 8 0] = .ptr (1 + k) 0 :: tl := by
  have c : k = 0 ∨ k = 1 ∨ k = 2 ∨ k = 3 ∨ k = 4 ∨ k = 5 ∨ k = 6 ∨ k = 7 := by omega
  rcases c with rfl | rfl | rfl | rfl | rfl | rfl | rfl | rfl <;> exact ⟨_, rfl⟩
theorem ring_PutX (room : Int) (l : List Ev) (lost : Bool) (e : Ev) (hl : l.length ≤ 100000) : q17 P (fun i => i != 1) 93 (ringM room l lost) [.ptr 0 0, e.av]
    (fun x m' => (∃ b, x = bool b) ∧ m' = ringM room (putR room (l, lost) e).1 (putR room (l, lost) e).2) :=
  q17.keeps (ring_Put room l lost e hl).toX fun b hb hk => by
    have hb : b < 2 := hb
    have hk : b ≠ 1 := by simpa using hk
    exact decide_eq_true (by omega)
theorem feed_Tell (F : Fd) (l : List Chg) (seq : Int) (hr : q2u F.m) (hl : F.m.length ≤ 1000) (hll : l.length ≤ 50000) (hq : ∀ k, (F.q k).1.length ≤ 50000) : q0s P 9 64 (feedM F) [.ptr 0 0, .sl 7 (chgs l), u64 seq]
    (fun x m' => m' = feedM (tellF F l seq)) := by
  refine q2y tyOk Tryz.func64 rfl rfl (by rw [q0u]; decide) ?_
  intro K hK
  rw [q0u] at hK
  simp only [Tryz.ntmps64, List.length_cons, List.length_nil, Nat.reduceAdd, Nat.reduceSub, List.replicate, List.cons_append, List.nil_append]
  try simp (maxSteps := 1000000) only [seval, fm_0, fm_0n, q18, q13, fm_17, fm_18, fm_19, fm_20, fm_21, q1k, q1m, q1n, q1l, q1o, q19, q0u, q1p, q1a, q14, feedC, kpF, List.all_cons, List.all_nil, chgs_len]
  refine q1h tyOk (α := Nat) 17 [0, 2, 10, 11, 12] (fun i => i ≤ l.length)
    (fun i => ⟨[.ptr 0 0, .any, u64 seq, .any, .any, .any, .any, .any, .any, .any, .sl 7 (chgs l), i64 l.length, i64 i, .any, .any, .any, .any, .any, .any, .any, .any, .any, .any, .any, .any, .any, .any, .any, .any, .any, .any, .any, .any, .any, .any, .any, .any, .any, .any, .any, .any], feedM (tellF F (l.take i) seq)⟩)
    (fun i => l.length - i) 0 (by decide) (Nat.zero_le _) rfl ?_
  intro i hi
  try simp (maxSteps := 1000000) only [seval, fm_0, fm_0n, q18, q13, fm_17, fm_18, fm_19, fm_20, fm_21, q1k, q1m, q1n, q1l, q1o, q19, q0u, q1p, q1a, q14, feedC, kpF, List.all_cons, List.all_nil, chgs_len]
  (first | refine q0g ?_ ?_ | refine q0k ?_ ?_ | refine q0l ?_ ?_ | refine q0m ?_ ?_ | refine q0h ?_ ?_) <;> intro h
  · have hlt : i < l.length := by simpa using h
    have eg : (chgs l).getD (Int.toNat (i : Int)) .any = .agg [str l[i].u, i64 l[i].old.st, i64 l[i].old.pr, i64 l[i].old.n, i64 l[i].new.st, i64 l[i].new.pr, i64 l[i].new.n] := at_map hlt
    have ew : IntKind.i64.wrap ((i : Int) + 1) = ((i + 1 : Nat) : Int) := by rw [wrap_i64 (by omega) (by omega)]; rfl
    have c1 : (0 : Int) ≤ (i : Int) ∧ Int.toNat (i : Int) < l.length := by omega
    have hn := tellF_next (F := F) (seq := seq) hlt
    obtain ⟨ok1, ok2, ok3⟩ := tellF_ok F (l.take i) seq
    have ok3 : ∀ k, ((tellF F (l.take i) seq).q k).1.length ≤ 99999 := fun k => by
      have h1 := ok3 k
      have h2 := hq k
      rw [List.length_take] at h1
      omega
    rw [← ok1] at hr hl
    generalize tellF F (l.take i) seq = G at *
    generalize l[i] = c at *
    try simp (maxSteps := 1000000) only [seval, fm_0, fm_0n, q18, q13, fm_17, fm_18, fm_19, fm_20, fm_21, q1k, q1m, q1n, q1l, q1o, q19, q0u, q1p, q1a, q14, feedC, kpF, List.all_cons, List.all_nil, eg, c1, chgs_len]
    refine q1h tyOk (α := Nat) 18 [0, 2, 7, 10, 11, 12, 19, 20] (fun j => j ≤ 8)
      (fun j => ⟨[.ptr 0 0, .any, u64 seq, .any, .any, .any, .any, .ptr 17 0, .any, .any, .sl 7 (chgs l), i64 l.length, i64 i, .any, .any, .any, .any, .any, .any, .agg [.ptr 1 0, .ptr 2 0, .ptr 3 0, .ptr 4 0, .ptr 5 0, .ptr 6 0, .ptr 7 0, .ptr 8 0], i64 j, .any, .any, .any, .any, .any, .any, .any, .any, .any, .any, .any, .any, .any, .any, .any, .any, .any, .any, .any, .any],
        feedM (tell1 G c seq j) ++ [.box [str c.u, i64 c.old.st, i64 c.old.pr, i64 c.old.n, i64 c.new.st, i64 c.new.pr, i64 c.new.n]]⟩)
      (fun j => 8 - j) 0 (by decide) (Nat.zero_le _) ?_ ?_
    · rw [tell1_0]; rfl
    intro j hj
    try simp (maxSteps := 1000000) only [seval, fm_0, fm_0n, q18, q13, fm_17, fm_18, fm_19, fm_20, fm_21, q1k, q1m, q1n, q1l, q1o, q19, q0u, q1p, q1a, q14, feedC, kpF, List.all_cons, List.all_nil]
    (first | refine q0g ?_ ?_ | refine q0k ?_ ?_ | refine q0l ?_ ?_ | refine q0m ?_ ?_ | refine q0h ?_ ?_) <;> intro hj2
    · have hj3 : j < 8 := by have := of_decide_eq_true hj2; omega
      have ewj : IntKind.i64.wrap ((j : Int) + 1) = ((j + 1 : Nat) : Int) := by rw [wrap_i64 (by omega) (by omega)]; rfl
      obtain ⟨tl, htl⟩ := ptr_at hj3
      try simp (maxSteps := 1000000) only [seval, fm_0, fm_0n, q18, q13, fm_17, fm_18, fm_19, fm_20, fm_21, q1k, q1m, q1n, q1l, q1o, q19, q0u, q1p, q1a, q14, feedC, kpF, List.all_cons, List.all_nil, Int.toNat_natCast, htl]
      refine ⟨⟨⟨by omega, by omega⟩, by omega⟩, ?_⟩
      refine q30 ((Watching_at (tell1 G c seq j) [.box [str c.u, i64 c.old.st, i64 c.old.pr, i64 c.old.n, i64 c.new.st, i64 c.new.pr, i64 c.new.n]] j c.u hr hl).mono ?_)
      rintro _ _ ⟨rfl, rfl⟩
      try simp (maxSteps := 1000000) only [seval, fm_0, fm_0n, q18, q13, fm_17, fm_18, fm_19, fm_20, fm_21, q1k, q1m, q1n, q1l, q1o, q19, q0u, q1p, q1a, q14, feedC, kpF, List.all_cons, List.all_nil]
      change condK P T 9 (.v (.bool (watF G.m j c.u))) _ _ _ _ _
      cases hw : watF G.m j c.u
      · try simp (maxSteps := 1000000) only [seval, fm_0, fm_0n, q18, q13, fm_17, fm_18, fm_19, fm_20, fm_21, q1k, q1m, q1n, q1l, q1o, q19, q0u, q1p, q1a, q14, feedC, kpF, List.all_cons, List.all_nil, ewj]
        simp only [q0p, St.trunc, St.keep, q00, q01, keepV, List.drop_zero, List.elem_cons, List.elem_nil, Nat.reduceAdd, Nat.reduceBEq, Nat.reduceLeDiff, Nat.zero_add, Bool.false_eq_true, ↓reduceIte]
        exact ⟨j + 1, hj3, by omega, by rw [tell1_no hw]; rfl⟩
      · try simp (maxSteps := 1000000) only [seval, fm_0, fm_0n, q18, q13, fm_17, fm_18, fm_19, fm_20, fm_21, q1k, q1m, q1n, q1l, q1o, q19, q0u, q1p, q1a, q14, feedC, kpF, List.all_cons, List.all_nil]
        refine q2i (kp := fun b => b != 9 + j) (fun b hb => by simp; omega) (ring_at (tell1 G c seq j) _ hj3 (ring_PutX (tell1 G c seq j).room ((tell1 G c seq j).q j).1 ((tell1 G c seq j).q j).2 ⟨c.u, c.old, c.new, seq⟩ (by rw [tell1_at]; have := ok3 j; omega)) rfl (by simp [outOk, q0n, bks]) ?_)
        rintro x m' ⟨⟨b, rfl⟩, rfl⟩
        refine ⟨_, rfl, ?_⟩
        have hset : (tell1 G c seq j).setQ j (putR (tell1 G c seq j).room (((tell1 G c seq j).q j).1, ((tell1 G c seq j).q j).2) ⟨c.u, c.old, c.new, seq⟩) = tell1 G c seq (j + 1) := by
          rw [tell1_yes hw, tell1_at]; rfl
        rw [hset]
        have nq : ∀ b, b < 9 ∨ b = 17 ∨ b = 1 + j → (b != 9 + j) = true := fun b hb => by simp; omega
        try simp (maxSteps := 1000000) only [seval, fm_0, fm_0n, q18, q13, fm_17, fm_18, fm_19, fm_20, fm_21, q1k, q1m, q1n, q1l, q1o, q19, q0u, q1p, q1a, q14, feedC, kpF, List.all_cons, List.all_nil, ewj, nq 0 (by omega), nq 1 (by omega), nq 2 (by omega), nq 3 (by omega), nq 4 (by omega), nq 5 (by omega), nq 6 (by omega), nq 7 (by omega), nq 8 (by omega), nq 17 (by omega), nq (1 + j) (.inr (.inr rfl))]
        simp only [q0p, St.trunc, St.keep, q00, q01, keepV, List.drop_zero, List.elem_cons, List.elem_nil, Nat.reduceAdd, Nat.reduceBEq, Nat.reduceLeDiff, Nat.zero_add, Bool.false_eq_true, ↓reduceIte]
        exact ⟨j + 1, hj3, by omega, by rfl⟩
    · have hje : j = 8 := by have := of_decide_eq_false hj2; omega
      subst hje
      try simp (maxSteps := 1000000) only [seval, fm_0, fm_0n, q18, q13, fm_17, fm_18, fm_19, fm_20, fm_21, q1k, q1m, q1n, q1l, q1o, q19, q0u, q1p, q1a, q14, feedC, kpF, List.all_cons, List.all_nil, ew]
      simp only [q0p, St.trunc, St.keep, q00, q01, keepV, List.drop_zero, List.elem_cons, List.elem_nil, Nat.reduceAdd, Nat.reduceBEq, Nat.reduceLeDiff, Nat.le_refl, Nat.zero_add, Bool.false_eq_true, ↓reduceIte]
      exact ⟨i + 1, hlt, by omega, by rw [hn]; rfl⟩
  · obtain rfl : i = l.length := by have := of_decide_eq_false h; omega
    rw [List.take_length]
    try simp (maxSteps := 1000000) only [seval, fm_0, fm_0n, q18, q13, fm_17, fm_18, fm_19, fm_20, fm_21, q1k, q1m, q1n, q1l, q1o, q19, q0u, q1p, q1a, q14, feedC, kpF, List.all_cons, List.all_nil]
    apply hK
    simp only [Tryz.results64, retK, ares, Bool.and_true, AV.ofResults, St.trunc, q00, and_true, List.cons.injEq, exists_eq_left']
    rw [fm_retn]
end Go.Proofs.YtdkcpcflfnakdaaGreat
namespace Go.Proofs.YtdkcpcflfnakdaaGreat
open Go Go.Proofs.YtdkcpcflfnakdaaGreat.Sym
attribute [-sevalprocAttr] Int.reduceToNat Int.reduceNatCast Int.reduceNatCast' Nat.reduceSubDiff
set_option maxRecDepth 100000
set_option maxHeartbeats 1000000
set_option linter.unusedSimpArgs false
set_option linter.unusedVariables false

def newM (room : Int) : Nat → List AB
  | 0 => [.box [.v (.slice none 0 0), .v (.slice none 0 0), .v (.pointer none), .v (.pointer none), .v (.pointer none), .v (.pointer none), .v (.pointer none), .v (.pointer none), .v (.pointer none), .v (.pointer none)]]
  | 1 => [.box [.v (.slice none 0 0), .v (.slice none 0 0), .ptr 1 0, .v (.pointer none), .v (.pointer none), .v (.pointer none), .v (.pointer none), .v (.pointer none), .v (.pointer none), .v (.pointer none)], .box [i64 room, .v (.slice none 0 0), bool false]]
  | 2 => [.box [.v (.slice none 0 0), .v (.slice none 0 0), .ptr 1 0, .ptr 2 0, .v (.pointer none), .v (.pointer none), .v (.pointer none), .v (.pointer none), .v (.pointer none), .v (.pointer none)], .box [i64 room, .v (.slice none 0 0), bool false], .box [i64 room, .v (.slice none 0 0), bool false]]
  | 3 => [.box [.v (.slice none 0 0), .v (.slice none 0 0), .ptr 1 0, .ptr 2 0, .ptr 3 0, .v (.pointer none), .v (.pointer none), .v (.pointer none), .v (.pointer none), .v (.pointer none)], .box [i64 room, .v (.slice none 0 0), bool false], .box [i64 room, .v (.slice none 0 0), bool false], .box [i64 room, .v (.slice none 0 0), bool false]]
  | 4 => [.box [.v (.slice none 0 0), .v (.slice none 0 0), .ptr 1 0, .ptr 2 0, .ptr 3 0, .ptr 4 0, .v (.pointer none), .v (.pointer none), .v (.pointer none), .v (.pointer none)], .box [i64 room, .v (.slice none 0 0), bool false], .box [i64 room, .v (.slice none 0 0), bool false], .box [i64 room, .v (.slice none 0 0), bool false], .box [i64 room, .v (.slice none 0 0), bool false]]
  | 5 => [.box [.v (.slice none 0 0), .v (.slice none 0 0), .ptr 1 0, .ptr 2 0, .ptr 3 0, .ptr 4 0, .ptr 5 0, .v (.pointer none), .v (.pointer none), .v (.pointer none)], .box [i64 room, .v (.slice none 0 0), bool false], .box [i64 room, .v (.slice none 0 0), bool false], .box [i64 room, .v (.slice none 0 0), bool false], .box [i64 room, .v (.slice none 0 0), bool false], .box [i64 room, .v (.slice none 0 0), bool false]]
  | 6 => [.box [.v (.slice none 0 0), .v (.slice none 0 0), .ptr 1 0, .ptr 2 0, .ptr 3 0, .ptr 4 0, .ptr 5 0, .ptr 6 0, .v (.pointer none), .v (.pointer none)], .box [i64 room, .v (.slice none 0 0), bool false], .box [i64 room, .v (.slice none 0 0), bool false], .box [i64 room, .v (.slice none 0 0), bool false], .box [i64 room, .v (.slice none 0 0), bool false], .box [i64 room, .v (.slice none 0 0), bool false], .box [i64 room, .v (.slice none 0 0), bool false]]
  | 7 => [.box [.v (.slice none 0 0), .v (.slice none 0 0), .ptr 1 0, .ptr 2 0, .ptr 3 0, .ptr 4 0, .ptr 5 0, .ptr 6 0, .ptr 7 0, .v (.pointer none)], .box [i64 room, .v (.slice none 0 0), bool false], .box [i64 room, .v (.slice none 0 0), bool false], .box [i64 room, .v (.slice none 0 0), bool false], .box [i64 room, .v (.slice none 0 0), bool false], .box [i64 room, .v (.slice none 0 0), bool false], .box [i64 room, .v (.slice none 0 0), bool false], .box [i64 room, .v (.slice none 0 0), bool false]]
  | _ => [.box [.v (.slice none 0 0), .v (.slice none 0 0), .ptr 1 0, .ptr 2 0, .ptr 3 0, .ptr 4 0, .ptr 5 0, .ptr 6 0, .ptr 7 0, .ptr 8 0], .box [i64 room, .v (.slice none 0 0), bool false], .box [i64 room, .v (.slice none 0 0), bool false], .box [i64 room, .v (.slice none 0 0), bool false], .box [i64 room, .v (.slice none 0 0), bool false], .box [i64 room, .v (.slice none 0 0), bool false], .box [i64 room, .v (.slice none 0 0), bool false], .box [i64 room, .v (.slice none 0 0), bool false], .box [i64 room, .v (.slice none 0 0), bool false]]
theorem ring_New1 (room : Int) : ACall P 65 [] [i64 room] (fun x m' => x = .ptr 0 0 ∧ m' = [.box [i64 (max room 0), .v (.slice none 0 0), bool false]]) := by
  refine q0s.toA (q1z tyOk Tryz.func65 rfl rfl (N := 0) (M := 1) (Nat.zero_le _) (by simp) ?_)
  intro K hK
  simp only [Tryz.ntmps65, List.length_cons, List.length_nil, Nat.reduceAdd, Nat.reduceSub, List.replicate, List.cons_append, List.nil_append]
  try simp (maxSteps := 1000000) only [seval]
  apply hK
  simp only [Tryz.results65, retK, ares, List.take_nil, Bool.and_true, Bool.true_and, AV.ofResults, St.trunc, q00, q01, AB.trunc, List.getD_cons_zero, List.getD_cons_succ, List.take_succ_cons, List.map_nil, List.map_cons, Nat.reduceLeDiff, true_and, and_true, ↓reduceIte, List.cons.injEq, exists_eq_left']
  rw [show (if 0 > room then 0 else room) = max room 0 by omega]
theorem feed_New0 (room : Int) : ACall P 38 [] [i64 room] (fun x m' => x = .ptr 0 0 ∧ m' = newM (max room 0) 8) := by
  refine q0s.toA (q1z tyOk Tryz.func38 rfl rfl (N := 0) (M := 9) (Nat.zero_le _) (by simp) ?_)
  intro K hK
  simp only [Tryz.ntmps38, List.length_cons, List.length_nil, Nat.reduceAdd, Nat.reduceSub, List.replicate, List.cons_append, List.nil_append]
  try simp (maxSteps := 1000000) only [seval]
  refine q1h tyOk (α := Nat) 9 [0, 3, 7] (fun i => i ≤ 8)
    (fun i => ⟨[i64 room, .any, .any, .ptr 0 0, .any, .any, .any, i64 i, .any, .any, .any, .any, .any, .any, .any, .any, .any, .any, .any], newM (max room 0) i⟩)
    (fun i => 8 - i) 0 (by decide) (Nat.zero_le _) rfl ?_
  intro i hi
  try simp (maxSteps := 1000000) only [seval]
  (first | refine q0g ?_ ?_ | refine q0k ?_ ?_ | refine q0l ?_ ?_ | refine q0m ?_ ?_ | refine q0h ?_ ?_) <;> intro h
  · have hlt : i < 8 := by have := of_decide_eq_true h; omega
    have c : i = 0 ∨ i = 1 ∨ i = 2 ∨ i = 3 ∨ i = 4 ∨ i = 5 ∨ i = 6 ∨ i = 7 := by omega
    rcases c with rfl | rfl | rfl | rfl | rfl | rfl | rfl | rfl
    all_goals
      simp only [newM]
      try simp (maxSteps := 1000000) only [seval]
      refine q0w tyOk (by rfl) (by simp only [List.length_cons, List.length_nil, Nat.reduceAdd, Nat.zero_le]) (by kernel_rfl) rfl ?_
      try simp (maxSteps := 1000000) only [seval, Int.cast_ofNat_Int]
      refine drawCall_newB (ring_New1 room) rfl rfl ?_
      try simp (maxSteps := 1000000) only [seval, Int.cast_ofNat_Int, Int.reduceToNat]
      refine ⟨by kernel_rfl, ?_⟩
      try simp (maxSteps := 1000000) only [seval, Int.cast_ofNat_Int, Int.reduceToNat]
      simp only [q0p, St.trunc, St.keep, q00, q01, AB.trunc, keepV, List.elem_cons, List.elem_nil, List.take_succ_cons, List.take_zero, List.map_cons, List.map_nil, Nat.reduceAdd, Nat.reduceBEq, Nat.reduceLeDiff, Nat.zero_add, Bool.false_eq_true, ↓reduceIte]
      refine ⟨_ + 1, hlt, by omega, rfl⟩
  · obtain rfl : i = 8 := by have := of_decide_eq_false h; omega
    try simp (maxSteps := 1000000) only [seval]
    apply hK
    simp only [Tryz.results38, retK, ares, Bool.and_true, Bool.true_and, AV.ofResults, St.trunc, q00, q01, List.getD_cons_zero, List.getD_cons_succ, Nat.reduceLeDiff, true_and, and_true, ↓reduceIte, List.cons.injEq, exists_eq_left']
    rfl
theorem new_turn0 (room : Int) : Turns ⟨[.ptr 0 0], [.box [.v (.slice none 0 0), .v (.slice none 0 0), .ptr 1 0, .ptr 2 0, .ptr 3 0, .ptr 4 0, .ptr 5 0, .ptr 6 0, .ptr 7 0, .ptr 8 0], .box [i64 room, .v (.slice none 0 0), bool false], .box [i64 room, .v (.slice none 0 0), bool false], .box [i64 room, .v (.slice none 0 0), bool false], .box [i64 room, .v (.slice none 0 0), bool false], .box [i64 room, .v (.slice none 0 0), bool false], .box [i64 room, .v (.slice none 0 0), bool false], .box [i64 room, .v (.slice none 0 0), bool false], .box [i64 room, .v (.slice none 0 0), bool false]]⟩ ⟨[.ptr 0 0], [.box [.sl 1 [], .v (.slice none 0 0), .ptr 1 0, .ptr 2 0, .ptr 3 0, .ptr 4 0, .ptr 5 0, .ptr 6 0, .ptr 7 0, .ptr 8 0], .box [i64 room, .v (.slice none 0 0), bool false], .box [i64 room, .v (.slice none 0 0), bool false], .box [i64 room, .v (.slice none 0 0), bool false], .box [i64 room, .v (.slice none 0 0), bool false], .box [i64 room, .v (.slice none 0 0), bool false], .box [i64 room, .v (.slice none 0 0), bool false], .box [i64 room, .v (.slice none 0 0), bool false], .box [i64 room, .v (.slice none 0 0), bool false]]⟩ :=
  Turns.asSlIn (s := ⟨[.ptr 0 0], [.box [.v (.slice none 0 0), .v (.slice none 0 0), .ptr 1 0, .ptr 2 0, .ptr 3 0, .ptr 4 0, .ptr 5 0, .ptr 6 0, .ptr 7 0, .ptr 8 0], .box [i64 room, .v (.slice none 0 0), bool false], .box [i64 room, .v (.slice none 0 0), bool false], .box [i64 room, .v (.slice none 0 0), bool false], .box [i64 room, .v (.slice none 0 0), bool false], .box [i64 room, .v (.slice none 0 0), bool false], .box [i64 room, .v (.slice none 0 0), bool false], .box [i64 room, .v (.slice none 0 0), bool false], .box [i64 room, .v (.slice none 0 0), bool false]]⟩) (b := 0) (c := 0) 1 rfl rfl
theorem new_turn1 (room : Int) : Turns ⟨[.ptr 0 0], [.box [.sl 1 [], .v (.slice none 0 0), .ptr 1 0, .ptr 2 0, .ptr 3 0, .ptr 4 0, .ptr 5 0, .ptr 6 0, .ptr 7 0, .ptr 8 0], .box [i64 room, .v (.slice none 0 0), bool false], .box [i64 room, .v (.slice none 0 0), bool false], .box [i64 room, .v (.slice none 0 0), bool false], .box [i64 room, .v (.slice none 0 0), bool false], .box [i64 room, .v (.slice none 0 0), bool false], .box [i64 room, .v (.slice none 0 0), bool false], .box [i64 room, .v (.slice none 0 0), bool false], .box [i64 room, .v (.slice none 0 0), bool false]]⟩ ⟨[.ptr 0 0], [.box [.sl 1 [], .sl 1 [], .ptr 1 0, .ptr 2 0, .ptr 3 0, .ptr 4 0, .ptr 5 0, .ptr 6 0, .ptr 7 0, .ptr 8 0], .box [i64 room, .v (.slice none 0 0), bool false], .box [i64 room, .v (.slice none 0 0), bool false], .box [i64 room, .v (.slice none 0 0), bool false], .box [i64 room, .v (.slice none 0 0), bool false], .box [i64 room, .v (.slice none 0 0), bool false], .box [i64 room, .v (.slice none 0 0), bool false], .box [i64 room, .v (.slice none 0 0), bool false], .box [i64 room, .v (.slice none 0 0), bool false]]⟩ :=
  Turns.asSlIn (s := ⟨[.ptr 0 0], [.box [.sl 1 [], .v (.slice none 0 0), .ptr 1 0, .ptr 2 0, .ptr 3 0, .ptr 4 0, .ptr 5 0, .ptr 6 0, .ptr 7 0, .ptr 8 0], .box [i64 room, .v (.slice none 0 0), bool false], .box [i64 room, .v (.slice none 0 0), bool false], .box [i64 room, .v (.slice none 0 0), bool false], .box [i64 room, .v (.slice none 0 0), bool false], .box [i64 room, .v (.slice none 0 0), bool false], .box [i64 room, .v (.slice none 0 0), bool false], .box [i64 room, .v (.slice none 0 0), bool false], .box [i64 room, .v (.slice none 0 0), bool false]]⟩) (b := 0) (c := 1) 1 rfl rfl
theorem new_turn2 (room : Int) : Turns ⟨[.ptr 0 0], [.box [.sl 1 [], .sl 1 [], .ptr 1 0, .ptr 2 0, .ptr 3 0, .ptr 4 0, .ptr 5 0, .ptr 6 0, .ptr 7 0, .ptr 8 0], .box [i64 room, .v (.slice none 0 0), bool false], .box [i64 room, .v (.slice none 0 0), bool false], .box [i64 room, .v (.slice none 0 0), bool false], .box [i64 room, .v (.slice none 0 0), bool false], .box [i64 room, .v (.slice none 0 0), bool false], .box [i64 room, .v (.slice none 0 0), bool false], .box [i64 room, .v (.slice none 0 0), bool false], .box [i64 room, .v (.slice none 0 0), bool false]]⟩ ⟨[.ptr 0 0], [.box [.sl 1 [], .sl 1 [], .ptr 1 0, .ptr 2 0, .ptr 3 0, .ptr 4 0, .ptr 5 0, .ptr 6 0, .ptr 7 0, .ptr 8 0], .box [i64 room, .own 9 8 0 0, bool false], .box [i64 room, .v (.slice none 0 0), bool false], .box [i64 room, .v (.slice none 0 0), bool false], .box [i64 room, .v (.slice none 0 0), bool false], .box [i64 room, .v (.slice none 0 0), bool false], .box [i64 room, .v (.slice none 0 0), bool false], .box [i64 room, .v (.slice none 0 0), bool false], .box [i64 room, .v (.slice none 0 0), bool false], .row 49 8 []]⟩ :=
  Turns.adoptIn (s := ⟨[.ptr 0 0], [.box [.sl 1 [], .sl 1 [], .ptr 1 0, .ptr 2 0, .ptr 3 0, .ptr 4 0, .ptr 5 0, .ptr 6 0, .ptr 7 0, .ptr 8 0], .box [i64 room, .v (.slice none 0 0), bool false], .box [i64 room, .v (.slice none 0 0), bool false], .box [i64 room, .v (.slice none 0 0), bool false], .box [i64 room, .v (.slice none 0 0), bool false], .box [i64 room, .v (.slice none 0 0), bool false], .box [i64 room, .v (.slice none 0 0), bool false], .box [i64 room, .v (.slice none 0 0), bool false], .box [i64 room, .v (.slice none 0 0), bool false]]⟩) (b := 1) (c := 1) 49 8 rfl rfl
theorem new_turn3 (room : Int) : Turns ⟨[.ptr 0 0], [.box [.sl 1 [], .sl 1 [], .ptr 1 0, .ptr 2 0, .ptr 3 0, .ptr 4 0, .ptr 5 0, .ptr 6 0, .ptr 7 0, .ptr 8 0], .box [i64 room, .own 9 8 0 0, bool false], .box [i64 room, .v (.slice none 0 0), bool false], .box [i64 room, .v (.slice none 0 0), bool false], .box [i64 room, .v (.slice none 0 0), bool false], .box [i64 room, .v (.slice none 0 0), bool false], .box [i64 room, .v (.slice none 0 0), bool false], .box [i64 room, .v (.slice none 0 0), bool false], .box [i64 room, .v (.slice none 0 0), bool false], .row 49 8 []]⟩ ⟨[.ptr 0 0], [.box [.sl 1 [], .sl 1 [], .ptr 1 0, .ptr 2 0, .ptr 3 0, .ptr 4 0, .ptr 5 0, .ptr 6 0, .ptr 7 0, .ptr 8 0], .box [i64 room, .own 9 8 0 0, bool false], .box [i64 room, .own 10 8 0 0, bool false], .box [i64 room, .v (.slice none 0 0), bool false], .box [i64 room, .v (.slice none 0 0), bool false], .box [i64 room, .v (.slice none 0 0), bool false], .box [i64 room, .v (.slice none 0 0), bool false], .box [i64 room, .v (.slice none 0 0), bool false], .box [i64 room, .v (.slice none 0 0), bool false], .row 49 8 [], .row 49 8 []]⟩ :=
  Turns.adoptIn (s := ⟨[.ptr 0 0], [.box [.sl 1 [], .sl 1 [], .ptr 1 0, .ptr 2 0, .ptr 3 0, .ptr 4 0, .ptr 5 0, .ptr 6 0, .ptr 7 0, .ptr 8 0], .box [i64 room, .own 9 8 0 0, bool false], .box [i64 room, .v (.slice none 0 0), bool false], .box [i64 room, .v (.slice none 0 0), bool false], .box [i64 room, .v (.slice none 0 0), bool false], .box [i64 room, .v (.slice none 0 0), bool false], .box [i64 room, .v (.slice none 0 0), bool false], .box [i64 room, .v (.slice none 0 0), bool false], .box [i64 room, .v (.slice none 0 0), bool false], .row 49 8 []]⟩) (b := 2) (c := 1) 49 8 rfl rfl
theorem new_turn4 (room : Int) : Turns ⟨[.ptr 0 0], [.box [.sl 1 [], .sl 1 [], .ptr 1 0, .ptr 2 0, .ptr 3 0, .ptr 4 0, .ptr 5 0, .ptr 6 0, .ptr 7 0, .ptr 8 0], .box [i64 room, .own 9 8 0 0, bool false], .box [i64 room, .own 10 8 0 0, bool false], .box [i64 room, .v (.slice none 0 0), bool false], .box [i64 room, .v (.slice none 0 0), bool false], .box [i64 room, .v (.slice none 0 0), bool false], .box [i64 room, .v (.slice none 0 0), bool false], .box [i64 room, .v (.slice none 0 0), bool false], .box [i64 room, .v (.slice none 0 0), bool false], .row 49 8 [], .row 49 8 []]⟩ ⟨[.ptr 0 0], [.box [.sl 1 [], .sl 1 [], .ptr 1 0, .ptr 2 0, .ptr 3 0, .ptr 4 0, .ptr 5 0, .ptr 6 0, .ptr 7 0, .ptr 8 0], .box [i64 room, .own 9 8 0 0, bool false], .box [i64 room, .own 10 8 0 0, bool false], .box [i64 room, .own 11 8 0 0, bool false], .box [i64 room, .v (.slice none 0 0), bool false], .box [i64 room, .v (.slice none 0 0), bool false], .box [i64 room, .v (.slice none 0 0), bool false], .box [i64 room, .v (.slice none 0 0), bool false], .box [i64 room, .v (.slice none 0 0), bool false], .row 49 8 [], .row 49 8 [], .row 49 8 []]⟩ :=
  Turns.adoptIn (s := ⟨[.ptr 0 0], [.box [.sl 1 [], .sl 1 [], .ptr 1 0, .ptr 2 0, .ptr 3 0, .ptr 4 0, .ptr 5 0, .ptr 6 0, .ptr 7 0, .ptr 8 0], .box [i64 room, .own 9 8 0 0, bool false], .box [i64 room, .own 10 8 0 0, bool false], .box [i64 room, .v (.slice none 0 0), bool false], .box [i64 room, .v (.slice none 0 0), bool false], .box [i64 room, .v (.slice none 0 0), bool false], .box [i64 room, .v (.slice none 0 0), bool false], .box [i64 room, .v (.slice none 0 0), bool false], .box [i64 room, .v (.slice none 0 0), bool false], .row 49 8 [], .row 49 8 []]⟩) (b := 3) (c := 1) 49 8 rfl rfl
theorem new_turn5 (room : Int) : Turns ⟨[.ptr 0 0], [.box [.sl 1 [], .sl 1 [], .ptr 1 0, .ptr 2 0, .ptr 3 0, .ptr 4 0, .ptr 5 0, .ptr 6 0, .ptr 7 0, .ptr 8 0], .box [i64 room, .own 9 8 0 0, bool false], .box [i64 room, .own 10 8 0 0, bool false], .box [i64 room, .own 11 8 0 0, bool false], .box [i64 room, .v (.slice none 0 0), bool false], .box [i64 room, .v (.slice none 0 0), bool false], .box [i64 room, .v (.slice none 0 0), bool false], .box [i64 room, .v (.slice none 0 0), bool false], .box [i64 room, .v (.slice none 0 0), bool false], .row 49 8 [], .row 49 8 [], .row 49 8 []]⟩ ⟨[.ptr 0 0], [.box [.sl 1 [], .sl 1 [], .ptr 1 0, .ptr 2 0, .ptr 3 0, .ptr 4 0, .ptr 5 0, .ptr 6 0, .ptr 7 0, .ptr 8 0], .box [i64 room, .own 9 8 0 0, bool false], .box [i64 room, .own 10 8 0 0, bool false], .box [i64 room, .own 11 8 0 0, bool false], .box [i64 room, .own 12 8 0 0, bool false], .box [i64 room, .v (.slice none 0 0), bool false], .box [i64 room, .v (.slice none 0 0), bool false], .box [i64 room, .v (.slice none 0 0), bool false], .box [i64 room, .v (.slice none 0 0), bool false], .row 49 8 [], .row 49 8 [], .row 49 8 [], .row 49 8 []]⟩ :=
  Turns.adoptIn (s := ⟨[.ptr 0 0], [.box [.sl 1 [], .sl 1 [], .ptr 1 0, .ptr 2 0, .ptr 3 0, .ptr 4 0, .ptr 5 0, .ptr 6 0, .ptr 7 0, .ptr 8 0], .box [i64 room, .own 9 8 0 0, bool false], .box [i64 room, .own 10 8 0 0, bool false], .box [i64 room, .own 11 8 0 0, bool false], .box [i64 room, .v (.slice none 0 0), bool false], .box [i64 room, .v (.slice none 0 0), bool false], .box [i64 room, .v (.slice none 0 0), bool false], .box [i64 room, .v (.slice none 0 0), bool false], .box [i64 room, .v (.slice none 0 0), bool false], .row 49 8 [], .row 49 8 [], .row 49 8 []]⟩) (b := 4) (c := 1) 49 8 rfl rfl
theorem new_turn6 (room : Int) : Turns ⟨[.ptr 0 0], [.box [.sl 1 [], .sl 1 [], .ptr 1 0, .ptr 2 0, .ptr 3 0, .ptr 4 0, .ptr 5 0, .ptr 6 0, .ptr 7 0, .ptr 8 0], .box [i64 room, .own 9 8 0 0, bool false], .box [i64 room, .own 10 8 0 0, bool false], .box [i64 room, .own 11 8 0 0, bool false], .box [i64 room, .own 12 8 0 0, bool false], .box [i64 room, .v (.slice none 0 0), bool false], .box [i64 room, .v (.slice none 0 0), bool false], .box [i64 room, .v (.slice none 0 0), bool false], .box [i64 room, .v (.slice none 0 0), bool false], .row 49 8 [], .row 49 8 [], .row 49 8 [], .row 49 8 []]⟩ ⟨[.ptr 0 0], [.box [.sl 1 [], .sl 1 [], .ptr 1 0, .ptr 2 0, .ptr 3 0, .ptr 4 0, .ptr 5 0, .ptr 6 0, .ptr 7 0, .ptr 8 0], .box [i64 room, .own 9 8 0 0, bool false], .box [i64 room, .own 10 8 0 0, bool false], .box [i64 room, .own 11 8 0 0, bool false], .box [i64 room, .own 12 8 0 0, bool false], .box [i64 room, .own 13 8 0 0, bool false], .box [i64 room, .v (.slice none 0 0), bool false], .box [i64 room, .v (.slice none 0 0), bool false], .box [i64 room, .v (.slice none 0 0), bool false], .row 49 8 [], .row 49 8 [], .row 49 8 [], .row 49 8 [], .row 49 8 []]⟩ :=
  Turns.adoptIn (s := ⟨[.ptr 0 0], [.box [.sl 1 [], .sl 1 [], .ptr 1 0, .ptr 2 0, .ptr 3 0, .ptr 4 0, .ptr 5 0, .ptr 6 0, .ptr 7 0, .ptr 8 0], .box [i64 room, .own 9 8 0 0, bool false], .box [i64 room, .own 10 8 0 0, bool false], .box [i64 room, .own 11 8 0 0, bool false], .box [i64 room, .own 12 8 0 0, bool false], .box [i64 room, .v (.slice none 0 0), bool false], .box [i64 room, .v (.slice none 0 0), bool false], .box [i64 room, .v (.slice none 0 0), bool false], .box [i64 room, .v (.slice none 0 0), bool false], .row 49 8 [], .row 49 8 [], .row 49 8 [], .row 49 8 []]⟩) (b := 5) (c := 1) 49 8 rfl rfl
theorem new_turn7 (room : Int) : Turns ⟨[.ptr 0 0], [.box [.sl 1 [], .sl 1 [], .ptr 1 0, .ptr 2 0, .ptr 3 0, .ptr 4 0, .ptr 5 0, .ptr 6 0, .ptr 7 0, .ptr 8 0], .box [i64 room, .own 9 8 0 0, bool false], .box [i64 room, .own 10 8 0 0, bool false], .box [i64 room, .own 11 8 0 0, bool false], .box [i64 room, .own 12 8 0 0, bool false], .box [i64 room, .own 13 8 0 0, bool false], .box [i64 room, .v (.slice none 0 0), bool false], .box [i64 room, .v (.slice none 0 0), bool false], .box [i64 room, .v (.slice none 0 0), bool false], .row 49 8 [], .row 49 8 [], .row 49 8 [], .row 49 8 [], .row 49 8 []]⟩ ⟨[.ptr 0 0], [.box [.sl 1 [], .sl 1 [], .ptr 1 0, .ptr 2 0, .ptr 3 0, .ptr 4 0, .ptr 5 0, .ptr 6 0, .ptr 7 0, .ptr 8 0], .box [i64 room, .own 9 8 0 0, bool false], .box [i64 room, .own 10 8 0 0, bool false], .box [i64 room, .own 11 8 0 0, bool false], .box [i64 room, .own 12 8 0 0, bool false], .box [i64 room, .own 13 8 0 0, bool false], .box [i64 room, .own 14 8 0 0, bool false], .box [i64 room, .v (.slice none 0 0), bool false], .box [i64 room, .v (.slice none 0 0), bool false], .row 49 8 [], .row 49 8 [], .row 49 8 [], .row 49 8 [], .row 49 8 [], .row 49 8 []]⟩ :=
  Turns.adoptIn (s := ⟨[.ptr 0 0], [.box [.sl 1 [], .sl 1 [], .ptr 1 0, .ptr 2 0, .ptr 3 0, .ptr 4 0, .ptr 5 0, .ptr 6 0, .ptr 7 0, .ptr 8 0], .box [i64 room, .own 9 8 0 0, bool false], .box [i64 room, .own 10 8 0 0, bool false], .box [i64 room, .own 11 8 0 0, bool false], .box [i64 room, .own 12 8 0 0, bool false], .box [i64 room, .own 13 8 0 0, bool false], .box [i64 room, .v (.slice none 0 0), bool false], .box [i64 room, .v (.slice none 0 0), bool false], .box [i64 room, .v (.slice none 0 0), bool false], .row 49 8 [], .row 49 8 [], .row 49 8 [], .row 49 8 [], .row 49 8 []]⟩) (b := 6) (c := 1) 49 8 rfl rfl
theorem new_turn8 (room : Int) : Turns ⟨[.ptr 0 0], [.box [.sl 1 [], .sl 1 [], .ptr 1 0, .ptr 2 0, .ptr 3 0, .ptr 4 0, .ptr 5 0, .ptr 6 0, .ptr 7 0, .ptr 8 0], .box [i64 room, .own 9 8 0 0, bool false], .box [i64 room, .own 10 8 0 0, bool false], .box [i64 room, .own 11 8 0 0, bool false], .box [i64 room, .own 12 8 0 0, bool false], .box [i64 room, .own 13 8 0 0, bool false], .box [i64 room, .own 14 8 0 0, bool false], .box [i64 room, .v (.slice none 0 0), bool false], .box [i64 room, .v (.slice none 0 0), bool false], .row 49 8 [], .row 49 8 [], .row 49 8 [], .row 49 8 [], .row 49 8 [], .row 49 8 []]⟩ ⟨[.ptr 0 0], [.box [.sl 1 [], .sl 1 [], .ptr 1 0, .ptr 2 0, .ptr 3 0, .ptr 4 0, .ptr 5 0, .ptr 6 0, .ptr 7 0, .ptr 8 0], .box [i64 room, .own 9 8 0 0, bool false], .box [i64 room, .own 10 8 0 0, bool false], .box [i64 room, .own 11 8 0 0, bool false], .box [i64 room, .own 12 8 0 0, bool false], .box [i64 room, .own 13 8 0 0, bool false], .box [i64 room, .own 14 8 0 0, bool false], .box [i64 room, .own 15 8 0 0, bool false], .box [i64 room, .v (.slice none 0 0), bool false], .row 49 8 [], .row 49 8 [], .row 49 8 [], .row 49 8 [], .row 49 8 [], .row 49 8 [], .row 49 8 []]⟩ :=
  Turns.adoptIn (s := ⟨[.ptr 0 0], [.box [.sl 1 [], .sl 1 [], .ptr 1 0, .ptr 2 0, .ptr 3 0, .ptr 4 0, .ptr 5 0, .ptr 6 0, .ptr 7 0, .ptr 8 0], .box [i64 room, .own 9 8 0 0, bool false], .box [i64 room, .own 10 8 0 0, bool false], .box [i64 room, .own 11 8 0 0, bool false], .box [i64 room, .own 12 8 0 0, bool false], .box [i64 room, .own 13 8 0 0, bool false], .box [i64 room, .own 14 8 0 0, bool false], .box [i64 room, .v (.slice none 0 0), bool false], .box [i64 room, .v (.slice none 0 0), bool false], .row 49 8 [], .row 49 8 [], .row 49 8 [], .row 49 8 [], .row 49 8 [], .row 49 8 []]⟩) (b := 7) (c := 1) 49 8 rfl rfl
theorem new_turn9 (room : Int) : Turns ⟨[.ptr 0 0], [.box [.sl 1 [], .sl 1 [], .ptr 1 0, .ptr 2 0, .ptr 3 0, .ptr 4 0, .ptr 5 0, .ptr 6 0, .ptr 7 0, .ptr 8 0], .box [i64 room, .own 9 8 0 0, bool false], .box [i64 room, .own 10 8 0 0, bool false], .box [i64 room, .own 11 8 0 0, bool false], .box [i64 room, .own 12 8 0 0, bool false], .box [i64 room, .own 13 8 0 0, bool false], .box [i64 room, .own 14 8 0 0, bool false], .box [i64 room, .own 15 8 0 0, bool false], .box [i64 room, .v (.slice none 0 0), bool false], .row 49 8 [], .row 49 8 [], .row 49 8 [], .row 49 8 [], .row 49 8 [], .row 49 8 [], .row 49 8 []]⟩ ⟨[.ptr 0 0], [.box [.sl 1 [], .sl 1 [], .ptr 1 0, .ptr 2 0, .ptr 3 0, .ptr 4 0, .ptr 5 0, .ptr 6 0, .ptr 7 0, .ptr 8 0], .box [i64 room, .own 9 8 0 0, bool false], .box [i64 room, .own 10 8 0 0, bool false], .box [i64 room, .own 11 8 0 0, bool false], .box [i64 room, .own 12 8 0 0, bool false], .box [i64 room, .own 13 8 0 0, bool false], .box [i64 room, .own 14 8 0 0, bool false], .box [i64 room, .own 15 8 0 0, bool false], .box [i64 room, .own 16 8 0 0, bool false], .row 49 8 [], .row 49 8 [], .row 49 8 [], .row 49 8 [], .row 49 8 [], .row 49 8 [], .row 49 8 [], .row 49 8 []]⟩ :=
  Turns.adoptIn (s := ⟨[.ptr 0 0], [.box [.sl 1 [], .sl 1 [], .ptr 1 0, .ptr 2 0, .ptr 3 0, .ptr 4 0, .ptr 5 0, .ptr 6 0, .ptr 7 0, .ptr 8 0], .box [i64 room, .own 9 8 0 0, bool false], .box [i64 room, .own 10 8 0 0, bool false], .box [i64 room, .own 11 8 0 0, bool false], .box [i64 room, .own 12 8 0 0, bool false], .box [i64 room, .own 13 8 0 0, bool false], .box [i64 room, .own 14 8 0 0, bool false], .box [i64 room, .own 15 8 0 0, bool false], .box [i64 room, .v (.slice none 0 0), bool false], .row 49 8 [], .row 49 8 [], .row 49 8 [], .row 49 8 [], .row 49 8 [], .row 49 8 [], .row 49 8 []]⟩) (b := 8) (c := 1) 49 8 rfl rfl
theorem feed_New (room : Int) : ACall P 38 [] [i64 room] (fun x m' => x = .ptr 0 0 ∧ m' = feedM ⟨[], max room 0, fun _ => ([], false)⟩) := by
  refine ACall.weaken (feed_New0 room) ?_
  rintro x m' ⟨rfl, rfl⟩
  refine ⟨_, _, ?_, rfl, rfl⟩
  refine Turns.trans (new_turn0 _) ?_
  refine Turns.trans (new_turn1 _) ?_
  refine Turns.trans (new_turn2 _) ?_
  refine Turns.trans (new_turn3 _) ?_
  refine Turns.trans (new_turn4 _) ?_
  refine Turns.trans (new_turn5 _) ?_
  refine Turns.trans (new_turn6 _) ?_
  refine Turns.trans (new_turn7 _) ?_
  refine Turns.trans (new_turn8 _) ?_
  refine Turns.trans (new_turn9 _) ?_
  exact Turns.refl _
end Go.Proofs.YtdkcpcflfnakdaaGreat
namespace Go.Proofs.YtdkcpcflfnakdaaGreat
open Go Go.Proofs.YtdkcpcflfnakdaaGreat.Sym
attribute [-sevalprocAttr] Int.reduceToNat Int.reduceNatCast Int.reduceNatCast' Nat.reduceSubDiff
set_option maxRecDepth 100000
set_option maxHeartbeats 1000000
set_option linter.unusedSimpArgs false
set_option linter.unusedVariables false

theorem bits_set : ∀ m < 256, ∀ w < 8, (∀ k < 8, hasB (setB (m : Nat) (w : Nat)) (k : Nat) = (hasB (m : Nat) (k : Nat) || decide (k = w))) ∧ (0 ≤ setB (m : Nat) (w : Nat) ∧ setB (m : Nat) (w : Nat) < 256) := by decide +kernel
theorem bits_clr : ∀ m < 256, ∀ w < 8, (∀ k < 8, hasB (clrB (m : Nat) (w : Nat)) (k : Nat) = (hasB (m : Nat) (k : Nat) && decide (k ≠ w))) ∧ (0 ≤ clrB (m : Nat) (w : Nat) ∧ clrB (m : Nat) (w : Nat) < 256) := by decide +kernel
theorem bits_zero : ∀ k < 8, hasB 0 (k : Nat) = false := by decide +kernel
abbrev Msk := List (ByteArray × Int)
def mskOk (m : Msk) : Prop := q2u m ∧ ∀ p ∈ m, 0 ≤ p.2 ∧ p.2 < 256
theorem mask_ok {m : Msk} (h : mskOk m) (u : ByteArray) : 0 ≤ maskOf m u ∧ maskOf m u < 256 := by
  by_cases hk : u ∈ m.map Prod.fst
  · obtain ⟨⟨u', v⟩, hp, rfl⟩ := List.mem_map.1 hk
    rw [maskOf, q31 ordS q0x h.1 hp]
    exact h.2 _ hp
  · rw [maskOf, q3k ordS q0x h.1 hk]
    exact ⟨Int.le_refl _, by decide⟩
theorem mask_mem {m : Msk} (h : mskOk m) {p : ByteArray × Int} (hp : p ∈ m) : maskOf m p.1 = p.2 := by
  rw [maskOf, q31 ordS q0x h.1 (k := p.1) (v := p.2) hp]
theorem mask_not {m : Msk} (h : mskOk m) {u : ByteArray} (hk : u ∉ m.map Prod.fst) : maskOf m u = 0 := by
  rw [maskOf, q3k ordS q0x h.1 hk]
theorem msk_with {m : Msk} (h : mskOk m) (u : ByteArray) {v : Int} (hv : 0 ≤ v ∧ v < 256) : mskOk (withG ltS eqS m u v) := by
  refine ⟨with_rises ordS q0x h.1 u v, fun p hp => ?_⟩
  rcases (mem_with ordS q0x h.1).1 hp with rfl | ⟨hp, _⟩
  · exact hv
  · exact h.2 p hp
theorem msk_without {m : Msk} (h : mskOk m) (u : ByteArray) : mskOk (q1x ltS eqS m u) := by
  refine ⟨without_rises ordS q0x h.1 u, fun p hp => ?_⟩
  rw [q3n ordS q0x h.1] at hp
  exact h.2 p (List.mem_filter.1 hp).1
theorem mask_with {m : Msk} (h : mskOk m) (u : ByteArray) {v : Int} (hv : 0 ≤ v ∧ v < 256) (u' : ByteArray) : maskOf (withG ltS eqS m u v) u' = if u' = u then v else maskOf m u' := by
  have h' := msk_with h u hv
  by_cases e : u' = u
  · subst e
    rw [if_pos rfl]
    exact mask_mem (p := (u', v)) h' ((mem_with ordS q0x h.1).2 (.inl rfl))
  · rw [if_neg e]
    by_cases hk : u' ∈ m.map Prod.fst
    · obtain ⟨p, hp, rfl⟩ := List.mem_map.1 hk
      rw [mask_mem h hp, mask_mem h' ((mem_with ordS q0x h.1).2 (.inr ⟨hp, e⟩))]
    · rw [mask_not h hk, mask_not h']
      intro hc
      obtain ⟨p, hp, rfl⟩ := List.mem_map.1 hc
      rcases (mem_with ordS q0x h.1).1 hp with rfl | ⟨hp, _⟩
      · exact e rfl
      · exact hk (List.mem_map.2 ⟨p, hp, rfl⟩)
theorem mask_without {m : Msk} (h : mskOk m) (u : ByteArray) (u' : ByteArray) : maskOf (q1x ltS eqS m u) u' = if u' = u then 0 else maskOf m u' := by
  have h' := msk_without h u
  have he := q3n ordS q0x h.1 u
  by_cases e : u' = u
  · subst e
    rw [if_pos rfl, mask_not h']
    intro hc
    obtain ⟨p, hp, hpu⟩ := List.mem_map.1 hc
    rw [he] at hp
    have := (List.mem_filter.1 hp).2
    rw [hpu, (q0x _ _).2 rfl] at this
    cases this
  · rw [if_neg e]
    by_cases hk : u' ∈ m.map Prod.fst
    · obtain ⟨p, hp, rfl⟩ := List.mem_map.1 hk
      rw [mask_mem h hp, mask_mem h']
      rw [he]
      refine List.mem_filter.2 ⟨hp, ?_⟩
      cases hc : eqS p.1 u with
      | false => rfl
      | true => exact absurd ((q0x _ _).1 hc) e
    · rw [mask_not h hk, mask_not h']
      intro hc
      obtain ⟨p, hp, rfl⟩ := List.mem_map.1 hc
      rw [he] at hp
      exact hk (List.mem_map.2 ⟨p, (List.mem_filter.1 hp).1, rfl⟩)
theorem to_nat {v : Int} (h : 0 ≤ v ∧ v < 256) : ∃ n : Nat, n < 256 ∧ v = n := ⟨v.toNat, by omega, by omega⟩

theorem watch_ok {m : Msk} (h : mskOk m) (who : Int) (u : ByteArray) : mskOk (watchM m who u) := by
  unfold watchM
  split
  · rename_i hc
    obtain ⟨w, hw, rfl⟩ := cli_iff hc
    obtain ⟨n, hn, hm⟩ := to_nat (mask_ok h u)
    rw [hm]
    exact msk_with h u (bits_set n hn w hw).2
  · exact h
theorem watch_len (m : Msk) (who : Int) (u : ByteArray) : (watchM m who u).length ≤ m.length + 1 := by
  unfold watchM
  split
  · exact with_len _ _ _
  · omega
theorem unwatch_ok {m : Msk} (h : mskOk m) (who : Int) (u : ByteArray) : mskOk (q3j m who u) := by
  unfold q3j
  split
  · rename_i hc
    obtain ⟨w, hw, rfl⟩ := cli_iff hc
    obtain ⟨n, hn, hm⟩ := to_nat (mask_ok h u)
    split
    · exact h
    · split
      · exact msk_without h u
      · rw [hm]
        exact msk_with h u (bits_clr n hn w hw).2
  · exact h
theorem unwatch_len (m : Msk) (who : Int) (u : ByteArray) : (q3j m who u).length ≤ m.length + 1 := by
  unfold q3j
  split
  · split
    · omega
    · split
      · exact Nat.le_trans (without_len _ _) (Nat.le_succ _)
      · exact with_len _ _ _
  · omega
theorem wat_watch {m : Msk} (h : mskOk m) (who : Int) (u : ByteArray) (who' : Int) (u' : ByteArray) : watF (watchM m who u) who' u' = (watF m who' u' || (cli who && (decide (who' = who) && decide (u' = u)))) := by
  unfold watF
  cases hc' : cli who' with
  | false =>
    simp only [Bool.false_and, Bool.false_or]
    cases hc : cli who with
    | false => simp
    | true =>
      have : who' ≠ who := by intro e; rw [e, hc] at hc'; cases hc'
      simp [this]
  | true =>
    simp only [Bool.true_and]
    cases hc : cli who with
    | false => rw [watchM, if_neg (by rw [hc]; decide)]; simp
    | true =>
      rw [watchM, if_pos hc]
      obtain ⟨w, hw, rfl⟩ := cli_iff hc
      obtain ⟨k, hk, rfl⟩ := cli_iff hc'
      obtain ⟨n, hn, hm⟩ := to_nat (mask_ok h u)
      obtain ⟨b1, b2⟩ := bits_set n hn w hw
      have e2 : decide ((k : Int) = (w : Int)) = decide (k = w) := by rw [Bool.eq_iff_iff]; simp; omega
      rw [hm, mask_with h u b2, Bool.true_and, e2]
      by_cases e : u' = u
      · subst e
        rw [if_pos rfl, b1 k hk, hm]; simp
      · rw [if_neg e]; simp [e]
theorem wat_unwatch {m : Msk} (h : mskOk m) (who : Int) (u : ByteArray) (who' : Int) (u' : ByteArray) : watF (q3j m who u) who' u' = (watF m who' u' && !(decide (who' = who) && decide (u' = u))) := by
  unfold watF
  cases hc' : cli who' with
  | false => simp
  | true =>
    simp only [Bool.true_and]
    cases hc : cli who with
    | false =>
      rw [q3j, if_neg (by rw [hc]; decide)]
      have : who' ≠ who := by intro e; rw [e, hc] at hc'; cases hc'
      simp [this]
    | true =>
      rw [q3j, if_pos hc]
      obtain ⟨w, hw, rfl⟩ := cli_iff hc
      obtain ⟨k, hk, rfl⟩ := cli_iff hc'
      obtain ⟨n, hn, hm⟩ := to_nat (mask_ok h u)
      obtain ⟨b1, b2⟩ := bits_clr n hn w hw
      have e2 : decide ((k : Int) = (w : Int)) = decide (k = w) := by rw [Bool.eq_iff_iff]; simp; omega
      rw [e2]
      split
      · rename_i hz
        have hz : maskOf m u = 0 := by simpa using hz
        by_cases e : u' = u
        · subst e
          rw [hz, bits_zero k hk]; simp
        · simp [e]
      · split
        · rename_i hz
          have hz : clrB (maskOf m u) w = 0 := by simpa using hz
          rw [mask_without h u]
          by_cases e : u' = u
          · subst e
            have h1 := b1 k hk
            rw [← hm, hz, bits_zero k hk] at h1
            rw [if_pos rfl, bits_zero k hk, h1]
            simp
          · rw [if_neg e]; simp [e]
        · rw [hm, mask_with h u b2]
          by_cases e : u' = u
          · subst e
            rw [if_pos rfl, b1 k hk, hm]; simp
          · rw [if_neg e]; simp [e]
theorem msk_nil : mskOk [] := ⟨List.Pairwise.nil, fun p hp => by cases hp⟩

theorem tell1_q (F : Fd) (c : Chg) (seq : Int) {k : Nat} (hk : k < 8) : (tell1 F c seq 8).q k = if watF F.m k c.u = true then putR F.room (F.q k) ⟨c.u, c.old, c.new, seq⟩ else F.q k := by
  unfold tell1
  simp [hk]
theorem tell1_qy {F : Fd} {c : Chg} {seq : Int} {k : Nat} (hk : k < 8) (h : watF F.m k c.u = true) : (tell1 F c seq 8).q k = putR F.room (F.q k) ⟨c.u, c.old, c.new, seq⟩ := by
  rw [tell1_q F c seq hk, if_pos h]
theorem tell_one (F : Fd) (c : Chg) (seq : Int) : tellF F [c] seq = tell1 F c seq 8 := rfl
end Go.Proofs.YtdkcpcflfnakdaaGreat
namespace Go.Proofs.YtdkcpcflfnakdaaGreat
open Go Go.Proofs.YtdkcpcflfnakdaaGreat.Sym
attribute [-sevalprocAttr] Int.reduceToNat Int.reduceNatCast Int.reduceNatCast' Nat.reduceSubDiff
set_option maxRecDepth 100000
set_option maxHeartbeats 1000000
set_option linter.unusedSimpArgs false
set_option linter.unusedVariables false

end Go.Proofs.YtdkcpcflfnakdaaGreat
