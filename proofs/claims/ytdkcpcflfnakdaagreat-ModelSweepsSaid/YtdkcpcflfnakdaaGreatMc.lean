/- A text of the walk that proves a law of this seat; joined by a program. -/
import Derived.Test.YtdkcpcflfnakdaaGreatMa
import Derived.Test.YtdkcpcflfnakdaaGreatMb
import Derived.Test.YtdkcpcflfnakdaaGreatSymZf
set_option linter.unusedSimpArgs false
set_option linter.unusedVariables false
namespace Go.Proofs.YtdkcpcflfnakdaaGreat
open Go Go.Proofs.YtdkcpcflfnakdaaGreat.Sym
set_option maxRecDepth 100000
set_option maxHeartbeats 1000000
def kpF (b : Nat) : Bool := decide (b < 9) || decide (17 ≤ b)
structure Ev where
  u : ByteArray
  old : Pr
  new : Pr
  seq : Int
  deriving DecidableEq
def Ev.av (e : Ev) : AV := .agg [str e.u, i64 e.old.st, i64 e.old.pr, i64 e.old.n, i64 e.new.st, i64 e.new.pr, i64 e.new.n, u64 e.seq]
def evts (l : List Ev) : List AV := l.map Ev.av
theorem q2s (l : List Ev) : (evts l).length = l.length := by simp [evts]
theorem evts_snoc (l : List Ev) (e : Ev) : evts l ++ [.agg [str e.u, i64 e.old.st, i64 e.old.pr, i64 e.old.n, i64 e.new.st, i64 e.new.pr, i64 e.new.n, u64 e.seq]] = evts (l ++ [e]) := by simp [evts, Ev.av]
def ringB (room : Int) (l : List Ev) (lost : Bool) : AB := .box [i64 room, .own 1 8 0 l.length, bool lost]
def ringM (room : Int) (l : List Ev) (lost : Bool) : List AB := [ringB room l lost, .row 49 8 (evts l)]
def putR (room : Int) (q : List Ev × Bool) (e : Ev) : List Ev × Bool := if room ≤ (q.1.length : Int) then (q.1, true) else (q.1 ++ [e], q.2)
theorem ring_Put (room : Int) (l : List Ev) (lost : Bool) (e : Ev) (hl : l.length ≤ 100000) : q0h P 1 93 (ringM room l lost) [.ptr 0 0, e.av]
    (fun x m' => (∃ b, x = bool b) ∧ m' = ringM room (putR room (l, lost) e).1 (putR room (l, lost) e).2) := by
  unfold ringM ringB
  refine q2p tyOk Tryz.func93 rfl rfl (by simp) ?_
  intro K hK
  simp only [Tryz.ntmps93, List.length_cons, List.length_nil, Nat.reduceAdd, Nat.reduceSub, List.replicate, List.cons_append, List.nil_append]
  try simp only [seval, go_sem, Ev.av]
  refine q0k tyOk (by rfl) (by simp only [List.length_cons, List.length_nil, Nat.reduceAdd, Nat.reduceLeDiff]) (by kernel_rfl) rfl ?_
  try simp only [seval, go_sem]
  refine ⟨by kernel_rfl, ?_⟩
  (first | refine q05 ?_ ?_ | refine q08 ?_ ?_ | refine q09 ?_ ?_ | refine q07 ?_ ?_ | refine q06 ?_ ?_) <;> intro h
  · have h' : room ≤ (l.length : Int) := by simpa using h
    try simp only [seval, go_sem]
    apply hK
    simp only [Tryz.results93, retK, ares, Bool.and_true, AV.ofResults, St.trunc, q00, q01, AB.trunc, List.getD_cons_zero, List.getD_cons_succ, List.take_zero, List.take_succ_cons, List.map_nil, List.map_cons, List.length_cons, List.length_nil, Nat.reduceAdd, Nat.reduceLeDiff, and_true, ↓reduceIte, List.cons.injEq, exists_eq_left']
    rw [putR, if_pos h']
    exact ⟨⟨_, rfl⟩, rfl, rfl⟩
  · have h' : ¬ room ≤ (l.length : Int) := by simpa using h
    try simp only [seval, go_sem]
    refine q0k tyOk (by rfl) (by simp only [List.length_cons, List.length_nil, Nat.reduceAdd, Nat.reduceLeDiff]) (by kernel_rfl) rfl ?_
    try simp only [seval, go_sem, q2s]
    refine ⟨⟨by simp only [maxLen]; omega, by omega⟩, ?_⟩
    refine ⟨by kernel_rfl, ?_⟩
    try simp only [seval, go_sem]
    apply hK
    simp only [Tryz.results93, retK, ares, Bool.and_true, AV.ofResults, St.trunc, q00, q01, AB.trunc, List.getD_cons_zero, List.getD_cons_succ, List.take_zero, List.take_succ_cons, List.map_nil, List.map_cons, List.length_cons, List.length_nil, Nat.reduceAdd, Nat.reduceLeDiff, and_true, ↓reduceIte, List.cons.injEq, exists_eq_left']
    rw [putR, if_neg h']
    simp only [evts_snoc, List.length_append, List.length_singleton]
    exact ⟨⟨_, rfl⟩, trivial, trivial⟩
def q3h (l : List Ev) : List (List AV) := l.map fun e => [e.av]
theorem ring_seq (room : Int) (l : List Ev) (lost : Bool) (hlen : l.length ≤ 100000) : ICall P 138 [.rp [.rp [i64 room, .sl 8 (evts l), bool lost]]] (q3h l) := by
  refine icall_goY tyOk Tryz.func138 rfl rfl rfl ?_
  intro y K hK
  simp only [Tryz.ntmps138, List.length_cons, List.length_nil, Nat.reduceAdd, Nat.reduceSub, List.replicate, List.cons_append, List.nil_append]
  try simp only [seval, go_sem, q2s]
  refine loopY_rule tyOk (α := Nat) 0 [0, 1, 8, 9, 10] (fun i => i ≤ l.length)
    (fun i => ⟨[.v y, .rp [.rp [i64 room, .sl 8 (evts l), bool lost]], .any, .any, .any, .any, .any, .any, .sl 8 (evts l), i64 l.length, i64 i, .any, .any, .any, .any, .any, .any, .any, .any], []⟩)
    (fun i => (q3h (l.take i), false)) (fun i => l.length - i) 0 (Nat.le_refl _) (Nat.zero_le _) rfl rfl ?_
  intro i hi
  try simp only [seval, go_sem]
  (first | refine q05 ?_ ?_ | refine q08 ?_ ?_ | refine q09 ?_ ?_ | refine q07 ?_ ?_ | refine q06 ?_ ?_) <;> intro h <;> try simp only [seval, go_sem]
  · have hlt : i < l.length := by simpa using h
    have e1 := q2e (f := Ev.av) hlt
    have c1 : (0 : Int) ≤ (i : Int) ∧ Int.toNat (i : Int) < l.length := by omega
    have ew : IntKind.i64.wrap ((i : Int) + 1) = ((i + 1 : Nat) : Int) := by rw [wrap_i64 (by omega) (by omega)]; rfl
    have e3 : q3h (l.take i) ++ [[l[i].av]] = q3h (l.take (i + 1)) := by
      rw [q1f hlt]; simp only [q3h, List.map_append, List.map_cons, List.map_nil]
    have pre : q3h (l.take (i + 1)) <+: q3h l := (List.take_prefix _ l).map _
    change (evts l).getD _ _ = _ at e1
    unfold Ev.av at e1 e3
    try simp only [seval, go_sem, e1, c1, q2s]
    refine ⟨⟨by rw [e3]; exact pre, rfl⟩, ?_⟩
    intro b
    cases b with
    | true =>
      try simp only [seval, go_sem, ew]
      simp only [q43, St.trunc, St.keep, q00, q01, keepV, q0r, AV.pure, Bool.and_self, List.drop_zero, List.elem_cons, List.elem_nil, List.take_zero, List.map_nil, List.getElem?_cons_zero, Nat.reduceAdd, Nat.reduceBEq, Nat.le_refl, Nat.zero_add, Bool.false_eq_true, ↓reduceIte]
      exact ⟨i + 1, hlt, by omega, rfl, by rw [e3]⟩
    | false =>
      try simp only [seval, go_sem]
      exact hK _ _ _ (itK_ret ⟨by rw [e3]; exact pre, fun h => by cases h⟩)
  · have hge : i = l.length := by have : ¬ ((i : Int) < (l.length : Int)) := by simpa using h
                                  omega
    subst hge
    refine hK _ _ _ (itK_normal ⟨(List.take_prefix _ l).map _, fun _ => by rw [List.take_length]⟩)
theorem ring_All (room : Int) (l : List Ev) (lost : Bool) (cs : List AV) : ACall P 121 [ringB room l lost, .row 49 8 (evts l), .box [.v (.slice none 0 0)]] [.ptr 0 0]
    (fun x m' => x = .fn 138 [.ptr 3 0] ∧ m' = [ringB room l lost, .row 49 8 (evts l), .box [.v (.slice none 0 0)], .box [.ptr 0 0]]) := by
  unfold ringB
  refine q0h.toA (q1d tyOk Tryz.func121 rfl rfl (N := 3) (M := 4) (by simp) (by simp) ?_)
  intro K hK
  simp only [Tryz.ntmps121, List.length_cons, List.length_nil, Nat.reduceAdd, Nat.reduceSub, List.replicate, List.cons_append, List.nil_append]
  try simp only [seval, go_sem]
  apply hK
  simp only [Tryz.results121, retK, ares, List.take_nil, Bool.and_true, AV.ofResults, St.trunc, q00, q01, AB.trunc, List.getD_cons_zero, List.getD_cons_succ, List.take_succ_cons, List.map_nil, List.map_cons, Nat.reduceLeDiff, and_true, ↓reduceIte, List.cons.injEq, exists_eq_left']
theorem evts_bare (fz : List Nat) (l : List Ev) : baresV fz (evts l) = true := by
  induction l with
  | nil => rfl
  | cons e l ih => rw [evts, List.map_cons, baresV, ← evts, ih]; rfl
theorem ring_Drain0 (room : Int) (l : List Ev) (lost : Bool) (hl : l.length ≤ 100000) : ACall P 98 (ringM room l lost) [.ptr 0 0]
    (fun x m' => x = .tup [.sl 8 (evts l), bool lost] ∧ m' = [.box [i64 room, .v (.slice none 0 0), bool false], .row 49 8 (evts l)]) := by
  unfold ringM
  have hall := ring_All room l lost []
  unfold ringB at hall ⊢
  refine acall_goY tyOk Tryz.func98 rfl rfl ?_
  intro K hK
  simp only [Tryz.ntmps98, List.length_cons, List.length_nil, Nat.reduceAdd, Nat.reduceSub, List.replicate, List.cons_append, List.nil_append]
  try simp only [seval, go_sem]
  refine q0t (hall.mono ?_)
  rintro _ _ ⟨rfl, rfl⟩
  try simp only [seval, go_sem]
  refine restY_turn (Turns.adoptIn (b := 2) (c := 0) 49 8 rfl rfl) ?_
  refine restY_thaw [0] [1, 0, 3] (by simp [St.adoptIn]) (by simp [St.adoptIn, AB.fzOk, q03, bks]) (by simp [St.adoptIn, bks]) ?_
  intro vs
  have hsl : (if 0 + l.length ≤ (evts l).length then AV.sl 8 ((evts l).take l.length) else AV.any) = .sl 8 (evts l) := q20 (q2s l)
  simp only [St.adoptIn, litT, St.colds, St.cold, coldVs, coldV, AB.cold, shutV, List.set, List.map_cons, List.map_nil, List.getElem?_cons_zero, List.getElem?_cons_succ, List.length_cons, List.length_nil, Nat.reduceAdd, Nat.reduceEqDiff, ↓reduceIte, List.cons_append, List.nil_append, true_and, hsl, q0r, AV.pure, List.drop_zero, Bool.and_self, Nat.succ_ne_zero]
  refine range_rule tyOk (ring_seq room l lost hl) (α := Nat) 4 5 [0, 4] ([.v (vs.getD 0 undef), .any, .any, .any, .ptr 2 0, .any, .any, .any, .any, .any, .any, .any, .any, .any, .any, .any, .any, .any, .any, .any, .any, .any, .any, .any, .any, .any]) (fun xs i => i = xs.length ∧ i ≤ l.length)
    (fun i => [.gone, .gone, .box [.own 4 8 0 i], .gone, .row 49 8 (evts (l.take i))]) 0 rfl rfl
    (fun x hx => by simp only [q3h, List.mem_map] at hx; obtain ⟨p, _, rfl⟩ := hx; rfl) (by decide) (by decide) (by rfl) ⟨rfl, Nat.zero_le _⟩ rfl ?_ ?_
  · rintro xs x _ hpre ⟨rfl, hle⟩
    obtain ⟨hi, _, rfl⟩ := q4v hpre
    have hn : evts (l.take xs.length) ++ [l[xs.length].av] = evts (l.take (xs.length + 1)) := by rw [q1f hi]; simp only [evts, List.map_append, List.map_cons, List.map_nil]
    have hl2 : (evts (l.take xs.length)).length = xs.length := by rw [q2s, List.length_take]; omega
    generalize l[xs.length] = e at *
    unfold Ev.av at hn
    try simp only [seval, go_sem, Ev.av, hl2]
    refine ⟨⟨by simp only [maxLen]; omega, by omega⟩, ?_⟩
    try simp only [seval, go_sem]
    simp only [q2o, St.trunc, q00, q01, AB.trunc, q0r, AV.pure, Bool.and_self, List.drop_zero, List.take_succ_cons, List.take_zero, List.map_cons, List.map_nil, List.getElem?_cons_zero, List.getElem?_cons_succ, List.length_cons, List.length_nil, Nat.reduceLeDiff, Nat.le_refl, Nat.zero_add, ↓reduceIte]
    exact ⟨xs.length + 1, ⟨by first | rfl | simp, by omega⟩, by rw [hn]⟩
  · rintro _ ⟨rfl, hle⟩
    have e1 : (q3h l).length = l.length := by simp [q3h]
    rw [e1, List.take_length]
    refine ⟨by simp, by simp, ?_⟩
    simp only [thawT, thawM, List.elem_cons, List.elem_nil, Nat.reduceAdd, Nat.reduceBEq, ↓reduceIte, Bool.false_eq_true, AV.bare, AB.bare, baresV, evts_bare, Bool.and_self, Bool.not_false, Nat.reduceLT, decide_true, decide_false, Bool.and_false, goYE_normal, beq_self_eq_true]
    try simp only [seval, go_sem]
    apply hK
    simp only [Tryz.results98, retK, ares, Bool.and_true, Bool.true_and, AV.ofResults, St.trunc, q00, q01, AB.trunc, List.getD_cons_zero, List.getD_cons_succ, List.take_zero, List.take_succ_cons, List.drop_zero, List.map_nil, List.map_cons, List.getElem?_cons_zero, List.getElem?_cons_succ, List.length_cons, List.length_nil, Nat.reduceAdd, Nat.reduceLeDiff, true_and, and_true, ↓reduceIte, List.cons.injEq, exists_eq_left']
    rw [q20 (q2s l)]
theorem ring_Drain (room : Int) (l : List Ev) (lost : Bool) (hl : l.length ≤ 100000) : q0j P (fun i => i != 1) 98 (ringM room l lost) [.ptr 0 0]
    (fun x m' => x = .tup [.sl 8 (evts l), bool lost] ∧ m' = ringM room [] false) := by
  refine (ring_Drain0 room l lost hl).readopt 0 1 1 49 8 ?_
  rintro x m' ⟨rfl, rfl⟩
  exact ⟨_, rfl, rfl, by simp, rfl, rfl⟩
end Go.Proofs.YtdkcpcflfnakdaaGreat
namespace Go.Proofs.YtdkcpcflfnakdaaGreat
open Go Go.Proofs.YtdkcpcflfnakdaaGreat.Sym
set_option maxRecDepth 100000
set_option maxHeartbeats 1000000
structure Fd where
  m : List (ByteArray × Int)
  room : Int
  q : Nat → List Ev × Bool
def feedC (m : List (ByteArray × Int)) : List AV := [.sl 1 (m.map fun p => str p.1), .sl 1 (m.map fun p => u32 p.2), .ptr 1 0, .ptr 2 0, .ptr 3 0, .ptr 4 0, .ptr 5 0, .ptr 6 0, .ptr 7 0, .ptr 8 0]
def qB (F : Fd) (j : Nat) : AB := .box [i64 F.room, .own (9 + j) 8 0 (F.q j).1.length, bool (F.q j).2]
def qR (F : Fd) (j : Nat) : AB := .row 49 8 (evts (F.q j).1)
def feedM (F : Fd) : List AB := [.box (feedC F.m), qB F 0, qB F 1, qB F 2, qB F 3, qB F 4, qB F 5, qB F 6, qB F 7, qR F 0, qR F 1, qR F 2, qR F 3, qR F 4, qR F 5, qR F 6, qR F 7]
section
variable (F : Fd) (r : List AB)
theorem q22 : (feedM F).length = 17 := rfl
theorem fm_0n : (feedM F)[0]? = some (.box (feedC F.m)) := rfl
theorem fm_set0n {m' : List (ByteArray × Int)} : (feedM F).set 0 (.box [.sl 1 (m'.map fun p => str p.1), .sl 1 (m'.map fun p => u32 p.2), .ptr 1 0, .ptr 2 0, .ptr 3 0, .ptr 4 0, .ptr 5 0, .ptr 6 0, .ptr 7 0, .ptr 8 0]) = feedM { F with m := m' } := rfl
theorem fm_0 : (feedM F ++ r)[0]? = some (.box (feedC F.m)) := rfl
theorem fm_set0 {m' : List (ByteArray × Int)} : (feedM F ++ r).set 0 (.box [.sl 1 (m'.map fun p => str p.1), .sl 1 (m'.map fun p => u32 p.2), .ptr 1 0, .ptr 2 0, .ptr 3 0, .ptr 4 0, .ptr 5 0, .ptr 6 0, .ptr 7 0, .ptr 8 0]) = feedM { F with m := m' } ++ r := rfl
theorem fm_17 : (feedM F ++ r)[17]? = r[0]? := rfl
theorem fm_18 : (feedM F ++ r)[18]? = r[1]? := rfl
theorem fm_19 : (feedM F ++ r)[19]? = r[2]? := rfl
theorem fm_20 : (feedM F ++ r)[20]? = r[3]? := rfl
theorem fm_21 : (feedM F ++ r)[21]? = r[4]? := rfl
theorem fm_s17 {x : AB} : (feedM F ++ r).set 17 x = feedM F ++ r.set 0 x := rfl
theorem fm_s18 {x : AB} : (feedM F ++ r).set 18 x = feedM F ++ r.set 1 x := rfl
theorem fm_s19 {x : AB} : (feedM F ++ r).set 19 x = feedM F ++ r.set 2 x := rfl
theorem fm_s20 {x : AB} : (feedM F ++ r).set 20 x = feedM F ++ r.set 3 x := rfl
theorem fm_s21 {x : AB} : (feedM F ++ r).set 21 x = feedM F ++ r.set 4 x := rfl
theorem fm_alen : (feedM F ++ r).length = 17 + r.length := by rw [List.length_append, q22]
theorem fm_add (r' : List AB) : (feedM F ++ r) ++ r' = feedM F ++ (r ++ r') := List.append_assoc _ _ _
attribute [go_sem] fm_0 fm_0n fm_set0 fm_set0n fm_17 fm_18 fm_19 fm_20 fm_21 fm_s17 fm_s18 fm_s19 fm_s20 fm_s21 fm_alen q22 fm_add
theorem fm_trunc {M : List AB} {n : Nat} (h : 17 ≤ n) : (feedM F).map (AB.trunc M n) = feedM F := by
  have k : ∀ b, b < 17 → ¬ n ≤ b := fun b hb => by omega
  simp only [feedM, feedC, qB, qR, List.map_cons, List.map_nil, AB.trunc, q00, q01, k 1 (by decide), k 2 (by decide), k 3 (by decide), k 4 (by decide), k 5 (by decide), k 6 (by decide), k 7 (by decide), k 8 (by decide), k (9 + 0) (by decide), k (9 + 1) (by decide), k (9 + 2) (by decide), k (9 + 3) (by decide), k (9 + 4) (by decide), k (9 + 5) (by decide), k (9 + 6) (by decide), k (9 + 7) (by decide), if_false]
theorem fm_tk (k : Nat) : (feedM F ++ r).take (17 + k) = feedM F ++ r.take k := by
  rw [List.take_append, q22, List.take_of_length_le (by rw [q22]; omega), show 17 + k - 17 = k by omega]
theorem fm_ret {M : List AB} : ((feedM F ++ r).take 17).map (AB.trunc M 17) = feedM F := by
  rw [show (17 : Nat) = 17 + 0 from rfl, fm_tk, List.take_zero, List.append_nil, fm_trunc F (by decide)]
theorem fm_retn {M : List AB} : ((feedM F).take 17).map (AB.trunc M 17) = feedM F := by
  have := fm_ret F [] (M := M)
  rwa [List.append_nil] at this
theorem q0v {M : List AB} {b : Nat} (h : 17 ≤ b) : (feedM F ++ r).map (AB.shut M b) = feedM F ++ r.map (AB.shut M b) := by
  have k : ∀ c, c < 17 → ¬ c = b := fun c hc => by omega
  rw [List.map_append]
  simp only [feedM, feedC, qB, qR, List.map_cons, List.map_nil, AB.shut, shutVs, shutV, k 1 (by decide), k 2 (by decide), k 3 (by decide), k 4 (by decide), k 5 (by decide), k 6 (by decide), k 7 (by decide), k 8 (by decide), k (9 + 0) (by decide), k (9 + 1) (by decide), k (9 + 2) (by decide), k (9 + 3) (by decide), k (9 + 4) (by decide), k (9 + 5) (by decide), k (9 + 6) (by decide), k (9 + 7) (by decide), if_false]
theorem fm_kill {b : Nat} (h : 17 ≤ b) : (feedM F).map (AB.kill b) = feedM F := by
  have k : ∀ c, c < 17 → ¬ c = b := fun c hc => by omega
  simp only [feedM, feedC, qB, qR, List.map_cons, List.map_nil, AB.kill, q17, killV, k 1 (by decide), k 2 (by decide), k 3 (by decide), k 4 (by decide), k 5 (by decide), k 6 (by decide), k 7 (by decide), k 8 (by decide), k (9 + 0) (by decide), k (9 + 1) (by decide), k (9 + 2) (by decide), k (9 + 3) (by decide), k (9 + 4) (by decide), k (9 + 5) (by decide), k (9 + 6) (by decide), k (9 + 7) (by decide), if_false]
end
theorem q0q (F : Fd) (r : List AB) {b : Nat} (h : 17 ≤ b) : (feedM F ++ r).map (AB.kill b) = feedM F ++ r.map (AB.kill b) := by rw [List.map_append, fm_kill F h]
def hasB (m k : Int) : Bool := andF .u32 (shrF .u32 m k) 1 == 1
def setB (m k : Int) : Int := orF .u32 m (shlF .u32 1 k)
def clrB (m k : Int) : Int := andNotF .u32 m (shlF .u32 1 k)
def cli (who : Int) : Bool := decide (0 ≤ who) && decide (who < 8)
theorem cli_iff {who : Int} (h : cli who = true) : ∃ k : Nat, k < 8 ∧ who = k := by
  simp only [cli, Bool.and_eq_true, decide_eq_true_eq] at h
  exact ⟨who.toNat, by omega, by omega⟩
theorem q4w (who : Int) : PCall P 74 [i64 who] (fun x => x = bool (cli who)) := by
  refine q0d tyOk Tryz.func74 rfl rfl ?_
  intro K hK
  simp only [Tryz.ntmps74, List.length_cons, List.length_nil, Nat.reduceAdd, Nat.reduceSub, List.replicate, List.cons_append, List.nil_append]
  try simp only [seval, go_sem]
  (first | refine q05 ?_ ?_ | refine q08 ?_ ?_ | refine q09 ?_ ?_ | refine q07 ?_ ?_ | refine q06 ?_ ?_) <;> intro h
  · try simp only [seval, go_sem]
    apply hK
    simp only [Tryz.results74, retK, ares, List.take_nil, Bool.and_true, Bool.true_and, AV.ofResults, St.trunc, q00, q01, List.getD_cons_zero, List.getD_cons_succ, List.map_nil, true_and, and_true, List.cons.injEq, exists_eq_left']
    rw [cli, h, Bool.true_and]
  · try simp only [seval, go_sem]
    apply hK
    simp only [Tryz.results74, retK, ares, List.take_nil, Bool.and_true, Bool.true_and, AV.ofResults, St.trunc, q00, q01, List.getD_cons_zero, List.getD_cons_succ, List.map_nil, true_and, and_true, List.cons.injEq, exists_eq_left']
    rw [cli, h, Bool.false_and]
def maskOf (m : List (ByteArray × Int)) (u : ByteArray) : Int := (getG ltS eqS 0 m u).1
def watF (m : List (ByteArray × Int)) (who : Int) (u : ByteArray) : Bool := cli who && hasB (maskOf m u) who
theorem get_su (m : List (ByteArray × Int)) (u : ByteArray) (hr : q2h m) (hl : m.length ≤ 1000) : PCall P 73 [.agg [.sl 1 (m.map fun p => str p.1), .sl 1 (m.map fun p => u32 p.2)], str u]
    (fun x => x = .tup [u32 (maskOf m u), bool (getG ltS eqS 0 m u).2]) := get_call_su m u hr (by omega)
theorem feed_Watching (F : Fd) (who : Int) (u : ByteArray) (hr : q2h F.m) (hl : F.m.length ≤ 1000) : ACall P 70 (feedM F) [.ptr 0 0, i64 who, str u]
    (fun x m' => x = bool (watF F.m who u) ∧ m' = feedM F) := by
  refine q2q tyOk Tryz.func70 rfl rfl ?_
  intro K hK
  rw [q22] at hK ⊢
  simp only [Tryz.ntmps70, List.length_cons, List.length_nil, Nat.reduceAdd, Nat.reduceSub, List.replicate, List.cons_append, List.nil_append]
  try simp only [seval, go_sem, q0v, q0q, feedC, kpF]
  (refine q02 (get_su F.m u hr hl) rfl ?_; rintro _ rfl)
  try simp only [seval, go_sem]
  (refine q02 (q4w who) rfl ?_; rintro _ rfl)
  unfold watF at hK
  cases hc : cli who
  · rw [hc] at hK
    try simp only [seval, go_sem]
    apply hK
    simp only [Tryz.results70, retK, ares, Bool.and_true, AV.ofResults, St.trunc, q00, q01, List.getD_cons_zero, List.getD_cons_succ, and_true, List.cons.injEq, exists_eq_left']
    rw [fm_retn, Bool.false_and]
    exact ⟨rfl, rfl⟩
  · rw [hc] at hK
    obtain ⟨k, hk, rfl⟩ := cli_iff hc
    have h0 : (0 : Int) ≤ (k : Int) := by omega
    try simp only [seval, go_sem, h0]
    apply hK
    simp only [Tryz.results70, retK, ares, Bool.and_true, Bool.true_and, AV.ofResults, St.trunc, q00, q01, List.getD_cons_zero, List.getD_cons_succ, true_and, and_true, List.cons.injEq, exists_eq_left']
    rw [fm_retn]
    exact ⟨rfl, rfl⟩
theorem with_su (m : List (ByteArray × Int)) (u : ByteArray) (v : Int) (hr : q2h m) (hl : m.length ≤ 1000) : PCall P 76 [.agg [.sl 1 (m.map fun p => str p.1), .sl 1 (m.map fun p => u32 p.2)], str u, u32 v]
    (fun x => x = .agg [.sl 1 ((withG ltS eqS m u v).map fun p => str p.1), .sl 1 ((withG ltS eqS m u v).map fun p => u32 p.2)]) := with_call_su m u v hr (by omega)
theorem without_su (m : List (ByteArray × Int)) (u : ByteArray) (hr : q2h m) (hl : m.length ≤ 1000) : PCall P 75 [.agg [.sl 1 (m.map fun p => str p.1), .sl 1 (m.map fun p => u32 p.2)], str u]
    (fun x => x = .agg [.sl 1 ((q1e ltS eqS m u).map fun p => str p.1), .sl 1 ((q1e ltS eqS m u).map fun p => u32 p.2)]) := without_call_su m u hr (by omega)
def watchM (m : List (ByteArray × Int)) (who : Int) (u : ByteArray) : List (ByteArray × Int) := if cli who = true then withG ltS eqS m u (setB (maskOf m u) who) else m
theorem feed_Watch (F : Fd) (who : Int) (u : ByteArray) (hr : q2h F.m) (hl : F.m.length ≤ 1000) : ACall P 71 (feedM F) [.ptr 0 0, i64 who, str u]
    (fun x m' => m' = feedM { F with m := watchM F.m who u }) := by
  refine q2q tyOk Tryz.func71 rfl rfl ?_
  intro K hK
  rw [q22] at hK ⊢
  simp only [Tryz.ntmps71, List.length_cons, List.length_nil, Nat.reduceAdd, Nat.reduceSub, List.replicate, List.cons_append, List.nil_append]
  try simp only [seval, go_sem, q0v, q0q, feedC, kpF]
  (refine q02 (q4w who) rfl ?_; rintro _ rfl)
  unfold watchM at hK
  cases hc : cli who
  · rw [hc, if_neg (by decide)] at hK
    try simp only [seval, go_sem]
    apply hK
    simp only [Tryz.results71, retK, ares, Bool.and_true, AV.ofResults, St.trunc, q00, and_true, List.cons.injEq, exists_eq_left']
    rw [fm_retn]
  · rw [hc, if_pos rfl] at hK
    obtain ⟨k, hk, rfl⟩ := cli_iff hc
    have h0 : (0 : Int) ≤ (k : Int) := by omega
    try simp only [seval, go_sem, q0v, q0q, feedC, kpF]
    (refine q02 (get_su F.m u hr hl) rfl ?_; rintro _ rfl)
    try simp only [seval, go_sem, q0v, q0q, feedC, kpF]
    refine q0k tyOk (by rfl) (by simp only [q22]; omega) (by kernel_rfl) rfl ?_
    try simp only [seval, go_sem, q0v, q0q, feedC, kpF, h0]
    refine q3l (with_su F.m u (setB (maskOf F.m u) k) hr hl) rfl ?_
    try simp only [seval, go_sem, q0v, q0q, feedC, kpF]
    refine ⟨by kernel_rfl, ?_⟩
    try simp only [seval, go_sem, q0v, q0q, feedC, kpF]
    apply hK
    simp only [Tryz.results71, retK, ares, Bool.and_true, AV.ofResults, St.trunc, q00, and_true, List.cons.injEq, exists_eq_left']
    rw [fm_retn]
def unwatchM (m : List (ByteArray × Int)) (who : Int) (u : ByteArray) : List (ByteArray × Int) :=
  if cli who = true then (if (maskOf m u == 0) = true then m else if (clrB (maskOf m u) who == 0) = true then q1e ltS eqS m u else withG ltS eqS m u (clrB (maskOf m u) who)) else m
theorem feed_Unwatch (F : Fd) (who : Int) (u : ByteArray) (hr : q2h F.m) (hl : F.m.length ≤ 1000) : ACall P 43 (feedM F) [.ptr 0 0, i64 who, str u]
    (fun x m' => m' = feedM { F with m := unwatchM F.m who u }) := by
  refine q2q tyOk Tryz.func43 rfl rfl ?_
  intro K hK
  rw [q22] at hK ⊢
  simp only [Tryz.ntmps43, List.length_cons, List.length_nil, Nat.reduceAdd, Nat.reduceSub, List.replicate, List.cons_append, List.nil_append]
  try simp only [seval, go_sem, q0v, q0q, feedC, kpF]
  (refine q02 (get_su F.m u hr hl) rfl ?_; rintro _ rfl)
  try simp only [seval, go_sem, q0v, q0q, feedC, kpF]
  (refine q02 (q4w who) rfl ?_; rintro _ rfl)
  unfold unwatchM at hK
  cases hc : cli who
  · rw [hc, if_neg (by decide)] at hK
    try simp only [seval, go_sem]
    apply hK
    simp only [Tryz.results43, retK, ares, Bool.and_true, AV.ofResults, St.trunc, q00, and_true, List.cons.injEq, exists_eq_left']
    rw [fm_retn]
  · rw [hc, if_pos rfl] at hK
    obtain ⟨k, hk, rfl⟩ := cli_iff hc
    have h0 : (0 : Int) ≤ (k : Int) := by omega
    try simp only [seval, go_sem, q0v, q0q, feedC, kpF, h0]
    (first | refine q05 ?_ ?_ | refine q08 ?_ ?_ | refine q09 ?_ ?_ | refine q07 ?_ ?_ | refine q06 ?_ ?_) <;> intro h1
    · rw [h1, if_pos rfl] at hK
      try simp only [seval, go_sem]
      apply hK
      simp only [Tryz.results43, retK, ares, Bool.and_true, AV.ofResults, St.trunc, q00, and_true, List.cons.injEq, exists_eq_left']
      rw [fm_retn]
    · rw [h1, if_neg (by decide)] at hK
      try simp only [seval, go_sem, q0v, q0q, feedC, kpF, h0]
      (first | refine q05 ?_ ?_ | refine q08 ?_ ?_ | refine q09 ?_ ?_ | refine q07 ?_ ?_ | refine q06 ?_ ?_) <;> intro h2
      · rw [show (clrB (maskOf F.m u) k == 0) = true from h2, if_pos rfl] at hK
        try simp only [seval, go_sem, q0v, q0q, feedC, kpF]
        (refine q02 (without_su F.m u hr hl) rfl ?_; rintro _ rfl)
        try simp only [seval, go_sem, q0v, q0q, feedC, kpF]
        apply hK
        simp only [Tryz.results43, retK, ares, Bool.and_true, AV.ofResults, St.trunc, q00, and_true, List.cons.injEq, exists_eq_left']
        rw [fm_retn]
      · rw [show (clrB (maskOf F.m u) k == 0) = false from h2, if_neg (by decide)] at hK
        try simp only [seval, go_sem, q0v, q0q, feedC, kpF]
        (refine q02 (with_su F.m u (clrB (maskOf F.m u) k) hr hl) rfl ?_; rintro _ rfl)
        try simp only [seval, go_sem, q0v, q0q, feedC, kpF]
        apply hK
        simp only [Tryz.results43, retK, ares, Bool.and_true, AV.ofResults, St.trunc, q00, and_true, List.cons.injEq, exists_eq_left']
        rw [fm_retn]
def cntM (m : List (ByteArray × Int)) (who : Int) : Nat := (m.filter fun p => cli who && hasB p.2 who).length
theorem cnt_next {m : List (ByteArray × Int)} {who : Int} {i : Nat} (h : i < m.length) : cntM (m.take (i + 1)) who = cntM (m.take i) who + (if (cli who && hasB m[i].2 who) = true then 1 else 0) := by
  rw [q1f h, cntM, List.filter_append, List.length_append, ← cntM, List.filter_cons]
  split <;> rfl
theorem cnt_le (m : List (ByteArray × Int)) (who : Int) : cntM m who ≤ m.length := List.length_filter_le _ _
theorem feed_Count (F : Fd) (who : Int) (hl : F.m.length ≤ 1000) : ACall P 69 (feedM F) [.ptr 0 0, i64 who]
    (fun x m' => x = i64 (cntM F.m who : Nat) ∧ m' = feedM F) := by
  refine acall_goY tyOk Tryz.func69 rfl rfl ?_
  intro K hK
  rw [q22] at hK ⊢
  simp only [Tryz.ntmps69, List.length_cons, List.length_nil, Nat.reduceAdd, Nat.reduceSub, List.replicate, List.cons_append, List.nil_append]
  have hall := all_call_su F.m
  unfold q2g at hall
  try simp only [seval, go_sem, q0v, q0q, feedC, kpF]
  (refine q02 hall rfl ?_; rintro _ rfl)
  try simp only [seval, go_sem, q0v, q0q, feedC, kpF]
  refine range_rule tyOk (seq_su F.m (by omega)) (α := Nat) 19 19 [0, 3, 5] ([.ptr 0 0, .any, .any, .ptr 17 0, .any, .ptr 18 0, .any, .any, .any, .any, .any, .any, .any, .any, .any, .any, .any, .any, .any, .any, .any, .any, .any, .any, .any, .any, .any]) (fun xs i => i = xs.length ∧ i ≤ F.m.length)
    (fun i => feedM F ++ [.box [i64 who], .box [i64 (cntM (F.m.take i) who : Nat)]]) 0 rfl rfl
    (fun x hx => by simp only [q3i, List.mem_map] at hx; obtain ⟨p, _, rfl⟩ := hx; rfl) (by decide) (by decide) (by rfl) ⟨rfl, Nat.zero_le _⟩ rfl ?_ ?_
  · rintro xs x _ hpre ⟨rfl, hle⟩
    obtain ⟨hi, _, rfl⟩ := q4v hpre
    have hn := cnt_next (who := who) hi
    have hc2 := cnt_le (F.m.take xs.length) who
    rw [List.length_take] at hc2
    generalize F.m[xs.length] = p at *
    generalize cntM (F.m.take xs.length) who = n at *
    have ew : IntKind.i64.wrap ((n : Int) + 1) = ((n + 1 : Nat) : Int) := by rw [wrap_i64 (by omega) (by omega)]; rfl
    try simp only [seval, go_sem, q0v, q0q, feedC, kpF]
    (refine q02 (q4w who) rfl ?_; rintro _ rfl)
    try simp only [seval, go_sem, q0v, q0q, feedC, kpF]
    cases hc : cli who
    · rw [hc] at hn
      try simp only [seval, go_sem, q0v, q0q, feedC, kpF]
      simp only [q2o, St.trunc, q00, q01, Nat.reduceLeDiff, ↓reduceIte]
      exact ⟨xs.length + 1, ⟨by first | rfl | simp, by omega⟩, by rw [hn]; rfl⟩
    · rw [hc] at hn
      obtain ⟨k, hk, rfl⟩ := cli_iff hc
      have h0 : (0 : Int) ≤ (k : Int) := by omega
      try simp only [seval, go_sem, q0v, q0q, feedC, kpF, h0]
      (first | refine q05 ?_ ?_ | refine q08 ?_ ?_ | refine q09 ?_ ?_ | refine q07 ?_ ?_ | refine q06 ?_ ?_) <;> intro h1
      · rw [show hasB p.2 k = true from h1] at hn
        try simp only [seval, go_sem, q0v, q0q, feedC, kpF, ew]
        simp only [q2o, St.trunc, q00, q01, Nat.reduceLeDiff, ↓reduceIte]
        exact ⟨xs.length + 1, ⟨by first | rfl | simp, by omega⟩, by rw [hn]; rfl⟩
      · rw [show hasB p.2 k = false from h1] at hn
        try simp only [seval, go_sem, q0v, q0q, feedC, kpF, ew]
        simp only [q2o, St.trunc, q00, q01, Nat.reduceLeDiff, ↓reduceIte]
        exact ⟨xs.length + 1, ⟨by first | rfl | simp, by omega⟩, by rw [hn]; rfl⟩
  · rintro _ ⟨rfl, hle⟩
    have e1 : (q3i F.m).length = F.m.length := by simp [q3i]
    rw [e1, List.take_length]
    try simp only [seval, go_sem, q0v, q0q, feedC, kpF]
    apply hK
    simp only [Tryz.results69, retK, ares, Bool.and_true, Bool.true_and, AV.ofResults, St.trunc, q00, q01, List.getD_cons_zero, List.getD_cons_succ, true_and, and_true, List.cons.injEq, exists_eq_left']
    rw [fm_ret]
end Go.Proofs.YtdkcpcflfnakdaaGreat
namespace Go.Proofs.YtdkcpcflfnakdaaGreat
open Go Go.Proofs.YtdkcpcflfnakdaaGreat.Sym
set_option maxRecDepth 100000
set_option maxHeartbeats 1000000
theorem q0j.keeps {g : FuncId} {kp kp' : Nat → Bool} {m : List AB} {args : List AV} {K : AV → List AB → Prop} (h : q0j P kp g m args K) (hk : ∀ b, b < m.length → kp' b = true → kp b = true) : q0j P kp' g m args K :=
  ⟨h.1, fun Hd ι w vs hR => (h.2 Hd ι w vs hR).mono fun e w' ⟨y, x, ι', m', h1, h2, h3, h5, h4⟩ => ⟨y, x, ι', m', h1, h2, h3, fun b o hb ho => h5 b o (hk b (by have := (List.getElem?_eq_some_iff.1 ho).1; rw [hR.len] at this; exact this) hb) ho, h4⟩⟩
def Fd.setQ (F : Fd) (k : Nat) (v : List Ev × Bool) : Fd := { F with q := fun j => if j = k then v else F.q j }
theorem ring_at {g : FuncId} {args0 : List AV} {K0 K : AV → List AB → Prop} (F : Fd) (r : List AB) {k : Nat} (hk : k < 8) (h : q0j P (fun i => i != 1) g (ringM F.room (F.q k).1 (F.q k).2) args0 K0) (hb : (q03 args0).all (fun b => decide (b < 2)) = true)
    (hr : outOk (kpOf (fun i => i != 1) [1 + k, 9 + k] 0) [1 + k, 9 + k] 17 r = true)
    (hK : ∀ x m', K0 x m' → ∃ v, m' = ringM F.room v.1 v.2 ∧ K (ren [1 + k, 9 + k] x) (feedM (F.setQ k v) ++ r)) : q0j P (fun b => b != 9 + k) g (feedM F ++ r) (q0e [1 + k, 9 + k] args0) K := by
  have key : ∀ b, (b != 9 + k) = true → kpOf (fun i => i != 1) [1 + k, 9 + k] 0 b = true := by
    intro b hb
    have hb : b ≠ 9 + k := by simpa using hb
    simp only [kpOf]
    split
    · rfl
    · rw [if_neg (Ne.symm hb)]
  refine q0j.keeps (kp := kpOf (fun i => i != 1) [1 + k, 9 + k] 0) ?_ (fun b _ hb => key b hb)
  have c : k = 0 ∨ k = 1 ∨ k = 2 ∨ k = 3 ∨ k = 4 ∨ k = 5 ∨ k = 6 ∨ k = 7 := by omega
  rcases c with rfl | rfl | rfl | rfl | rfl | rfl | rfl | rfl
  all_goals
    refine h.frame _ (by decide) rfl rfl hb rfl hr (fun x m' hx => ?_)
    obtain ⟨v, rfl, hv⟩ := hK x m' hx
    exact ⟨rfl, hv⟩
abbrev ids17 : List Nat := [0, 1, 2, 3, 4, 5, 6, 7, 8, 9, 10, 11, 12, 13, 14, 15, 16]
theorem fm_ren (F : Fd) : renM ids17 (feedM F) = feedM F := by
  simp only [feedM, feedC, qB, qR, renM, AB.ren, ren, q0e, List.getD_cons_zero, List.getD_cons_succ, Nat.reduceAdd]
theorem fm_at (F : Fd) (r : List AB) : ids17.map (fun b => (feedM F ++ r)[b]?) = (feedM F).map some := rfl
theorem fm_put (F F' : Fd) (r : List AB) : putL (feedM F ++ r) ids17 (feedM F') = feedM F' ++ r := by
  simp only [feedM, ids17, putL, List.cons_append, List.nil_append, List.set_cons_zero, List.set_cons_succ]
theorem feed_pre {g : FuncId} {args0 : List AV} {K0 K : AV → List AB → Prop} (F : Fd) (r : List AB) (h : ACall P g (feedM F) args0 K0) (ha : args0 = q0e ids17 args0) (hb : (q03 args0).all (fun b => decide (b < 17)) = true)
    (hK : ∀ x m', K0 x m' → ∃ F', m' = feedM F' ∧ K (ren ids17 x) (feedM F' ++ r)) : ACall P g (feedM F ++ r) args0 K := by
  refine h.frame ids17 (by decide) (by rw [fm_ren]; exact fm_at F r) ha hb (by rfl) (fun x m' hx => ?_)
  obtain ⟨F', rfl, hv⟩ := hK x m' hx
  exact ⟨rfl, by rw [fm_ren, fm_put]; exact hv⟩
theorem Watching_at (F : Fd) (r : List AB) (who : Int) (u : ByteArray) (hr : q2h F.m) (hl : F.m.length ≤ 1000) : ACall P 70 (feedM F ++ r) [.ptr 0 0, i64 who, str u]
    (fun x m' => x = bool (watF F.m who u) ∧ m' = feedM F ++ r) := by
  refine feed_pre F r (feed_Watching F who u hr hl) rfl rfl ?_
  rintro x m' ⟨rfl, rfl⟩
  exact ⟨F, rfl, rfl, rfl⟩
theorem queue_at (m : List (ByteArray × Int)) {k : Nat} (hk : k < 8) : ∃ tl, List.drop (2 + k * 1) [AV.sl 1 (m.map fun p => str p.1), .sl 1 (m.map fun p => u32 p.2), .ptr 1 0, .ptr 2 0, .ptr 3 0, .ptr 4 0, .ptr 5 0, .ptr 6 0, .ptr 7 0, .ptr 8 0] = .ptr (1 + k) 0 :: tl := by
  have c : k = 0 ∨ k = 1 ∨ k = 2 ∨ k = 3 ∨ k = 4 ∨ k = 5 ∨ k = 6 ∨ k = 7 := by omega
  rcases c with rfl | rfl | rfl | rfl | rfl | rfl | rfl | rfl <;> exact ⟨_, rfl⟩
def Fd.drain (F : Fd) (who : Int) : Fd := if cli who = true then F.setQ who.toNat ([], false) else F
def drainL (F : Fd) (who : Int) : List Ev := if cli who = true then (F.q who.toNat).1 else []
def drainB (F : Fd) (who : Int) : Bool := if cli who = true then (F.q who.toNat).2 else false
theorem feed_Drain (F : Fd) (who : Int) (hq : ∀ k, (F.q k).1.length ≤ 100000) : q0j P (fun b => decide (b < 9)) 67 (feedM F) [.ptr 0 0, i64 who]
    (fun x m' => x = .tup [if cli who = true then .sl 8 (evts (drainL F who)) else .v (.slice none 0 0), bool (drainB F who)] ∧ m' = feedM (F.drain who)) := by
  have h : q0h P 9 67 (feedM F) [.ptr 0 0, i64 who]
      (fun x m' => x = .tup [if cli who = true then .sl 8 (evts (drainL F who)) else .v (.slice none 0 0), bool (drainB F who)] ∧ m' = feedM (F.drain who)) := by
    refine q2p tyOk Tryz.func67 rfl rfl (by rw [q22]; decide) ?_
    intro K hK
    rw [q22] at hK
    simp only [Tryz.ntmps67, List.length_cons, List.length_nil, Nat.reduceAdd, Nat.reduceSub, List.replicate, List.cons_append, List.nil_append]
    try simp only [seval, go_sem, q0v, q0q, feedC, kpF]
    (refine q02 (q4w who) rfl ?_; rintro _ rfl)
    unfold drainL drainB Fd.drain at hK
    cases hc : cli who
    · rw [hc] at hK
      try simp only [seval, go_sem]
      apply hK
      simp only [Tryz.results67, retK, ares, Bool.and_true, Bool.true_and, AV.ofResults, St.trunc, q00, q01, List.getD_cons_zero, List.getD_cons_succ, true_and, and_true, ↓reduceIte, Bool.false_eq_true, List.cons.injEq, exists_eq_left']
      rw [fm_retn]
      first | done | exact ⟨rfl, rfl⟩
    · rw [hc] at hK
      obtain ⟨k, hk, rfl⟩ := cli_iff hc
      have h0 : (0 : Int) ≤ (k : Int) := by omega
      obtain ⟨tl, htl⟩ := queue_at F.m hk
      try simp only [seval, go_sem, q0v, q0q, feedC, kpF, h0, hk, Int.toNat_natCast, htl]
      refine ⟨Nat.succ_pos _, ?_⟩
      refine q2u (kp := fun b => b != 9 + k) (fun b hb => by simp; omega) (ring_at F [] hk (ring_Drain F.room (F.q k).1 (F.q k).2 (hq k)) rfl rfl ?_)
      rintro x m' ⟨rfl, rfl⟩
      refine ⟨([], false), rfl, ?_⟩
      try simp only [seval, go_sem, q0v, q0q, feedC, kpF]
      simp only [if_true, Int.toNat_natCast] at hK
      apply hK
      simp only [Tryz.results67, retK, ares, Bool.and_true, Bool.true_and, AV.ofResults, St.trunc, q00, q01, List.getD_cons_zero, List.getD_cons_succ, true_and, and_true, List.cons.injEq, exists_eq_left']
      rw [fm_retn]
      first | done | exact ⟨rfl, rfl⟩
  exact h.toX
def tell1 (F : Fd) (c : Chg) (seq : Int) (n : Nat) : Fd := { F with q := fun k => if (decide (k < n) && watF F.m k c.u) = true then putR F.room (F.q k) ⟨c.u, c.old, c.new, seq⟩ else F.q k }
theorem tell1_0 (F : Fd) (c : Chg) (seq : Int) : tell1 F c seq 0 = F := by
  simp only [tell1, Nat.not_lt_zero, decide_false, Bool.false_and, Bool.false_eq_true, if_false]
theorem tell1_at (F : Fd) (c : Chg) (seq : Int) (j : Nat) : (tell1 F c seq j).q j = F.q j := by
  simp [tell1]
theorem tell1_no {F : Fd} {c : Chg} {seq : Int} {j : Nat} (h : watF F.m j c.u = false) : tell1 F c seq (j + 1) = tell1 F c seq j := by
  unfold tell1
  congr 1
  funext k
  by_cases e : k = j
  · subst e; rw [h]; simp
  · have : decide (k < j + 1) = decide (k < j) := by rw [Bool.eq_iff_iff]; simp; omega
    rw [this]
theorem tell1_yes {F : Fd} {c : Chg} {seq : Int} {j : Nat} (h : watF F.m j c.u = true) : tell1 F c seq (j + 1) = (tell1 F c seq j).setQ j (putR F.room (F.q j) ⟨c.u, c.old, c.new, seq⟩) := by
  unfold tell1 Fd.setQ
  congr 1
  funext k
  by_cases e : k = j
  · subst e; rw [h]; simp
  · have : decide (k < j + 1) = decide (k < j) := by rw [Bool.eq_iff_iff]; simp; omega
    rw [this]; simp [e]
theorem putR_len (room : Int) (q : List Ev × Bool) (e : Ev) : (putR room q e).1.length ≤ q.1.length + 1 := by
  unfold putR; split <;> simp
theorem tell1_len (F : Fd) (c : Chg) (seq : Int) (n k : Nat) : ((tell1 F c seq n).q k).1.length ≤ (F.q k).1.length + 1 := by
  unfold tell1
  simp only
  split
  · exact putR_len _ _ _
  · omega
def tellF (F : Fd) (l : List Chg) (seq : Int) : Fd := l.foldl (fun F c => tell1 F c seq 8) F
theorem tellF_next {F : Fd} {l : List Chg} {seq : Int} {i : Nat} (h : i < l.length) : tellF F (l.take (i + 1)) seq = tell1 (tellF F (l.take i) seq) l[i] seq 8 := by
  rw [q1f h, tellF, List.foldl_append]; rfl
theorem tellF_ok (F : Fd) (l : List Chg) (seq : Int) : (tellF F l seq).m = F.m ∧ (tellF F l seq).room = F.room ∧ ∀ k, ((tellF F l seq).q k).1.length ≤ (F.q k).1.length + l.length := by
  induction l generalizing F with
  | nil => exact ⟨rfl, rfl, fun k => Nat.le_refl _⟩
  | cons c l ih =>
    obtain ⟨h1, h2, h3⟩ := ih (tell1 F c seq 8)
    refine ⟨h1, h2, fun k => ?_⟩
    have := h3 k
    have := tell1_len F c seq 8 k
    simp only [List.length_cons]
    exact Nat.le_trans (h3 k) (by omega)
theorem ptr_at {k : Nat} (hk : k < 8) : ∃ tl, List.drop (k * 1) [AV.ptr 1 0, .ptr 2 0, .ptr 3 0, .ptr 4 0, .ptr 5 0, .ptr 6 0, .ptr 7 0, .ptr 8 0] = .ptr (1 + k) 0 :: tl := by
  have c : k = 0 ∨ k = 1 ∨ k = 2 ∨ k = 3 ∨ k = 4 ∨ k = 5 ∨ k = 6 ∨ k = 7 := by omega
  rcases c with rfl | rfl | rfl | rfl | rfl | rfl | rfl | rfl <;> exact ⟨_, rfl⟩
theorem ring_PutX (room : Int) (l : List Ev) (lost : Bool) (e : Ev) (hl : l.length ≤ 100000) : q0j P (fun i => i != 1) 93 (ringM room l lost) [.ptr 0 0, e.av]
    (fun x m' => (∃ b, x = bool b) ∧ m' = ringM room (putR room (l, lost) e).1 (putR room (l, lost) e).2) :=
  q0j.keeps (ring_Put room l lost e hl).toX fun b hb hk => by
    have hb : b < 2 := hb
    have hk : b ≠ 1 := by simpa using hk
    exact decide_eq_true (by omega)
theorem feed_Tell (F : Fd) (l : List Chg) (seq : Int) (hr : q2h F.m) (hl : F.m.length ≤ 1000) (hll : l.length ≤ 50000) (hq : ∀ k, (F.q k).1.length ≤ 50000) : q0h P 9 64 (feedM F) [.ptr 0 0, .sl 7 (chgs l), u64 seq]
    (fun x m' => m' = feedM (tellF F l seq)) := by
  refine q2p tyOk Tryz.func64 rfl rfl (by rw [q22]; decide) ?_
  intro K hK
  rw [q22] at hK
  simp only [Tryz.ntmps64, List.length_cons, List.length_nil, Nat.reduceAdd, Nat.reduceSub, List.replicate, List.cons_append, List.nil_append]
  try simp only [seval, go_sem, q0v, q0q, feedC, kpF, chgs_len]
  refine q12 tyOk (α := Nat) 17 [0, 2, 10, 11, 12] (fun i => i ≤ l.length)
    (fun i => ⟨[.ptr 0 0, .any, u64 seq, .any, .any, .any, .any, .any, .any, .any, .sl 7 (chgs l), i64 l.length, i64 i, .any, .any, .any, .any, .any, .any, .any, .any, .any, .any, .any, .any, .any, .any, .any, .any, .any, .any, .any, .any, .any, .any, .any, .any, .any, .any, .any, .any], feedM (tellF F (l.take i) seq)⟩)
    (fun i => l.length - i) 0 (by decide) (Nat.zero_le _) rfl ?_
  intro i hi
  try simp only [seval, go_sem, q0v, q0q, feedC, kpF, chgs_len]
  (first | refine q05 ?_ ?_ | refine q08 ?_ ?_ | refine q09 ?_ ?_ | refine q07 ?_ ?_ | refine q06 ?_ ?_) <;> intro h
  · have hlt : i < l.length := by simpa using h
    have eg : (chgs l).getD (Int.toNat (i : Int)) .any = .agg [str l[i].u, i64 l[i].old.st, i64 l[i].old.pr, i64 l[i].old.n, i64 l[i].new.st, i64 l[i].new.pr, i64 l[i].new.n] := q2e hlt
    have ew : IntKind.i64.wrap ((i : Int) + 1) = ((i + 1 : Nat) : Int) := by rw [wrap_i64 (by omega) (by omega)]; rfl
    have c1 : (0 : Int) ≤ (i : Int) ∧ Int.toNat (i : Int) < l.length := by omega
    have hn := tellF_next (F := F) (seq := seq) hlt
    obtain ⟨ok1, ok2, ok3⟩ := tellF_ok F (l.take i) seq
    have ok3 : ∀ k, ((tellF F (l.take i) seq).q k).1.length ≤ 99999 := fun k => by
      have h1 := ok3 k
      have h2 := hq k
      rw [List.length_take] at h1
      omega
    rw [← ok1] at hr hl
    generalize tellF F (l.take i) seq = G at *
    generalize l[i] = c at *
    try simp only [seval, go_sem, q0v, q0q, feedC, kpF, eg, c1, chgs_len]
    refine q12 tyOk (α := Nat) 18 [0, 2, 7, 10, 11, 12, 19, 20] (fun j => j ≤ 8)
      (fun j => ⟨[.ptr 0 0, .any, u64 seq, .any, .any, .any, .any, .ptr 17 0, .any, .any, .sl 7 (chgs l), i64 l.length, i64 i, .any, .any, .any, .any, .any, .any, .agg [.ptr 1 0, .ptr 2 0, .ptr 3 0, .ptr 4 0, .ptr 5 0, .ptr 6 0, .ptr 7 0, .ptr 8 0], i64 j, .any, .any, .any, .any, .any, .any, .any, .any, .any, .any, .any, .any, .any, .any, .any, .any, .any, .any, .any, .any],
        feedM (tell1 G c seq j) ++ [.box [str c.u, i64 c.old.st, i64 c.old.pr, i64 c.old.n, i64 c.new.st, i64 c.new.pr, i64 c.new.n]]⟩)
      (fun j => 8 - j) 0 (by decide) (Nat.zero_le _) ?_ ?_
    · rw [tell1_0]; rfl
    intro j hj
    try simp only [seval, go_sem, q0v, q0q, feedC, kpF]
    (first | refine q05 ?_ ?_ | refine q08 ?_ ?_ | refine q09 ?_ ?_ | refine q07 ?_ ?_ | refine q06 ?_ ?_) <;> intro hj2
    · have hj3 : j < 8 := by have := of_decide_eq_true hj2; omega
      have ewj : IntKind.i64.wrap ((j : Int) + 1) = ((j + 1 : Nat) : Int) := by rw [wrap_i64 (by omega) (by omega)]; rfl
      obtain ⟨tl, htl⟩ := ptr_at hj3
      try simp only [seval, go_sem, q0v, q0q, feedC, kpF, Int.toNat_natCast, htl]
      refine ⟨⟨⟨by omega, by omega⟩, by omega⟩, ?_⟩
      refine q0t ((Watching_at (tell1 G c seq j) [.box [str c.u, i64 c.old.st, i64 c.old.pr, i64 c.old.n, i64 c.new.st, i64 c.new.pr, i64 c.new.n]] j c.u hr hl).mono ?_)
      rintro _ _ ⟨rfl, rfl⟩
      try simp only [seval, go_sem, q0v, q0q, feedC, kpF]
      change condK P T 9 (.v (.bool (watF G.m j c.u))) _ _ _ _ _
      cases hw : watF G.m j c.u
      · try simp only [seval, go_sem, q0v, q0q, feedC, kpF, ewj]
        simp only [q0f, St.trunc, St.keep, q00, q01, keepV, List.drop_zero, List.elem_cons, List.elem_nil, Nat.reduceAdd, Nat.reduceBEq, Nat.reduceLeDiff, Nat.zero_add, Bool.false_eq_true, ↓reduceIte]
        exact ⟨j + 1, hj3, by omega, by rw [tell1_no hw]; rfl⟩
      · try simp only [seval, go_sem, q0v, q0q, feedC, kpF]
        refine q2u (kp := fun b => b != 9 + j) (fun b hb => by simp; omega) (ring_at (tell1 G c seq j) _ hj3 (ring_PutX (tell1 G c seq j).room ((tell1 G c seq j).q j).1 ((tell1 G c seq j).q j).2 ⟨c.u, c.old, c.new, seq⟩ (by rw [tell1_at]; have := ok3 j; omega)) rfl (by simp [outOk, q03, bks]) ?_)
        rintro x m' ⟨⟨b, rfl⟩, rfl⟩
        refine ⟨_, rfl, ?_⟩
        have hset : (tell1 G c seq j).setQ j (putR (tell1 G c seq j).room (((tell1 G c seq j).q j).1, ((tell1 G c seq j).q j).2) ⟨c.u, c.old, c.new, seq⟩) = tell1 G c seq (j + 1) := by
          rw [tell1_yes hw, tell1_at]; rfl
        rw [hset]
        have nq : ∀ b, b < 9 ∨ b = 17 ∨ b = 1 + j → (b != 9 + j) = true := fun b hb => by simp; omega
        try simp only [seval, go_sem, q0v, q0q, feedC, kpF, ewj, nq 0 (by omega), nq 1 (by omega), nq 2 (by omega), nq 3 (by omega), nq 4 (by omega), nq 5 (by omega), nq 6 (by omega), nq 7 (by omega), nq 8 (by omega), nq 17 (by omega), nq (1 + j) (.inr (.inr rfl))]
        simp only [q0f, St.trunc, St.keep, q00, q01, keepV, List.drop_zero, List.elem_cons, List.elem_nil, Nat.reduceAdd, Nat.reduceBEq, Nat.reduceLeDiff, Nat.zero_add, Bool.false_eq_true, ↓reduceIte]
        exact ⟨j + 1, hj3, by omega, by rfl⟩
    · have hje : j = 8 := by have := of_decide_eq_false hj2; omega
      subst hje
      try simp only [seval, go_sem, q0v, q0q, feedC, kpF, ew]
      simp only [q0f, St.trunc, St.keep, q00, q01, keepV, List.drop_zero, List.elem_cons, List.elem_nil, Nat.reduceAdd, Nat.reduceBEq, Nat.reduceLeDiff, Nat.le_refl, Nat.zero_add, Bool.false_eq_true, ↓reduceIte]
      exact ⟨i + 1, hlt, by omega, by rw [hn]; rfl⟩
  · obtain rfl : i = l.length := by have := of_decide_eq_false h; omega
    rw [List.take_length]
    try simp only [seval, go_sem, q0v, q0q, feedC, kpF]
    apply hK
    simp only [Tryz.results64, retK, ares, Bool.and_true, AV.ofResults, St.trunc, q00, and_true, List.cons.injEq, exists_eq_left']
    rw [fm_retn]
end Go.Proofs.YtdkcpcflfnakdaaGreat
namespace Go.Proofs.YtdkcpcflfnakdaaGreat
open Go Go.Proofs.YtdkcpcflfnakdaaGreat.Sym
set_option maxRecDepth 100000
set_option maxHeartbeats 1000000
def newM (room : Int) : Nat → List AB
  | 0 => [.box [.v (.slice none 0 0), .v (.slice none 0 0), .v (.pointer none), .v (.pointer none), .v (.pointer none), .v (.pointer none), .v (.pointer none), .v (.pointer none), .v (.pointer none), .v (.pointer none)]]
  | 1 => [.box [.v (.slice none 0 0), .v (.slice none 0 0), .ptr 1 0, .v (.pointer none), .v (.pointer none), .v (.pointer none), .v (.pointer none), .v (.pointer none), .v (.pointer none), .v (.pointer none)], .box [i64 room, .v (.slice none 0 0), bool false]]
  | 2 => [.box [.v (.slice none 0 0), .v (.slice none 0 0), .ptr 1 0, .ptr 2 0, .v (.pointer none), .v (.pointer none), .v (.pointer none), .v (.pointer none), .v (.pointer none), .v (.pointer none)], .box [i64 room, .v (.slice none 0 0), bool false], .box [i64 room, .v (.slice none 0 0), bool false]]
  | 3 => [.box [.v (.slice none 0 0), .v (.slice none 0 0), .ptr 1 0, .ptr 2 0, .ptr 3 0, .v (.pointer none), .v (.pointer none), .v (.pointer none), .v (.pointer none), .v (.pointer none)], .box [i64 room, .v (.slice none 0 0), bool false], .box [i64 room, .v (.slice none 0 0), bool false], .box [i64 room, .v (.slice none 0 0), bool false]]
  | 4 => [.box [.v (.slice none 0 0), .v (.slice none 0 0), .ptr 1 0, .ptr 2 0, .ptr 3 0, .ptr 4 0, .v (.pointer none), .v (.pointer none), .v (.pointer none), .v (.pointer none)], .box [i64 room, .v (.slice none 0 0), bool false], .box [i64 room, .v (.slice none 0 0), bool false], .box [i64 room, .v (.slice none 0 0), bool false], .box [i64 room, .v (.slice none 0 0), bool false]]
  | 5 => [.box [.v (.slice none 0 0), .v (.slice none 0 0), .ptr 1 0, .ptr 2 0, .ptr 3 0, .ptr 4 0, .ptr 5 0, .v (.pointer none), .v (.pointer none), .v (.pointer none)], .box [i64 room, .v (.slice none 0 0), bool false], .box [i64 room, .v (.slice none 0 0), bool false], .box [i64 room, .v (.slice none 0 0), bool false], .box [i64 room, .v (.slice none 0 0), bool false], .box [i64 room, .v (.slice none 0 0), bool false]]
  | 6 => [.box [.v (.slice none 0 0), .v (.slice none 0 0), .ptr 1 0, .ptr 2 0, .ptr 3 0, .ptr 4 0, .ptr 5 0, .ptr 6 0, .v (.pointer none), .v (.pointer none)], .box [i64 room, .v (.slice none 0 0), bool false], .box [i64 room, .v (.slice none 0 0), bool false], .box [i64 room, .v (.slice none 0 0), bool false], .box [i64 room, .v (.slice none 0 0), bool false], .box [i64 room, .v (.slice none 0 0), bool false], .box [i64 room, .v (.slice none 0 0), bool false]]
  | 7 => [.box [.v (.slice none 0 0), .v (.slice none 0 0), .ptr 1 0, .ptr 2 0, .ptr 3 0, .ptr 4 0, .ptr 5 0, .ptr 6 0, .ptr 7 0, .v (.pointer none)], .box [i64 room, .v (.slice none 0 0), bool false], .box [i64 room, .v (.slice none 0 0), bool false], .box [i64 room, .v (.slice none 0 0), bool false], .box [i64 room, .v (.slice none 0 0), bool false], .box [i64 room, .v (.slice none 0 0), bool false], .box [i64 room, .v (.slice none 0 0), bool false], .box [i64 room, .v (.slice none 0 0), bool false]]
  | _ => [.box [.v (.slice none 0 0), .v (.slice none 0 0), .ptr 1 0, .ptr 2 0, .ptr 3 0, .ptr 4 0, .ptr 5 0, .ptr 6 0, .ptr 7 0, .ptr 8 0], .box [i64 room, .v (.slice none 0 0), bool false], .box [i64 room, .v (.slice none 0 0), bool false], .box [i64 room, .v (.slice none 0 0), bool false], .box [i64 room, .v (.slice none 0 0), bool false], .box [i64 room, .v (.slice none 0 0), bool false], .box [i64 room, .v (.slice none 0 0), bool false], .box [i64 room, .v (.slice none 0 0), bool false], .box [i64 room, .v (.slice none 0 0), bool false]]
theorem ring_New1 (room : Int) : ACall P 65 [] [i64 room] (fun x m' => x = .ptr 0 0 ∧ m' = [.box [i64 (max room 0), .v (.slice none 0 0), bool false]]) := by
  refine q0h.toA (q1d tyOk Tryz.func65 rfl rfl (N := 0) (M := 1) (Nat.zero_le _) (by simp) ?_)
  intro K hK
  simp only [Tryz.ntmps65, List.length_cons, List.length_nil, Nat.reduceAdd, Nat.reduceSub, List.replicate, List.cons_append, List.nil_append]
  try simp only [seval, go_sem]
  apply hK
  simp only [Tryz.results65, retK, ares, List.take_nil, Bool.and_true, Bool.true_and, AV.ofResults, St.trunc, q00, q01, AB.trunc, List.getD_cons_zero, List.getD_cons_succ, List.take_succ_cons, List.map_nil, List.map_cons, Nat.reduceLeDiff, true_and, and_true, ↓reduceIte, List.cons.injEq, exists_eq_left']
  rw [show (if 0 > room then 0 else room) = max room 0 by omega]
theorem feed_New0 (room : Int) : ACall P 38 [] [i64 room] (fun x m' => x = .ptr 0 0 ∧ m' = newM (max room 0) 8) := by
  refine q0h.toA (q1d tyOk Tryz.func38 rfl rfl (N := 0) (M := 9) (Nat.zero_le _) (by simp) ?_)
  intro K hK
  simp only [Tryz.ntmps38, List.length_cons, List.length_nil, Nat.reduceAdd, Nat.reduceSub, List.replicate, List.cons_append, List.nil_append]
  try simp only [seval, go_sem]
  refine q12 tyOk (α := Nat) 9 [0, 3, 7] (fun i => i ≤ 8)
    (fun i => ⟨[i64 room, .any, .any, .ptr 0 0, .any, .any, .any, i64 i, .any, .any, .any, .any, .any, .any, .any, .any, .any, .any, .any], newM (max room 0) i⟩)
    (fun i => 8 - i) 0 (by decide) (Nat.zero_le _) rfl ?_
  intro i hi
  try simp only [seval, go_sem]
  (first | refine q05 ?_ ?_ | refine q08 ?_ ?_ | refine q09 ?_ ?_ | refine q07 ?_ ?_ | refine q06 ?_ ?_) <;> intro h
  · have hlt : i < 8 := by have := of_decide_eq_true h; omega
    have c : i = 0 ∨ i = 1 ∨ i = 2 ∨ i = 3 ∨ i = 4 ∨ i = 5 ∨ i = 6 ∨ i = 7 := by omega
    rcases c with rfl | rfl | rfl | rfl | rfl | rfl | rfl | rfl
    all_goals
      simp only [newM]
      try simp only [seval, go_sem]
      refine q0k tyOk (by rfl) (by simp only [List.length_cons, List.length_nil, Nat.reduceAdd, Nat.zero_le]) (by kernel_rfl) rfl ?_
      try simp only [seval, go_sem, Int.cast_ofNat_Int]
      refine drawCall_newB (ring_New1 room) rfl rfl ?_
      try simp only [seval, go_sem, Int.cast_ofNat_Int, Int.reduceToNat]
      refine ⟨by kernel_rfl, ?_⟩
      try simp only [seval, go_sem, Int.cast_ofNat_Int, Int.reduceToNat]
      simp only [q0f, St.trunc, St.keep, q00, q01, AB.trunc, keepV, List.elem_cons, List.elem_nil, List.take_succ_cons, List.take_zero, List.map_cons, List.map_nil, Nat.reduceAdd, Nat.reduceBEq, Nat.reduceLeDiff, Nat.zero_add, Bool.false_eq_true, ↓reduceIte]
      refine ⟨_ + 1, hlt, by omega, rfl⟩
  · obtain rfl : i = 8 := by have := of_decide_eq_false h; omega
    try simp only [seval, go_sem]
    apply hK
    simp only [Tryz.results38, retK, ares, Bool.and_true, Bool.true_and, AV.ofResults, St.trunc, q00, q01, List.getD_cons_zero, List.getD_cons_succ, Nat.reduceLeDiff, true_and, and_true, ↓reduceIte, List.cons.injEq, exists_eq_left']
    rfl
theorem new_turn0 (room : Int) : Turns ⟨[.ptr 0 0], [.box [.v (.slice none 0 0), .v (.slice none 0 0), .ptr 1 0, .ptr 2 0, .ptr 3 0, .ptr 4 0, .ptr 5 0, .ptr 6 0, .ptr 7 0, .ptr 8 0], .box [i64 room, .v (.slice none 0 0), bool false], .box [i64 room, .v (.slice none 0 0), bool false], .box [i64 room, .v (.slice none 0 0), bool false], .box [i64 room, .v (.slice none 0 0), bool false], .box [i64 room, .v (.slice none 0 0), bool false], .box [i64 room, .v (.slice none 0 0), bool false], .box [i64 room, .v (.slice none 0 0), bool false], .box [i64 room, .v (.slice none 0 0), bool false]]⟩ ⟨[.ptr 0 0], [.box [.sl 1 [], .v (.slice none 0 0), .ptr 1 0, .ptr 2 0, .ptr 3 0, .ptr 4 0, .ptr 5 0, .ptr 6 0, .ptr 7 0, .ptr 8 0], .box [i64 room, .v (.slice none 0 0), bool false], .box [i64 room, .v (.slice none 0 0), bool false], .box [i64 room, .v (.slice none 0 0), bool false], .box [i64 room, .v (.slice none 0 0), bool false], .box [i64 room, .v (.slice none 0 0), bool false], .box [i64 room, .v (.slice none 0 0), bool false], .box [i64 room, .v (.slice none 0 0), bool false], .box [i64 room, .v (.slice none 0 0), bool false]]⟩ :=
  Turns.asSlIn (s := ⟨[.ptr 0 0], [.box [.v (.slice none 0 0), .v (.slice none 0 0), .ptr 1 0, .ptr 2 0, .ptr 3 0, .ptr 4 0, .ptr 5 0, .ptr 6 0, .ptr 7 0, .ptr 8 0], .box [i64 room, .v (.slice none 0 0), bool false], .box [i64 room, .v (.slice none 0 0), bool false], .box [i64 room, .v (.slice none 0 0), bool false], .box [i64 room, .v (.slice none 0 0), bool false], .box [i64 room, .v (.slice none 0 0), bool false], .box [i64 room, .v (.slice none 0 0), bool false], .box [i64 room, .v (.slice none 0 0), bool false], .box [i64 room, .v (.slice none 0 0), bool false]]⟩) (b := 0) (c := 0) 1 rfl rfl
theorem new_turn1 (room : Int) : Turns ⟨[.ptr 0 0], [.box [.sl 1 [], .v (.slice none 0 0), .ptr 1 0, .ptr 2 0, .ptr 3 0, .ptr 4 0, .ptr 5 0, .ptr 6 0, .ptr 7 0, .ptr 8 0], .box [i64 room, .v (.slice none 0 0), bool false], .box [i64 room, .v (.slice none 0 0), bool false], .box [i64 room, .v (.slice none 0 0), bool false], .box [i64 room, .v (.slice none 0 0), bool false], .box [i64 room, .v (.slice none 0 0), bool false], .box [i64 room, .v (.slice none 0 0), bool false], .box [i64 room, .v (.slice none 0 0), bool false], .box [i64 room, .v (.slice none 0 0), bool false]]⟩ ⟨[.ptr 0 0], [.box [.sl 1 [], .sl 1 [], .ptr 1 0, .ptr 2 0, .ptr 3 0, .ptr 4 0, .ptr 5 0, .ptr 6 0, .ptr 7 0, .ptr 8 0], .box [i64 room, .v (.slice none 0 0), bool false], .box [i64 room, .v (.slice none 0 0), bool false], .box [i64 room, .v (.slice none 0 0), bool false], .box [i64 room, .v (.slice none 0 0), bool false], .box [i64 room, .v (.slice none 0 0), bool false], .box [i64 room, .v (.slice none 0 0), bool false], .box [i64 room, .v (.slice none 0 0), bool false], .box [i64 room, .v (.slice none 0 0), bool false]]⟩ :=
  Turns.asSlIn (s := ⟨[.ptr 0 0], [.box [.sl 1 [], .v (.slice none 0 0), .ptr 1 0, .ptr 2 0, .ptr 3 0, .ptr 4 0, .ptr 5 0, .ptr 6 0, .ptr 7 0, .ptr 8 0], .box [i64 room, .v (.slice none 0 0), bool false], .box [i64 room, .v (.slice none 0 0), bool false], .box [i64 room, .v (.slice none 0 0), bool false], .box [i64 room, .v (.slice none 0 0), bool false], .box [i64 room, .v (.slice none 0 0), bool false], .box [i64 room, .v (.slice none 0 0), bool false], .box [i64 room, .v (.slice none 0 0), bool false], .box [i64 room, .v (.slice none 0 0), bool false]]⟩) (b := 0) (c := 1) 1 rfl rfl
theorem new_turn2 (room : Int) : Turns ⟨[.ptr 0 0], [.box [.sl 1 [], .sl 1 [], .ptr 1 0, .ptr 2 0, .ptr 3 0, .ptr 4 0, .ptr 5 0, .ptr 6 0, .ptr 7 0, .ptr 8 0], .box [i64 room, .v (.slice none 0 0), bool false], .box [i64 room, .v (.slice none 0 0), bool false], .box [i64 room, .v (.slice none 0 0), bool false], .box [i64 room, .v (.slice none 0 0), bool false], .box [i64 room, .v (.slice none 0 0), bool false], .box [i64 room, .v (.slice none 0 0), bool false], .box [i64 room, .v (.slice none 0 0), bool false], .box [i64 room, .v (.slice none 0 0), bool false]]⟩ ⟨[.ptr 0 0], [.box [.sl 1 [], .sl 1 [], .ptr 1 0, .ptr 2 0, .ptr 3 0, .ptr 4 0, .ptr 5 0, .ptr 6 0, .ptr 7 0, .ptr 8 0], .box [i64 room, .own 9 8 0 0, bool false], .box [i64 room, .v (.slice none 0 0), bool false], .box [i64 room, .v (.slice none 0 0), bool false], .box [i64 room, .v (.slice none 0 0), bool false], .box [i64 room, .v (.slice none 0 0), bool false], .box [i64 room, .v (.slice none 0 0), bool false], .box [i64 room, .v (.slice none 0 0), bool false], .box [i64 room, .v (.slice none 0 0), bool false], .row 49 8 []]⟩ :=
  Turns.adoptIn (s := ⟨[.ptr 0 0], [.box [.sl 1 [], .sl 1 [], .ptr 1 0, .ptr 2 0, .ptr 3 0, .ptr 4 0, .ptr 5 0, .ptr 6 0, .ptr 7 0, .ptr 8 0], .box [i64 room, .v (.slice none 0 0), bool false], .box [i64 room, .v (.slice none 0 0), bool false], .box [i64 room, .v (.slice none 0 0), bool false], .box [i64 room, .v (.slice none 0 0), bool false], .box [i64 room, .v (.slice none 0 0), bool false], .box [i64 room, .v (.slice none 0 0), bool false], .box [i64 room, .v (.slice none 0 0), bool false], .box [i64 room, .v (.slice none 0 0), bool false]]⟩) (b := 1) (c := 1) 49 8 rfl rfl
theorem new_turn3 (room : Int) : Turns ⟨[.ptr 0 0], [.box [.sl 1 [], .sl 1 [], .ptr 1 0, .ptr 2 0, .ptr 3 0, .ptr 4 0, .ptr 5 0, .ptr 6 0, .ptr 7 0, .ptr 8 0], .box [i64 room, .own 9 8 0 0, bool false], .box [i64 room, .v (.slice none 0 0), bool false], .box [i64 room, .v (.slice none 0 0), bool false], .box [i64 room, .v (.slice none 0 0), bool false], .box [i64 room, .v (.slice none 0 0), bool false], .box [i64 room, .v (.slice none 0 0), bool false], .box [i64 room, .v (.slice none 0 0), bool false], .box [i64 room, .v (.slice none 0 0), bool false], .row 49 8 []]⟩ ⟨[.ptr 0 0], [.box [.sl 1 [], .sl 1 [], .ptr 1 0, .ptr 2 0, .ptr 3 0, .ptr 4 0, .ptr 5 0, .ptr 6 0, .ptr 7 0, .ptr 8 0], .box [i64 room, .own 9 8 0 0, bool false], .box [i64 room, .own 10 8 0 0, bool false], .box [i64 room, .v (.slice none 0 0), bool false], .box [i64 room, .v (.slice none 0 0), bool false], .box [i64 room, .v (.slice none 0 0), bool false], .box [i64 room, .v (.slice none 0 0), bool false], .box [i64 room, .v (.slice none 0 0), bool false], .box [i64 room, .v (.slice none 0 0), bool false], .row 49 8 [], .row 49 8 []]⟩ :=
  Turns.adoptIn (s := ⟨[.ptr 0 0], [.box [.sl 1 [], .sl 1 [], .ptr 1 0, .ptr 2 0, .ptr 3 0, .ptr 4 0, .ptr 5 0, .ptr 6 0, .ptr 7 0, .ptr 8 0], .box [i64 room, .own 9 8 0 0, bool false], .box [i64 room, .v (.slice none 0 0), bool false], .box [i64 room, .v (.slice none 0 0), bool false], .box [i64 room, .v (.slice none 0 0), bool false], .box [i64 room, .v (.slice none 0 0), bool false], .box [i64 room, .v (.slice none 0 0), bool false], .box [i64 room, .v (.slice none 0 0), bool false], .box [i64 room, .v (.slice none 0 0), bool false], .row 49 8 []]⟩) (b := 2) (c := 1) 49 8 rfl rfl
theorem new_turn4 (room : Int) : Turns ⟨[.ptr 0 0], [.box [.sl 1 [], .sl 1 [], .ptr 1 0, .ptr 2 0, .ptr 3 0, .ptr 4 0, .ptr 5 0, .ptr 6 0, .ptr 7 0, .ptr 8 0], .box [i64 room, .own 9 8 0 0, bool false], .box [i64 room, .own 10 8 0 0, bool false], .box [i64 room, .v (.slice none 0 0), bool false], .box [i64 room, .v (.slice none 0 0), bool false], .box [i64 room, .v (.slice none 0 0), bool false], .box [i64 room, .v (.slice none 0 0), bool false], .box [i64 room, .v (.slice none 0 0), bool false], .box [i64 room, .v (.slice none 0 0), bool false], .row 49 8 [], .row 49 8 []]⟩ ⟨[.ptr 0 0], [.box [.sl 1 [], .sl 1 [], .ptr 1 0, .ptr 2 0, .ptr 3 0, .ptr 4 0, .ptr 5 0, .ptr 6 0, .ptr 7 0, .ptr 8 0], .box [i64 room, .own 9 8 0 0, bool false], .box [i64 room, .own 10 8 0 0, bool false], .box [i64 room, .own 11 8 0 0, bool false], .box [i64 room, .v (.slice none 0 0), bool false], .box [i64 room, .v (.slice none 0 0), bool false], .box [i64 room, .v (.slice none 0 0), bool false], .box [i64 room, .v (.slice none 0 0), bool false], .box [i64 room, .v (.slice none 0 0), bool false], .row 49 8 [], .row 49 8 [], .row 49 8 []]⟩ :=
  Turns.adoptIn (s := ⟨[.ptr 0 0], [.box [.sl 1 [], .sl 1 [], .ptr 1 0, .ptr 2 0, .ptr 3 0, .ptr 4 0, .ptr 5 0, .ptr 6 0, .ptr 7 0, .ptr 8 0], .box [i64 room, .own 9 8 0 0, bool false], .box [i64 room, .own 10 8 0 0, bool false], .box [i64 room, .v (.slice none 0 0), bool false], .box [i64 room, .v (.slice none 0 0), bool false], .box [i64 room, .v (.slice none 0 0), bool false], .box [i64 room, .v (.slice none 0 0), bool false], .box [i64 room, .v (.slice none 0 0), bool false], .box [i64 room, .v (.slice none 0 0), bool false], .row 49 8 [], .row 49 8 []]⟩) (b := 3) (c := 1) 49 8 rfl rfl
theorem new_turn5 (room : Int) : Turns ⟨[.ptr 0 0], [.box [.sl 1 [], .sl 1 [], .ptr 1 0, .ptr 2 0, .ptr 3 0, .ptr 4 0, .ptr 5 0, .ptr 6 0, .ptr 7 0, .ptr 8 0], .box [i64 room, .own 9 8 0 0, bool false], .box [i64 room, .own 10 8 0 0, bool false], .box [i64 room, .own 11 8 0 0, bool false], .box [i64 room, .v (.slice none 0 0), bool false], .box [i64 room, .v (.slice none 0 0), bool false], .box [i64 room, .v (.slice none 0 0), bool false], .box [i64 room, .v (.slice none 0 0), bool false], .box [i64 room, .v (.slice none 0 0), bool false], .row 49 8 [], .row 49 8 [], .row 49 8 []]⟩ ⟨[.ptr 0 0], [.box [.sl 1 [], .sl 1 [], .ptr 1 0, .ptr 2 0, .ptr 3 0, .ptr 4 0, .ptr 5 0, .ptr 6 0, .ptr 7 0, .ptr 8 0], .box [i64 room, .own 9 8 0 0, bool false], .box [i64 room, .own 10 8 0 0, bool false], .box [i64 room, .own 11 8 0 0, bool false], .box [i64 room, .own 12 8 0 0, bool false], .box [i64 room, .v (.slice none 0 0), bool false], .box [i64 room, .v (.slice none 0 0), bool false], .box [i64 room, .v (.slice none 0 0), bool false], .box [i64 room, .v (.slice none 0 0), bool false], .row 49 8 [], .row 49 8 [], .row 49 8 [], .row 49 8 []]⟩ :=
  Turns.adoptIn (s := ⟨[.ptr 0 0], [.box [.sl 1 [], .sl 1 [], .ptr 1 0, .ptr 2 0, .ptr 3 0, .ptr 4 0, .ptr 5 0, .ptr 6 0, .ptr 7 0, .ptr 8 0], .box [i64 room, .own 9 8 0 0, bool false], .box [i64 room, .own 10 8 0 0, bool false], .box [i64 room, .own 11 8 0 0, bool false], .box [i64 room, .v (.slice none 0 0), bool false], .box [i64 room, .v (.slice none 0 0), bool false], .box [i64 room, .v (.slice none 0 0), bool false], .box [i64 room, .v (.slice none 0 0), bool false], .box [i64 room, .v (.slice none 0 0), bool false], .row 49 8 [], .row 49 8 [], .row 49 8 []]⟩) (b := 4) (c := 1) 49 8 rfl rfl
theorem new_turn6 (room : Int) : Turns ⟨[.ptr 0 0], [.box [.sl 1 [], .sl 1 [], .ptr 1 0, .ptr 2 0, .ptr 3 0, .ptr 4 0, .ptr 5 0, .ptr 6 0, .ptr 7 0, .ptr 8 0], .box [i64 room, .own 9 8 0 0, bool false], .box [i64 room, .own 10 8 0 0, bool false], .box [i64 room, .own 11 8 0 0, bool false], .box [i64 room, .own 12 8 0 0, bool false], .box [i64 room, .v (.slice none 0 0), bool false], .box [i64 room, .v (.slice none 0 0), bool false], .box [i64 room, .v (.slice none 0 0), bool false], .box [i64 room, .v (.slice none 0 0), bool false], .row 49 8 [], .row 49 8 [], .row 49 8 [], .row 49 8 []]⟩ ⟨[.ptr 0 0], [.box [.sl 1 [], .sl 1 [], .ptr 1 0, .ptr 2 0, .ptr 3 0, .ptr 4 0, .ptr 5 0, .ptr 6 0, .ptr 7 0, .ptr 8 0], .box [i64 room, .own 9 8 0 0, bool false], .box [i64 room, .own 10 8 0 0, bool false], .box [i64 room, .own 11 8 0 0, bool false], .box [i64 room, .own 12 8 0 0, bool false], .box [i64 room, .own 13 8 0 0, bool false], .box [i64 room, .v (.slice none 0 0), bool false], .box [i64 room, .v (.slice none 0 0), bool false], .box [i64 room, .v (.slice none 0 0), bool false], .row 49 8 [], .row 49 8 [], .row 49 8 [], .row 49 8 [], .row 49 8 []]⟩ :=
  Turns.adoptIn (s := ⟨[.ptr 0 0], [.box [.sl 1 [], .sl 1 [], .ptr 1 0, .ptr 2 0, .ptr 3 0, .ptr 4 0, .ptr 5 0, .ptr 6 0, .ptr 7 0, .ptr 8 0], .box [i64 room, .own 9 8 0 0, bool false], .box [i64 room, .own 10 8 0 0, bool false], .box [i64 room, .own 11 8 0 0, bool false], .box [i64 room, .own 12 8 0 0, bool false], .box [i64 room, .v (.slice none 0 0), bool false], .box [i64 room, .v (.slice none 0 0), bool false], .box [i64 room, .v (.slice none 0 0), bool false], .box [i64 room, .v (.slice none 0 0), bool false], .row 49 8 [], .row 49 8 [], .row 49 8 [], .row 49 8 []]⟩) (b := 5) (c := 1) 49 8 rfl rfl
theorem new_turn7 (room : Int) : Turns ⟨[.ptr 0 0], [.box [.sl 1 [], .sl 1 [], .ptr 1 0, .ptr 2 0, .ptr 3 0, .ptr 4 0, .ptr 5 0, .ptr 6 0, .ptr 7 0, .ptr 8 0], .box [i64 room, .own 9 8 0 0, bool false], .box [i64 room, .own 10 8 0 0, bool false], .box [i64 room, .own 11 8 0 0, bool false], .box [i64 room, .own 12 8 0 0, bool false], .box [i64 room, .own 13 8 0 0, bool false], .box [i64 room, .v (.slice none 0 0), bool false], .box [i64 room, .v (.slice none 0 0), bool false], .box [i64 room, .v (.slice none 0 0), bool false], .row 49 8 [], .row 49 8 [], .row 49 8 [], .row 49 8 [], .row 49 8 []]⟩ ⟨[.ptr 0 0], [.box [.sl 1 [], .sl 1 [], .ptr 1 0, .ptr 2 0, .ptr 3 0, .ptr 4 0, .ptr 5 0, .ptr 6 0, .ptr 7 0, .ptr 8 0], .box [i64 room, .own 9 8 0 0, bool false], .box [i64 room, .own 10 8 0 0, bool false], .box [i64 room, .own 11 8 0 0, bool false], .box [i64 room, .own 12 8 0 0, bool false], .box [i64 room, .own 13 8 0 0, bool false], .box [i64 room, .own 14 8 0 0, bool false], .box [i64 room, .v (.slice none 0 0), bool false], .box [i64 room, .v (.slice none 0 0), bool false], .row 49 8 [], .row 49 8 [], .row 49 8 [], .row 49 8 [], .row 49 8 [], .row 49 8 []]⟩ :=
  Turns.adoptIn (s := ⟨[.ptr 0 0], [.box [.sl 1 [], .sl 1 [], .ptr 1 0, .ptr 2 0, .ptr 3 0, .ptr 4 0, .ptr 5 0, .ptr 6 0, .ptr 7 0, .ptr 8 0], .box [i64 room, .own 9 8 0 0, bool false], .box [i64 room, .own 10 8 0 0, bool false], .box [i64 room, .own 11 8 0 0, bool false], .box [i64 room, .own 12 8 0 0, bool false], .box [i64 room, .own 13 8 0 0, bool false], .box [i64 room, .v (.slice none 0 0), bool false], .box [i64 room, .v (.slice none 0 0), bool false], .box [i64 room, .v (.slice none 0 0), bool false], .row 49 8 [], .row 49 8 [], .row 49 8 [], .row 49 8 [], .row 49 8 []]⟩) (b := 6) (c := 1) 49 8 rfl rfl
theorem new_turn8 (room : Int) : Turns ⟨[.ptr 0 0], [.box [.sl 1 [], .sl 1 [], .ptr 1 0, .ptr 2 0, .ptr 3 0, .ptr 4 0, .ptr 5 0, .ptr 6 0, .ptr 7 0, .ptr 8 0], .box [i64 room, .own 9 8 0 0, bool false], .box [i64 room, .own 10 8 0 0, bool false], .box [i64 room, .own 11 8 0 0, bool false], .box [i64 room, .own 12 8 0 0, bool false], .box [i64 room, .own 13 8 0 0, bool false], .box [i64 room, .own 14 8 0 0, bool false], .box [i64 room, .v (.slice none 0 0), bool false], .box [i64 room, .v (.slice none 0 0), bool false], .row 49 8 [], .row 49 8 [], .row 49 8 [], .row 49 8 [], .row 49 8 [], .row 49 8 []]⟩ ⟨[.ptr 0 0], [.box [.sl 1 [], .sl 1 [], .ptr 1 0, .ptr 2 0, .ptr 3 0, .ptr 4 0, .ptr 5 0, .ptr 6 0, .ptr 7 0, .ptr 8 0], .box [i64 room, .own 9 8 0 0, bool false], .box [i64 room, .own 10 8 0 0, bool false], .box [i64 room, .own 11 8 0 0, bool false], .box [i64 room, .own 12 8 0 0, bool false], .box [i64 room, .own 13 8 0 0, bool false], .box [i64 room, .own 14 8 0 0, bool false], .box [i64 room, .own 15 8 0 0, bool false], .box [i64 room, .v (.slice none 0 0), bool false], .row 49 8 [], .row 49 8 [], .row 49 8 [], .row 49 8 [], .row 49 8 [], .row 49 8 [], .row 49 8 []]⟩ :=
  Turns.adoptIn (s := ⟨[.ptr 0 0], [.box [.sl 1 [], .sl 1 [], .ptr 1 0, .ptr 2 0, .ptr 3 0, .ptr 4 0, .ptr 5 0, .ptr 6 0, .ptr 7 0, .ptr 8 0], .box [i64 room, .own 9 8 0 0, bool false], .box [i64 room, .own 10 8 0 0, bool false], .box [i64 room, .own 11 8 0 0, bool false], .box [i64 room, .own 12 8 0 0, bool false], .box [i64 room, .own 13 8 0 0, bool false], .box [i64 room, .own 14 8 0 0, bool false], .box [i64 room, .v (.slice none 0 0), bool false], .box [i64 room, .v (.slice none 0 0), bool false], .row 49 8 [], .row 49 8 [], .row 49 8 [], .row 49 8 [], .row 49 8 [], .row 49 8 []]⟩) (b := 7) (c := 1) 49 8 rfl rfl
theorem new_turn9 (room : Int) : Turns ⟨[.ptr 0 0], [.box [.sl 1 [], .sl 1 [], .ptr 1 0, .ptr 2 0, .ptr 3 0, .ptr 4 0, .ptr 5 0, .ptr 6 0, .ptr 7 0, .ptr 8 0], .box [i64 room, .own 9 8 0 0, bool false], .box [i64 room, .own 10 8 0 0, bool false], .box [i64 room, .own 11 8 0 0, bool false], .box [i64 room, .own 12 8 0 0, bool false], .box [i64 room, .own 13 8 0 0, bool false], .box [i64 room, .own 14 8 0 0, bool false], .box [i64 room, .own 15 8 0 0, bool false], .box [i64 room, .v (.slice none 0 0), bool false], .row 49 8 [], .row 49 8 [], .row 49 8 [], .row 49 8 [], .row 49 8 [], .row 49 8 [], .row 49 8 []]⟩ ⟨[.ptr 0 0], [.box [.sl 1 [], .sl 1 [], .ptr 1 0, .ptr 2 0, .ptr 3 0, .ptr 4 0, .ptr 5 0, .ptr 6 0, .ptr 7 0, .ptr 8 0], .box [i64 room, .own 9 8 0 0, bool false], .box [i64 room, .own 10 8 0 0, bool false], .box [i64 room, .own 11 8 0 0, bool false], .box [i64 room, .own 12 8 0 0, bool false], .box [i64 room, .own 13 8 0 0, bool false], .box [i64 room, .own 14 8 0 0, bool false], .box [i64 room, .own 15 8 0 0, bool false], .box [i64 room, .own 16 8 0 0, bool false], .row 49 8 [], .row 49 8 [], .row 49 8 [], .row 49 8 [], .row 49 8 [], .row 49 8 [], .row 49 8 [], .row 49 8 []]⟩ :=
  Turns.adoptIn (s := ⟨[.ptr 0 0], [.box [.sl 1 [], .sl 1 [], .ptr 1 0, .ptr 2 0, .ptr 3 0, .ptr 4 0, .ptr 5 0, .ptr 6 0, .ptr 7 0, .ptr 8 0], .box [i64 room, .own 9 8 0 0, bool false], .box [i64 room, .own 10 8 0 0, bool false], .box [i64 room, .own 11 8 0 0, bool false], .box [i64 room, .own 12 8 0 0, bool false], .box [i64 room, .own 13 8 0 0, bool false], .box [i64 room, .own 14 8 0 0, bool false], .box [i64 room, .own 15 8 0 0, bool false], .box [i64 room, .v (.slice none 0 0), bool false], .row 49 8 [], .row 49 8 [], .row 49 8 [], .row 49 8 [], .row 49 8 [], .row 49 8 [], .row 49 8 []]⟩) (b := 8) (c := 1) 49 8 rfl rfl
theorem feed_New (room : Int) : ACall P 38 [] [i64 room] (fun x m' => x = .ptr 0 0 ∧ m' = feedM ⟨[], max room 0, fun _ => ([], false)⟩) := by
  refine ACall.weaken (feed_New0 room) ?_
  rintro x m' ⟨rfl, rfl⟩
  refine ⟨_, _, ?_, rfl, rfl⟩
  refine Turns.trans (new_turn0 _) ?_
  refine Turns.trans (new_turn1 _) ?_
  refine Turns.trans (new_turn2 _) ?_
  refine Turns.trans (new_turn3 _) ?_
  refine Turns.trans (new_turn4 _) ?_
  refine Turns.trans (new_turn5 _) ?_
  refine Turns.trans (new_turn6 _) ?_
  refine Turns.trans (new_turn7 _) ?_
  refine Turns.trans (new_turn8 _) ?_
  refine Turns.trans (new_turn9 _) ?_
  exact Turns.refl _
end Go.Proofs.YtdkcpcflfnakdaaGreat
namespace Go.Proofs.YtdkcpcflfnakdaaGreat
open Go Go.Proofs.YtdkcpcflfnakdaaGreat.Sym
set_option maxRecDepth 100000
set_option maxHeartbeats 1000000
theorem bits_set : ∀ m < 256, ∀ w < 8, (∀ k < 8, hasB (setB (m : Nat) (w : Nat)) (k : Nat) = (hasB (m : Nat) (k : Nat) || decide (k = w))) ∧ (0 ≤ setB (m : Nat) (w : Nat) ∧ setB (m : Nat) (w : Nat) < 256) := by decide +kernel
theorem bits_clr : ∀ m < 256, ∀ w < 8, (∀ k < 8, hasB (clrB (m : Nat) (w : Nat)) (k : Nat) = (hasB (m : Nat) (k : Nat) && decide (k ≠ w))) ∧ (0 ≤ clrB (m : Nat) (w : Nat) ∧ clrB (m : Nat) (w : Nat) < 256) := by decide +kernel
abbrev Msk := List (ByteArray × Int)
def mskOk (m : Msk) : Prop := q2h m ∧ ∀ p ∈ m, 0 ≤ p.2 ∧ p.2 < 256
theorem mask_ok {m : Msk} (h : mskOk m) (u : ByteArray) : 0 ≤ maskOf m u ∧ maskOf m u < 256 := by
  by_cases hk : u ∈ m.map Prod.fst
  · obtain ⟨⟨u', v⟩, hp, rfl⟩ := List.mem_map.1 hk
    rw [maskOf, get_mem ordS q0u h.1 hp]
    exact h.2 _ hp
  · rw [maskOf, q3v ordS q0u h.1 hk]
    exact ⟨Int.le_refl _, by decide⟩
theorem mask_mem {m : Msk} (h : mskOk m) {p : ByteArray × Int} (hp : p ∈ m) : maskOf m p.1 = p.2 := by
  rw [maskOf, get_mem ordS q0u h.1 (k := p.1) (v := p.2) hp]
theorem mask_not {m : Msk} (h : mskOk m) {u : ByteArray} (hk : u ∉ m.map Prod.fst) : maskOf m u = 0 := by
  rw [maskOf, q3v ordS q0u h.1 hk]
theorem msk_with {m : Msk} (h : mskOk m) (u : ByteArray) {v : Int} (hv : 0 ≤ v ∧ v < 256) : mskOk (withG ltS eqS m u v) := by
  refine ⟨with_rises ordS q0u h.1 u v, fun p hp => ?_⟩
  rcases (mem_with ordS q0u h.1).1 hp with rfl | ⟨hp, _⟩
  · exact hv
  · exact h.2 p hp
theorem msk_without {m : Msk} (h : mskOk m) (u : ByteArray) : mskOk (q1e ltS eqS m u) := by
  refine ⟨without_rises ordS q0u h.1 u, fun p hp => ?_⟩
  rw [q3r ordS q0u h.1] at hp
  exact h.2 p (List.mem_filter.1 hp).1
theorem mask_with {m : Msk} (h : mskOk m) (u : ByteArray) {v : Int} (hv : 0 ≤ v ∧ v < 256) (u' : ByteArray) : maskOf (withG ltS eqS m u v) u' = if u' = u then v else maskOf m u' := by
  have h' := msk_with h u hv
  by_cases e : u' = u
  · subst e
    rw [if_pos rfl]
    exact mask_mem (p := (u', v)) h' ((mem_with ordS q0u h.1).2 (.inl rfl))
  · rw [if_neg e]
    by_cases hk : u' ∈ m.map Prod.fst
    · obtain ⟨p, hp, rfl⟩ := List.mem_map.1 hk
      rw [mask_mem h hp, mask_mem h' ((mem_with ordS q0u h.1).2 (.inr ⟨hp, e⟩))]
    · rw [mask_not h hk, mask_not h']
      intro hc
      obtain ⟨p, hp, rfl⟩ := List.mem_map.1 hc
      rcases (mem_with ordS q0u h.1).1 hp with rfl | ⟨hp, _⟩
      · exact e rfl
      · exact hk (List.mem_map.2 ⟨p, hp, rfl⟩)
theorem to_nat {v : Int} (h : 0 ≤ v ∧ v < 256) : ∃ n : Nat, n < 256 ∧ v = n := ⟨v.toNat, by omega, by omega⟩
theorem watch_ok {m : Msk} (h : mskOk m) (who : Int) (u : ByteArray) : mskOk (watchM m who u) := by
  unfold watchM
  split
  · rename_i hc
    obtain ⟨w, hw, rfl⟩ := cli_iff hc
    obtain ⟨n, hn, hm⟩ := to_nat (mask_ok h u)
    rw [hm]
    exact msk_with h u (bits_set n hn w hw).2
  · exact h
theorem watch_len (m : Msk) (who : Int) (u : ByteArray) : (watchM m who u).length ≤ m.length + 1 := by
  unfold watchM
  split
  · exact with_len _ _ _
  · omega
theorem unwatch_ok {m : Msk} (h : mskOk m) (who : Int) (u : ByteArray) : mskOk (unwatchM m who u) := by
  unfold unwatchM
  split
  · rename_i hc
    obtain ⟨w, hw, rfl⟩ := cli_iff hc
    obtain ⟨n, hn, hm⟩ := to_nat (mask_ok h u)
    split
    · exact h
    · split
      · exact msk_without h u
      · rw [hm]
        exact msk_with h u (bits_clr n hn w hw).2
  · exact h
theorem unwatch_len (m : Msk) (who : Int) (u : ByteArray) : (unwatchM m who u).length ≤ m.length + 1 := by
  unfold unwatchM
  split
  · split
    · omega
    · split
      · exact Nat.le_trans (without_len _ _) (Nat.le_succ _)
      · exact with_len _ _ _
  · omega
theorem wat_watch {m : Msk} (h : mskOk m) (who : Int) (u : ByteArray) (who' : Int) (u' : ByteArray) : watF (watchM m who u) who' u' = (watF m who' u' || (cli who && (decide (who' = who) && decide (u' = u)))) := by
  unfold watF
  cases hc' : cli who' with
  | false =>
    simp only [Bool.false_and, Bool.false_or]
    cases hc : cli who with
    | false => simp
    | true =>
      have : who' ≠ who := by intro e; rw [e, hc] at hc'; cases hc'
      simp [this]
  | true =>
    simp only [Bool.true_and]
    cases hc : cli who with
    | false => rw [watchM, if_neg (by rw [hc]; decide)]; simp
    | true =>
      rw [watchM, if_pos hc]
      obtain ⟨w, hw, rfl⟩ := cli_iff hc
      obtain ⟨k, hk, rfl⟩ := cli_iff hc'
      obtain ⟨n, hn, hm⟩ := to_nat (mask_ok h u)
      obtain ⟨b1, b2⟩ := bits_set n hn w hw
      have e2 : decide ((k : Int) = (w : Int)) = decide (k = w) := by rw [Bool.eq_iff_iff]; simp; omega
      rw [hm, mask_with h u b2, Bool.true_and, e2]
      by_cases e : u' = u
      · subst e
        rw [if_pos rfl, b1 k hk, hm]; simp
      · rw [if_neg e]; simp [e]
theorem msk_nil : mskOk [] := ⟨List.Pairwise.nil, fun p hp => by cases hp⟩
theorem tell1_q (F : Fd) (c : Chg) (seq : Int) {k : Nat} (hk : k < 8) : (tell1 F c seq 8).q k = if watF F.m k c.u = true then putR F.room (F.q k) ⟨c.u, c.old, c.new, seq⟩ else F.q k := by
  unfold tell1
  simp [hk]
theorem tell1_qy {F : Fd} {c : Chg} {seq : Int} {k : Nat} (hk : k < 8) (h : watF F.m k c.u = true) : (tell1 F c seq 8).q k = putR F.room (F.q k) ⟨c.u, c.old, c.new, seq⟩ := by
  rw [tell1_q F c seq hk, if_pos h]
theorem tell_one (F : Fd) (c : Chg) (seq : Int) : tellF F [c] seq = tell1 F c seq 8 := rfl
end Go.Proofs.YtdkcpcflfnakdaaGreat
namespace Go.Proofs.YtdkcpcflfnakdaaGreat
open Go Go.Proofs.YtdkcpcflfnakdaaGreat.Sym
set_option maxRecDepth 100000
set_option maxHeartbeats 1000000
end Go.Proofs.YtdkcpcflfnakdaaGreat
namespace Go.Proofs.YtdkcpcflfnakdaaGreat
open Go Go.Proofs.YtdkcpcflfnakdaaGreat.Sym
set_option maxRecDepth 100000
set_option maxHeartbeats 1000000
abbrev Rws := List (List Ev)
def upStep (R : Rws) (best : Option Nat) (i : Nat) : Option Nat :=
  match R.getD i [], best with
  | [], _ => best
  | _ :: _, none => some i
  | e :: _, some b => match R.getD b [] with
    | [] => some i
    | f :: _ => if e.seq < f.seq then some i else some b
theorem upStep_nil {R : Rws} {o : Option Nat} {i : Nat} (h : R.getD i [] = []) : upStep R o i = o := by
  unfold upStep; rw [h]
theorem upStep_none {R : Rws} {i : Nat} {e : Ev} {t : List Ev} (h : R.getD i [] = e :: t) : upStep R none i = some i := by
  unfold upStep; rw [h]
theorem upStep_some {R : Rws} {i b : Nat} {e f : Ev} {t u : List Ev} (h : R.getD i [] = e :: t) (h2 : R.getD b [] = f :: u) : upStep R (some b) i = if e.seq < f.seq then some i else some b := by
  unfold upStep; rw [h]; simp only [h2]
def up (R : Rws) : Nat → Option Nat
  | 0 => none
  | n + 1 => upStep R (up R n) n
def Best (R : Rws) (S : Nat → Prop) : Option Nat → Prop
  | none => ∀ i, S i → R.getD i [] = []
  | some b => S b ∧ ∃ e t, R.getD b [] = e :: t ∧ ∀ i, S i → ∀ f u, R.getD i [] = f :: u → e.seq < f.seq ∨ (e.seq = f.seq ∧ b ≤ i)
theorem up_best (R : Rws) : ∀ n, Best R (fun i => i < n) (up R n)
  | 0 => fun i hi => absurd hi (Nat.not_lt_zero i)
  | n + 1 => by
    have ih := up_best R n
    rw [up]
    generalize up R n = o at ih
    cases hR : R.getD n [] with
    | nil =>
      rw [upStep_nil hR]
      cases o with
      | none =>
        intro i hi
        rcases Nat.lt_succ_iff_lt_or_eq.1 hi with h | rfl
        · exact ih i h
        · exact hR
      | some b =>
        obtain ⟨h1, e, t, h2, h3⟩ := ih
        refine ⟨Nat.lt_succ_of_lt h1, e, t, h2, fun i hi f u hf => ?_⟩
        rcases Nat.lt_succ_iff_lt_or_eq.1 hi with h | rfl
        · exact h3 i h f u hf
        · rw [hR] at hf; cases hf
    | cons e t =>
      cases o with
      | none =>
        rw [upStep_none hR]
        refine ⟨Nat.lt_succ_self n, e, t, hR, fun i hi f u hf => ?_⟩
        rcases Nat.lt_succ_iff_lt_or_eq.1 hi with h | rfl
        · rw [ih i h] at hf; cases hf
        · rw [hR] at hf; cases hf; exact .inr ⟨rfl, Nat.le_refl _⟩
      | some b =>
        obtain ⟨h1, f, u, h2, h3⟩ := ih
        rw [upStep_some hR h2]
        by_cases hlt : e.seq < f.seq
        · rw [if_pos hlt]
          refine ⟨Nat.lt_succ_self n, e, t, hR, fun i hi g v hg => ?_⟩
          rcases Nat.lt_succ_iff_lt_or_eq.1 hi with h | rfl
          · have := h3 i h g v hg; omega
          · rw [hR] at hg; cases hg; exact .inr ⟨rfl, Nat.le_refl _⟩
        · rw [if_neg hlt]
          refine ⟨Nat.lt_succ_of_lt h1, f, u, h2, fun i hi g v hg => ?_⟩
          rcases Nat.lt_succ_iff_lt_or_eq.1 hi with h | rfl
          · exact h3 i h g v hg
          · rw [hR] at hg; cases hg; omega
def bestOf (R : Rws) : Option Nat := up R R.length
def total (R : Rws) : Nat := (R.map List.length).sum
def dropAt (R : Rws) (b : Nat) : Rws := R.set b (R.getD b []).tail
theorem total_drop : ∀ {R : Rws} {b : Nat} {e : Ev} {t : List Ev}, R.getD b [] = e :: t → total R = total (dropAt R b) + 1
  | [], b, e, t, h => by simp at h
  | r :: R, 0, e, t, h => by
    have h : r = e :: t := h
    subst h
    simp only [total, dropAt, List.set, List.getD_cons_zero, List.tail, List.map_cons, List.sum_cons, List.length_cons]; omega
  | r :: R, b + 1, e, t, h => by
    have h : R.getD b [] = e :: t := h
    have ih := total_drop h
    simp only [total, dropAt, List.set, List.getD_cons_succ, List.map_cons, List.sum_cons] at ih ⊢
    omega
def mergeN : Nat → Rws → List Ev
  | 0, _ => []
  | n + 1, R => match bestOf R with
    | none => []
    | some b => match R.getD b [] with
      | [] => []
      | e :: _ => e :: mergeN n (dropAt R b)
def mergeF (R : Rws) : List Ev := mergeN (total R) R
theorem best_some' {R : Rws} {b : Nat} (h : bestOf R = some b) : b < R.length ∧ ∃ e t, R.getD b [] = e :: t ∧ ∀ i, i < R.length → ∀ f u, R.getD i [] = f :: u → e.seq ≤ f.seq := by
  have := up_best R R.length
  rw [bestOf] at h
  rw [h] at this
  obtain ⟨h1, e, t, h2, h3⟩ := this
  exact ⟨h1, e, t, h2, fun i hi f u hf => by have := h3 i hi f u hf; omega⟩
theorem merge_none {R : Rws} (h : bestOf R = none) : mergeF R = [] := by
  unfold mergeF
  cases total R with
  | zero => rfl
  | succ n => rw [mergeN, h]
theorem merge_some {R : Rws} {b : Nat} {e : Ev} {t : List Ev} (h : bestOf R = some b) (h2 : R.getD b [] = e :: t) : mergeF R = e :: mergeF (dropAt R b) := by
  unfold mergeF
  rw [total_drop h2, mergeN, h]
  simp only [h2]
theorem merge_len : ∀ n (R : Rws), total R = n → (mergeF R).length = n
  | 0, R, h => by rw [mergeF, h]; rfl
  | n + 1, R, h => by
    cases hb : bestOf R with
    | none =>
      exfalso
      have hu := up_best R R.length
      rw [bestOf] at hb
      rw [hb] at hu
      have : total R = 0 := by
        clear hb h
        have hz : ∀ r ∈ R, r = [] := fun r hr => by
          obtain ⟨i, hi, rfl⟩ := List.mem_iff_getElem.1 hr
          have := hu i hi
          rwa [List.getD_eq_getElem?_getD, List.getElem?_eq_getElem hi] at this
        clear hu
        induction R with
        | nil => rfl
        | cons r R ih =>
          have h1 := hz r List.mem_cons_self
          have h2 := ih (fun x hx => hz x (List.mem_cons_of_mem _ hx))
          subst h1
          simpa [total] using h2
      omega
    | some b =>
      obtain ⟨h1, e, t, h2, h3⟩ := best_some' hb
      have ht := total_drop h2
      rw [merge_some hb h2, List.length_cons, merge_len n _ (by omega)]
theorem drop_getD {R : Rws} {b i : Nat} (hb : b < R.length) : (dropAt R b).getD i [] = if i = b then (R.getD b []).tail else R.getD i [] := by
  unfold dropAt
  simp only [List.getD_eq_getElem?_getD]
  by_cases h : i = b
  · subst h
    rw [List.getElem?_set_self hb, if_pos rfl]; rfl
  · rw [List.getElem?_set_ne (Ne.symm h), if_neg h]
end Go.Proofs.YtdkcpcflfnakdaaGreat
namespace Go.Proofs.YtdkcpcflfnakdaaGreat
open Go Go.Proofs.YtdkcpcflfnakdaaGreat.Sym
set_option maxRecDepth 100000
set_option maxHeartbeats 1000000
theorem ev_beq (e f : Ev) : (e.u.toList == f.u.toList && (e.old.st == f.old.st && (e.old.pr == f.old.pr && (e.old.n == f.old.n && (e.new.st == f.new.st && (e.new.pr == f.new.pr && (e.new.n == f.new.n && e.seq == f.seq))))))) = decide (e = f) := by
  obtain ⟨u, ⟨a, b, c⟩, ⟨d, g, h⟩, s⟩ := e
  obtain ⟨u', ⟨a', b', c'⟩, ⟨d', g', h'⟩, s'⟩ := f
  have hu : (u.toList == u'.toList) = decide (u = u') := by
    rw [Bool.eq_iff_iff]; simp only [beq_iff_eq, decide_eq_true_eq]; exact ⟨fun h => (q0u _ _).1 (by simp [eqS, h]), fun h => by rw [h]⟩
  rw [hu, Bool.eq_iff_iff]
  simp [and_assoc]
theorem take_ev {a b : List Ev} {i : Nat} (h1 : i < a.length) (h2 : i < b.length) : (a.take (i + 1) = b.take (i + 1)) ↔ (a.take i = b.take i ∧ a[i] = b[i]) := by
  rw [q1f h1, q1f h2]
  constructor
  · intro h
    have hl : (a.take i).length = (b.take i).length := by simp; omega
    have := List.append_inj h hl
    exact ⟨this.1, by simpa using this.2⟩
  · rintro ⟨h, h'⟩; rw [h, h']
theorem ref09_Same (a b : List Ev) (ha : a.length ≤ 100000) (hb : b.length ≤ 100000) : PCall P 59 [.sl 8 (evts a), .sl 8 (evts b)] (fun x => x = bool (decide (a = b))) := by
  refine q0d tyOk Tryz.func59 rfl rfl ?_
  intro K hK
  simp only [Tryz.ntmps59, List.length_cons, List.length_nil, Nat.reduceAdd, Nat.reduceSub, List.replicate, List.cons_append, List.nil_append]
  try simp only [seval, go_sem, q2s]
  (first | refine q05 ?_ ?_ | refine q08 ?_ ?_ | refine q09 ?_ ?_ | refine q07 ?_ ?_ | refine q06 ?_ ?_) <;> intro h <;> try simp only [seval, go_sem]
  · apply hK
    simp only [Tryz.results59, retK, ares, List.take_nil, Bool.and_true, Bool.true_and, AV.ofResults, St.trunc, q00, q01, List.getD_cons_zero, List.getD_cons_succ, List.map_nil, true_and, and_true, List.cons.injEq, exists_eq_left']
    have : decide (a = b) = false := by
      rw [decide_eq_false_iff_not]; rintro rfl; simp at h
    rw [this]
  · have hl : a.length = b.length := by simp at h; omega
    refine q12 tyOk (α := Nat) 0 [0, 1, 5] (fun i => i ≤ a.length ∧ a.take i = b.take i)
      (fun i => ⟨[.sl 8 (evts a), .sl 8 (evts b), .any, .any, .any, i64 i, .any, .any, .any, .any, .any, .any, .any, .any, .any, .any, .any, .any, .any, .any, .any, .any, .any, .any, .any, .any], []⟩)
      (fun i => a.length - i) 0 (Nat.zero_le _) ⟨Nat.zero_le _, rfl⟩ rfl ?_
    intro i ⟨hi, he⟩
    try simp only [seval, go_sem, q2s]
    (first | refine q05 ?_ ?_ | refine q08 ?_ ?_ | refine q09 ?_ ?_ | refine q07 ?_ ?_ | refine q06 ?_ ?_) <;> intro h <;> try simp only [seval, go_sem]
    · have hlt : i < a.length := by have := of_decide_eq_true h; omega
      have hlt2 : i < b.length := by omega
      have eg : (evts a).getD (Int.toNat (i : Int)) .any = .agg [str a[i].u, i64 a[i].old.st, i64 a[i].old.pr, i64 a[i].old.n, i64 a[i].new.st, i64 a[i].new.pr, i64 a[i].new.n, u64 a[i].seq] := q2e (f := Ev.av) hlt
      have eg2 : (evts b).getD (Int.toNat (i : Int)) .any = .agg [str b[i].u, i64 b[i].old.st, i64 b[i].old.pr, i64 b[i].old.n, i64 b[i].new.st, i64 b[i].new.pr, i64 b[i].new.n, u64 b[i].seq] := q2e (f := Ev.av) hlt2
      have ew : IntKind.i64.wrap ((i : Int) + 1) = ((i + 1 : Nat) : Int) := by rw [wrap_i64 (by omega) (by omega)]; rfl
      have c1 : (0 : Int) ≤ (i : Int) ∧ Int.toNat (i : Int) < a.length := by omega
      have c2 : (0 : Int) ≤ (i : Int) ∧ Int.toNat (i : Int) < b.length := by omega
      have hte := take_ev hlt hlt2
      generalize a[i] = e at *
      generalize b[i] = f at *
      refine q0k tyOk (by rfl) (by simp only [List.length_nil, Nat.le_refl]) (by kernel_rfl) rfl ?_
      try simp only [seval, go_sem, eg, eg2, c1, c2, q2s]
      refine ⟨by kernel_rfl, ?_⟩
      try simp only [seval, go_sem, ev_beq]
      (first | refine q05 ?_ ?_ | refine q08 ?_ ?_ | refine q09 ?_ ?_ | refine q07 ?_ ?_ | refine q06 ?_ ?_) <;> intro h2
      · try simp only [seval, go_sem]
        apply hK
        simp only [Tryz.results59, retK, ares, List.take_nil, Bool.and_true, Bool.true_and, AV.ofResults, St.trunc, q00, q01, List.getD_cons_zero, List.getD_cons_succ, List.map_nil, true_and, and_true, List.cons.injEq, exists_eq_left']
        have : decide (a = b) = false := by
          rw [decide_eq_false_iff_not]; rintro rfl
          have := (hte.1 rfl).2
          rw [this] at h2; simp at h2
        rw [this]
      · try simp only [seval, go_sem, ew]
        simp only [q0f, St.trunc, St.keep, q00, q01, keepV, List.elem_cons, List.elem_nil, List.take_zero, List.map_nil, Nat.reduceAdd, Nat.reduceBEq, Nat.zero_add, Bool.false_eq_true, ↓reduceIte]
        exact ⟨i + 1, ⟨hlt, hte.2 ⟨he, by simpa using h2⟩⟩, by omega, rfl⟩
    · obtain rfl : i = a.length := by have := of_decide_eq_false h; omega
      apply hK
      simp only [Tryz.results59, retK, ares, List.take_nil, Bool.and_true, Bool.true_and, AV.ofResults, St.trunc, q00, q01, List.getD_cons_zero, List.getD_cons_succ, List.map_nil, true_and, and_true, List.cons.injEq, exists_eq_left']
      rw [List.take_length, hl, List.take_length] at he
      rw [decide_eq_true he]
def rws (R : Rws) : List AV := R.map fun r => .sl 8 (evts r)
theorem rws_len (R : Rws) : (rws R).length = R.length := by simp [rws]
theorem rws_at {R : Rws} {i : Nat} (h : i < R.length) : (rws R).getD (Int.toNat (i : Int)) .any = .sl 8 (evts (R.getD i [])) := by
  have := q2e (f := fun r : List Ev => AV.sl 8 (evts r)) h
  rw [List.getD_eq_getElem?_getD (l := R), List.getElem?_eq_getElem h]
  exact this
def ints (l : List Nat) : List AV := l.map fun a : Nat => i64 a
theorem ints_len (l : List Nat) : (ints l).length = l.length := by simp [ints]
theorem ints_at {l : List Nat} {i : Nat} (h : i < l.length) : (ints l).getD (Int.toNat (i : Int)) .any = i64 (l.getD i 0) := by
  have := q2e (f := fun a : Nat => i64 a) h
  rw [show l.getD i 0 = l[i] by rw [List.getD_eq_getElem?_getD, List.getElem?_eq_getElem h]; rfl]
  exact this
theorem ints_set (l : List Nat) (i v : Nat) : (ints l).set i (i64 v) = ints (l.set i v) := by rw [ints, ints, List.map_set]
def remF (R : Rws) (at_ : List Nat) : Rws := (List.range R.length).map fun i => (R.getD i []).drop (at_.getD i 0)
theorem rem_len (R : Rws) (at_ : List Nat) : (remF R at_).length = R.length := by simp [remF]
theorem rem_getD {R : Rws} {at_ : List Nat} {i : Nat} (h : i < R.length) : (remF R at_).getD i [] = (R.getD i []).drop (at_.getD i 0) := by
  simp [remF, List.getD_eq_getElem?_getD, h]
theorem rem_zero (R : Rws) : remF R (List.replicate R.length 0) = R := by
  apply List.ext_getElem
  · simp [remF]
  · intro i h1 h2
    simp [remF, List.getD_eq_getElem?_getD, h2]
theorem rem_next {R : Rws} {at_ : List Nat} {b : Nat} (hl : at_.length = R.length) (hb : b < R.length) : remF R (at_.set b (at_.getD b 0 + 1)) = dropAt (remF R at_) b := by
  apply List.ext_getElem
  · simp [remF, dropAt]
  · intro i h1 h2
    have hi : i < R.length := by simpa [remF] using h1
    have e1 : (remF R (at_.set b (at_.getD b 0 + 1)))[i] = (R.getD i []).drop ((at_.set b (at_.getD b 0 + 1)).getD i 0) := by
      have := rem_getD (at_ := at_.set b (at_.getD b 0 + 1)) hi
      rwa [List.getD_eq_getElem?_getD, List.getElem?_eq_getElem h1] at this
    have e2 : (dropAt (remF R at_) b)[i] = (dropAt (remF R at_) b).getD i [] := by rw [List.getD_eq_getElem?_getD, List.getElem?_eq_getElem h2]; rfl
    rw [e1, e2, drop_getD (by rw [rem_len]; exact hb)]
    by_cases h : i = b
    · subst h
      rw [if_pos rfl, rem_getD hi, List.tail_drop, List.getD_eq_getElem?_getD, List.getElem?_set_self (by omega)]; rfl
    · rw [if_neg h, rem_getD hi, List.getD_eq_getElem?_getD, List.getElem?_set_ne (Ne.symm h), ← List.getD_eq_getElem?_getD]
def bI : Option Nat → Int
  | none => -1
  | some b => b
theorem rem_cons {R : Rws} {at_ : List Nat} {i : Nat} (hi : i < R.length) {e : Ev} {t : List Ev} (h : (remF R at_).getD i [] = e :: t) :
    at_.getD i 0 < (R.getD i []).length ∧ ∀ (hlt : at_.getD i 0 < (R.getD i []).length), (R.getD i [])[at_.getD i 0] = e := by
  rw [rem_getD hi] at h
  have hlt : at_.getD i 0 < (R.getD i []).length := by
    apply Nat.lt_of_not_le
    intro hc
    rw [List.drop_of_length_le hc] at h; cases h
  refine ⟨hlt, fun _ => ?_⟩
  rw [List.drop_eq_getElem_cons hlt] at h
  cases h; rfl
theorem rem_nil {R : Rws} {at_ : List Nat} {i : Nat} (hi : i < R.length) (h : (remF R at_).getD i [] = []) : ¬ at_.getD i 0 < (R.getD i []).length := by
  rw [rem_getD hi] at h
  have := congrArg List.length h
  rw [List.length_drop, List.length_nil] at this
  omega
theorem ev_at {r : List Ev} {k : Nat} {e : Ev} (h : k < r.length) (he : ∀ (h : k < r.length), r[k] = e) : (evts r).getD (Int.toNat (k : Int)) .any = .agg [str e.u, i64 e.old.st, i64 e.old.pr, i64 e.old.n, i64 e.new.st, i64 e.new.pr, i64 e.new.n, u64 e.seq] := by
  have := q2e (f := Ev.av) h
  rw [he h] at this
  exact this
set_option maxHeartbeats 2000000 in
theorem feed_Merge (R : Rws) (hR : R.length ≤ 1000) (ht : total R ≤ 100000) (hr : ∀ i, (R.getD i []).length ≤ 100000) : PCall P 68 [.sl 1 (rws R)] (fun x => x = .sl 8 (evts (mergeF R))) := by
  refine q0d tyOk Tryz.func68 rfl rfl ?_
  intro K hK
  simp only [Tryz.ntmps68, List.length_cons, List.length_nil, Nat.reduceAdd, Nat.reduceSub, List.replicate, List.cons_append, List.nil_append]
  try simp only [seval, go_sem, rws_len]
  refine ⟨⟨by omega, by omega, by simp only [Int.toNat_natCast]; omega⟩, ?_⟩
  refine loopK_turn (Turns.adopt (i := 3) 49 8 rfl) ?_
  refine q12 tyOk (α := List Ev × List Nat) 2 [0, 3, 4] (fun s => s.2.length = R.length ∧ s.1 ++ mergeF (remF R s.2) = mergeF R)
    (fun s => ⟨[.sl 1 (rws R), .any, .any, .own 1 8 0 s.1.length, .own 0 1 0 R.length, .any, .any, .any, .any, .any, .any, .any, .any, .any, .any, .any, .any, .any, .any, .any, .any, .any, .any, .any, .any, .any, .any, .any, .any, .any, .any, .any, .any, .any, .any, .any, .any, .any, .any, .any, .any, .any, .any, .any, .any, .any, .any, .any, .any, .any, .any, .any, .any, .any, .any, .any, .any, .any, .any, .any, .any, .any, .any, .any, .any, .any, .any, .any, .any, .any, .any, .any, .any, .any, .any, .any, .any, .any], [.row 3 1 (ints s.2), .row 49 8 (evts s.1)]⟩)
    (fun s => total (remF R s.2)) ([], List.replicate R.length 0) (Nat.zero_le _) ⟨by simp, by rw [rem_zero]; rfl⟩ (by simp only [ints, List.map_replicate]; rfl) ?_
  rintro ⟨out, at_⟩ ⟨hl, hm⟩
  simp only at hl hm ⊢
  have hlen := congrArg List.length hm
  rw [List.length_append, merge_len _ _ rfl, merge_len _ _ rfl] at hlen
  have hRm : (remF R at_).length = R.length := rem_len R at_
  obtain ⟨Rm, hRe⟩ : ∃ Rm, remF R at_ = Rm := ⟨_, rfl⟩
  have hal : ∀ j, j < R.length → at_.getD j 0 < R.length + 100001 + at_.getD j 0 := fun j hj => by omega
  try simp only [seval, go_sem, rws_len]
  refine q12 tyOk (α := Nat) 2 [0, 3, 4, 5, 11, 12] (fun i => i ≤ R.length)
    (fun i => ⟨[.sl 1 (rws R), .any, .any, .own 1 8 0 out.length, .own 0 1 0 R.length, i64 (bI (up Rm i)), .any, .any, .any, .any, .any, i64 R.length, i64 i, .any, .any, .any, .any, .any, .any, .any, .any, .any, .any, .any, .any, .any, .any, .any, .any, .any, .any, .any, .any, .any, .any, .any, .any, .any, .any, .any, .any, .any, .any, .any, .any, .any, .any, .any, .any, .any, .any, .any, .any, .any, .any, .any, .any, .any, .any, .any, .any, .any, .any, .any, .any, .any, .any, .any, .any, .any, .any, .any, .any, .any, .any, .any, .any, .any], [.row 3 1 (ints at_), .row 49 8 (evts out)]⟩)
    (fun i => R.length - i) 0 (Nat.zero_le _) (Nat.zero_le _) rfl ?_
  intro i hi
  try simp only [seval, go_sem, rws_len]
  (first | refine q05 ?_ ?_ | refine q08 ?_ ?_ | refine q09 ?_ ?_ | refine q07 ?_ ?_ | refine q06 ?_ ?_) <;> intro h
  · have hlt : i < R.length := by have := of_decide_eq_true h; omega
    have eg := rws_at hlt
    have ea := ints_at (l := at_) (i := i) (by omega)
    have ew : IntKind.i64.wrap ((i : Int) + 1) = ((i + 1 : Nat) : Int) := by rw [wrap_i64 (by omega) (by omega)]; rfl
    have c1 : (0 : Int) ≤ (i : Int) ∧ Int.toNat (i : Int) < R.length := by omega
    have c2 : Int.toNat (i : Int) < at_.length := by omega
    have hup : up Rm (i + 1) = upStep Rm (up Rm i) i := rfl
    have hub := up_best Rm i
    try simp only [seval, go_sem]
    refine q0k tyOk (by rfl) (by simp only [List.length_cons, List.length_nil, Nat.reduceAdd, Nat.zero_le]) (by kernel_rfl) rfl ?_
    try simp only [seval, go_sem, eg, ea, c1, c2, rws_len, ints_len, q2s]
    cases hRi : Rm.getD i [] with
    | nil =>
      have hz : decide (((at_.getD i 0 : Nat) : Int) < (((R.getD i []).length : Nat) : Int)) = false := decide_eq_false (by
        have := rem_nil hlt (hRe ▸ hRi); omega)
      rw [upStep_nil hRi] at hup
      try simp only [seval, go_sem, hz]
      refine ⟨by kernel_rfl, ?_⟩
      try simp only [seval, go_sem, ew]
      simp only [q0f, St.trunc, St.keep, q00, q01, AB.trunc, keepV, List.elem_cons, List.elem_nil, List.take_succ_cons, List.take_zero, List.map_cons, List.map_nil, Nat.reduceAdd, Nat.reduceBEq, Nat.reduceLeDiff, Nat.zero_add, Bool.false_eq_true, ↓reduceIte]
      exact ⟨i + 1, hlt, by omega, by rw [hup]⟩
    | cons e t =>
      obtain ⟨p1, p2⟩ := rem_cons hlt (hRe ▸ hRi)
      have hz : decide (((at_.getD i 0 : Nat) : Int) < (((R.getD i []).length : Nat) : Int)) = true := decide_eq_true (by omega)
      have eev := ev_at p1 p2
      have c3 : (0 : Int) ≤ ((at_.getD i 0 : Nat) : Int) ∧ Int.toNat ((at_.getD i 0 : Nat) : Int) < (R.getD i []).length := by omega
      cases hu : up Rm i with
      | none =>
        rw [hu, upStep_none hRi] at hup
        have hz2 : decide (bI none < 0) = true := by decide
        try simp only [seval, go_sem, hz, hu, hz2]
        refine ⟨by kernel_rfl, ?_⟩
        try simp only [seval, go_sem, ew]
        simp only [q0f, St.trunc, St.keep, q00, q01, AB.trunc, keepV, List.elem_cons, List.elem_nil, List.take_succ_cons, List.take_zero, List.map_cons, List.map_nil, Nat.reduceAdd, Nat.reduceBEq, Nat.reduceLeDiff, Nat.zero_add, Bool.false_eq_true, ↓reduceIte]
        exact ⟨i + 1, hlt, by omega, by rw [hup]; rfl⟩
      | some b =>
        rw [hu] at hub
        obtain ⟨u1, f, u, u2, u3⟩ := hub
        rw [hu, upStep_some hRi u2] at hup
        have hbl : b < R.length := by have : b < i := u1; omega
        have hz2 : decide ((b : Int) < 0) = false := decide_eq_false (by omega)
        have hbi : bI (some b) = (b : Int) := rfl
        obtain ⟨q1, q2⟩ := rem_cons hbl (hRe ▸ u2)
        have eev2 := ev_at q1 q2
        have eg2 := rws_at hbl
        have ea2 := ints_at (l := at_) (i := b) (by omega)
        have d1 : (0 : Int) ≤ (b : Int) ∧ Int.toNat (b : Int) < R.length := by omega
        have d2 : Int.toNat (b : Int) < at_.length := by omega
        have d3 : (0 : Int) ≤ ((at_.getD b 0 : Nat) : Int) ∧ Int.toNat ((at_.getD b 0 : Nat) : Int) < (R.getD b []).length := by omega
        try simp only [seval, go_sem, hz, hu, hz2, hbi, eg, ea, c1, c2, c3, eev, eg2, ea2, d1, d2, d3, eev2, rws_len, ints_len, q2s]
        refine ⟨by kernel_rfl, ?_⟩
        (first | refine q05 ?_ ?_ | refine q08 ?_ ?_ | refine q09 ?_ ?_ | refine q07 ?_ ?_ | refine q06 ?_ ?_) <;> intro h3
        · have h3' : e.seq < f.seq := of_decide_eq_true h3
          rw [if_pos h3'] at hup
          try simp only [seval, go_sem, ew]
          simp only [q0f, St.trunc, St.keep, q00, q01, AB.trunc, keepV, List.elem_cons, List.elem_nil, List.take_succ_cons, List.take_zero, List.map_cons, List.map_nil, Nat.reduceAdd, Nat.reduceBEq, Nat.reduceLeDiff, Nat.zero_add, Bool.false_eq_true, ↓reduceIte]
          exact ⟨i + 1, hlt, by omega, by rw [hup]; rfl⟩
        · have h3' : ¬ e.seq < f.seq := of_decide_eq_false h3
          rw [if_neg h3'] at hup
          try simp only [seval, go_sem, ew]
          simp only [q0f, St.trunc, St.keep, q00, q01, AB.trunc, keepV, List.elem_cons, List.elem_nil, List.take_succ_cons, List.take_zero, List.map_cons, List.map_nil, Nat.reduceAdd, Nat.reduceBEq, Nat.reduceLeDiff, Nat.zero_add, Bool.false_eq_true, ↓reduceIte]
          exact ⟨i + 1, hlt, by omega, by rw [hup]; rfl⟩
  · obtain rfl : i = R.length := by have := of_decide_eq_false h; omega
    have hbo : up Rm R.length = bestOf Rm := by rw [bestOf, ← hRe, hRm]
    rw [hbo]
    cases hb : bestOf Rm with
    | none =>
      have hmn := merge_none hb
      rw [hRe, hmn, List.append_nil] at hm
      have hz2 : decide (bI none < 0) = true := by decide
      try simp only [seval, go_sem, hz2]
      apply hK
      simp only [Tryz.results68, retK, ares, Bool.and_true, Bool.true_and, AV.ofResults, St.trunc, q00, q01, List.getD_cons_zero, List.getD_cons_succ, List.take_zero, List.drop_zero, List.map_nil, List.getElem?_cons_zero, List.getElem?_cons_succ, Nat.reduceLeDiff, true_and, and_true, ↓reduceIte, List.cons.injEq, exists_eq_left']
      rw [q20 (q2s out), hm]
    | some b =>
      obtain ⟨b1, e, t, b2, b3⟩ := best_some' hb
      have hbl : b < R.length := by rw [← hRe, hRm] at b1; exact b1
      have hz2 : decide ((b : Int) < 0) = false := decide_eq_false (by omega)
      have hbi : bI (some b) = (b : Int) := rfl
      obtain ⟨q1, q2⟩ := rem_cons hbl (hRe ▸ b2)
      have eev := ev_at q1 q2
      have eg := rws_at hbl
      have ea := ints_at (l := at_) (i := b) (by omega)
      have d1 : (0 : Int) ≤ (b : Int) ∧ Int.toNat (b : Int) < R.length := by omega
      have d2 : Int.toNat (b : Int) < at_.length := by omega
      have d3 : (0 : Int) ≤ ((at_.getD b 0 : Nat) : Int) ∧ Int.toNat ((at_.getD b 0 : Nat) : Int) < (R.getD b []).length := by omega
      have hrb := hr b
      have ew : IntKind.i64.wrap (((at_.getD b 0 : Nat) : Int) + 1) = ((at_.getD b 0 + 1 : Nat) : Int) := by rw [wrap_i64 (by omega) (by omega)]; rfl
      have hms := merge_some hb b2
      have htd := total_drop b2
      have hnx := rem_next hl hbl
      rw [hRe] at hnx
      try simp only [seval, go_sem, hz2, hbi]
      refine q0k tyOk (by rfl) (by simp only [List.length_cons, List.length_nil, Nat.reduceAdd, Nat.zero_le]) (by kernel_rfl) rfl ?_
      try simp only [seval, go_sem, eg, ea, d1, d2, d3, eev, rws_len, ints_len, q2s]
      refine ⟨⟨by simp only [maxLen]; omega, by omega⟩, ?_⟩
      refine ⟨by kernel_rfl, ?_⟩
      try simp only [seval, go_sem, eg, ea, d1, d2, d3, rws_len, ints_len, ew]
      simp only [q0f, St.trunc, St.keep, q00, q01, AB.trunc, keepV, List.elem_cons, List.elem_nil, List.take_succ_cons, List.take_zero, List.map_cons, List.map_nil, Nat.reduceAdd, Nat.reduceBEq, Nat.reduceLeDiff, Nat.zero_add, Bool.false_eq_true, ↓reduceIte]
      refine ⟨(out ++ [e], at_.set b (at_.getD b 0 + 1)), ⟨by rw [List.length_set]; exact hl, ?_⟩, ?_, ?_⟩
      · simp only
        rw [hnx, List.append_assoc, List.singleton_append, ← hms, ← hRe]
        exact hm
      · simp only
        rw [hnx, hRe]; omega
      · simp only [evts_snoc, List.length_append, List.length_singleton, Int.toNat_natCast]
        rw [← ints_set]
end Go.Proofs.YtdkcpcflfnakdaaGreat
