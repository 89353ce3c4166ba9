/- The functions of the layer book. -/
import Derived.Test.YtdkcpcflfnakdaaGreatMd
import Derived.Test.YtdkcpcflfnakdaaGreatMc
import Derived.Test.YtdkcpcflfnakdaaGreatSymZi
namespace Go.Proofs.YtdkcpcflfnakdaaGreat
open Go Go.Proofs.YtdkcpcflfnakdaaGreat.Sym
set_option maxRecDepth 100000
set_option maxHeartbeats 1000000
set_option linter.unusedSimpArgs false
set_option linter.unusedVariables false

def addW (a b : Int) : Int := if IntKind.u64.wrap (18446744073709551615 - a) < b then 18446744073709551615 else IntKind.u64.wrap (a + b)
theorem tick_Add (a b : Int) : PCall P 94 [u64 a, u64 b] (fun x => x = u64 (addW a b)) := by
  refine q0u tyOk Tryz.func94 rfl rfl ?_
  intro K hK
  simp only [Tryz.ntmps94, List.length_cons, List.length_nil, Nat.reduceAdd, Nat.reduceSub, List.replicate, List.cons_append, List.nil_append]
  try simp (maxSteps := 1000000) only [seval, -Int.reduceToNat, -Int.reduceNatCast, -Int.reduceNatCast', -Nat.reduceSubDiff, T, eqc36, eqc44, eqc49, eqc52, q00, q01, q02, q03]
  (first | refine q0a ?_ ?_ | refine q0g ?_ ?_ | refine q0h ?_ ?_ | refine q0i ?_ ?_ | refine q0b ?_ ?_) <;> intro h <;> try simp (maxSteps := 1000000) only [seval, -Int.reduceToNat, -Int.reduceNatCast, -Int.reduceNatCast', -Nat.reduceSubDiff, T, eqc36, eqc44, eqc49, eqc52, q00, q01, q02, q03]
  · apply hK
    simp only [Tryz.results94, retK, ares, List.take_nil, Bool.and_true, Bool.true_and, AV.ofResults, St.trunc, q04, q05, List.getD_cons_zero, List.getD_cons_succ, List.map_nil, true_and, and_true, List.cons.injEq, exists_eq_left']
    rw [addW, if_pos (by simpa using h)]
  · apply hK
    simp only [Tryz.results94, retK, ares, List.take_nil, Bool.and_true, Bool.true_and, AV.ofResults, St.trunc, q04, q05, List.getD_cons_zero, List.getD_cons_succ, List.map_nil, true_and, and_true, List.cons.injEq, exists_eq_left']
    rw [addW, if_neg (by simpa using h)]
abbrev Bk := List (ByteArray × En)
/-- What a user's sessions come to. -/
def ofP (l : List Ses) (now : Int) : Pr := ⟨(bestF (lives now l)).1.st, (bestF (lives now l)).1.pr, (bestF (lives now l)).2⟩
def wasOf (m : Bk) (u : ByteArray) : En := (getG ltS eqS nilEn m u).1
def settleB (m : Bk) (u : ByteArray) (l : List Ses) (now : Int) : Bk := if l.length = 0 then q21 ltS eqS m u else withG ltS eqS m u ⟨l, ofP l now⟩
def settleC (m : Bk) (u : ByteArray) (l : List Ses) (now : Int) : List Chg := if ofP l now = (wasOf m u).t then [] else [⟨u, (wasOf m u).t, ofP l now⟩]

theorem of_call (l : List Ses) (now : Int) (h : l.length ≤ 1000000) : PCall P 79 [.sl 4 (avs l), u64 now] (fun x => x = .agg [i64 (ofP l now).st, i64 (ofP l now).pr, i64 (ofP l now).n]) := aggr_Of l now (by omega)
theorem get_open (m : Bk) (u : ByteArray) (hr : rises_se m) (hlen : m.length ≤ 800000) : PCall P 78 [q1c m, str u]
    (fun x => x = .tup [.agg [.sl 4 (avs (wasOf m u).l), i64 (wasOf m u).t.st, i64 (wasOf m u).t.pr, i64 (wasOf m u).t.n], bool (getG ltS eqS nilEn m u).2]) := get_call_se m u hr (by omega)

theorem settle_raw (m : Bk) (u : ByteArray) (l : List Ses) (now : Int) (hr : rises_se m) (hlen : m.length ≤ 800000) (hl : l.length ≤ 800000) :
    PCall P 91 [q1c m, str u, .sl 4 (avs l), u64 now] (fun x => x = .tup [q1c (settleB m u l now), if settleC m u l now = [] then .v (.slice none 0 0) else .sl 7 (chgs (settleC m u l now))]) := by
  refine q0u tyOk Tryz.func91 rfl rfl ?_
  intro K hK
  simp only [Tryz.ntmps91, List.length_cons, List.length_nil, Nat.reduceAdd, Nat.reduceSub, List.replicate, List.cons_append, List.nil_append]
  try simp (maxSteps := 1000000) only [seval, -Int.reduceToNat, -Int.reduceNatCast, -Int.reduceNatCast', -Nat.reduceSubDiff, T, eqc36, eqc44, eqc49, eqc52, q00, q01, q02, q03, q1c]
  (refine q06 (get_open m u hr hlen) rfl ?_; rintro _ rfl)
  try simp (maxSteps := 1000000) only [seval, -Int.reduceToNat, -Int.reduceNatCast, -Int.reduceNatCast', -Nat.reduceSubDiff, T, eqc36, eqc44, eqc49, eqc52, q00, q01, q02, q03]
  (refine q06 (of_call l now (by omega)) rfl ?_; rintro _ rfl)
  try simp (maxSteps := 1000000) only [seval, -Int.reduceToNat, -Int.reduceNatCast, -Int.reduceNatCast', -Nat.reduceSubDiff, T, eqc36, eqc44, eqc49, eqc52, q00, q01, q02, q03, pr_beq, q16]
  (first | refine q0a ?_ ?_ | refine q0g ?_ ?_ | refine q0h ?_ ?_ | refine q0i ?_ ?_ | refine q0b ?_ ?_) <;> intro h
  · have hne : ¬ ofP l now = (wasOf m u).t := by simpa using h
    have hc : settleC m u l now = [⟨u, (wasOf m u).t, ofP l now⟩] := by rw [settleC, if_neg hne]
    try simp (maxSteps := 1000000) only [seval, -Int.reduceToNat, -Int.reduceNatCast, -Int.reduceNatCast', -Nat.reduceSubDiff, T, eqc36, eqc44, eqc49, eqc52, q00, q01, q02, q03, q16]
    (first | refine q0a ?_ ?_ | refine q0g ?_ ?_ | refine q0h ?_ ?_ | refine q0i ?_ ?_ | refine q0b ?_ ?_) <;> intro h2
    · have hl0 : l.length = 0 := by simpa using h2
      have hs : settleB m u l now = q21 ltS eqS m u := by rw [settleB, if_pos hl0]
      try simp (maxSteps := 1000000) only [seval, -Int.reduceToNat, -Int.reduceNatCast, -Int.reduceNatCast', -Nat.reduceSubDiff, T, eqc36, eqc44, eqc49, eqc52, q00, q01, q02, q03]
      (refine q06 (without_call_se m u hr (by omega)) rfl ?_; rintro _ rfl)
      try simp (maxSteps := 1000000) only [seval, -Int.reduceToNat, -Int.reduceNatCast, -Int.reduceNatCast', -Nat.reduceSubDiff, T, eqc36, eqc44, eqc49, eqc52, q00, q01, q02, q03, q1c]
      apply hK
      simp only [Tryz.results91, retK, ares, List.take_nil, Bool.and_true, Bool.true_and, AV.ofResults, St.trunc, q04, q05, aload, acell, T, TI.isAgg, List.getD_cons_zero, List.getD_cons_succ, List.take_zero, List.take_succ_cons, List.drop_zero, List.map_nil, List.getElem?_cons_zero, List.getElem?_cons_succ, List.length_cons, List.length_nil, Nat.reduceAdd, Nat.reduceLeDiff, Nat.le_refl, true_and, and_true, ↓reduceIte, List.cons.injEq, exists_eq_left']
      rw [hc, hs]
      try rfl
    · have hl0 : ¬ l.length = 0 := by simpa using h2
      have hs : settleB m u l now = withG ltS eqS m u ⟨l, ofP l now⟩ := by rw [settleB, if_neg hl0]
      have hw := with_call_se m u ⟨l, ofP l now⟩ hr (by omega)
      unfold En.av at hw
      try simp (maxSteps := 1000000) only [seval, -Int.reduceToNat, -Int.reduceNatCast, -Int.reduceNatCast', -Nat.reduceSubDiff, T, eqc36, eqc44, eqc49, eqc52, q00, q01, q02, q03]
      (refine q06 hw rfl ?_; rintro _ rfl)
      try simp (maxSteps := 1000000) only [seval, -Int.reduceToNat, -Int.reduceNatCast, -Int.reduceNatCast', -Nat.reduceSubDiff, T, eqc36, eqc44, eqc49, eqc52, q00, q01, q02, q03, q1c]
      apply hK
      simp only [Tryz.results91, retK, ares, List.take_nil, Bool.and_true, Bool.true_and, AV.ofResults, St.trunc, q04, q05, aload, acell, T, TI.isAgg, List.getD_cons_zero, List.getD_cons_succ, List.take_zero, List.take_succ_cons, List.drop_zero, List.map_nil, List.getElem?_cons_zero, List.getElem?_cons_succ, List.length_cons, List.length_nil, Nat.reduceAdd, Nat.reduceLeDiff, Nat.le_refl, true_and, and_true, ↓reduceIte, List.cons.injEq, exists_eq_left']
      rw [hc, hs]
      try rfl
  · have hne : ofP l now = (wasOf m u).t := by simpa using h
    have hc : settleC m u l now = [] := by rw [settleC, if_pos hne]
    try simp (maxSteps := 1000000) only [seval, -Int.reduceToNat, -Int.reduceNatCast, -Int.reduceNatCast', -Nat.reduceSubDiff, T, eqc36, eqc44, eqc49, eqc52, q00, q01, q02, q03, q16]
    (first | refine q0a ?_ ?_ | refine q0g ?_ ?_ | refine q0h ?_ ?_ | refine q0i ?_ ?_ | refine q0b ?_ ?_) <;> intro h2
    · have hl0 : l.length = 0 := by simpa using h2
      have hs : settleB m u l now = q21 ltS eqS m u := by rw [settleB, if_pos hl0]
      try simp (maxSteps := 1000000) only [seval, -Int.reduceToNat, -Int.reduceNatCast, -Int.reduceNatCast', -Nat.reduceSubDiff, T, eqc36, eqc44, eqc49, eqc52, q00, q01, q02, q03]
      (refine q06 (without_call_se m u hr (by omega)) rfl ?_; rintro _ rfl)
      try simp (maxSteps := 1000000) only [seval, -Int.reduceToNat, -Int.reduceNatCast, -Int.reduceNatCast', -Nat.reduceSubDiff, T, eqc36, eqc44, eqc49, eqc52, q00, q01, q02, q03, q1c]
      apply hK
      simp only [Tryz.results91, retK, ares, List.take_nil, Bool.and_true, Bool.true_and, AV.ofResults, St.trunc, q04, q05, aload, acell, T, TI.isAgg, List.getD_cons_zero, List.getD_cons_succ, List.take_zero, List.take_succ_cons, List.drop_zero, List.map_nil, List.getElem?_cons_zero, List.getElem?_cons_succ, List.length_cons, List.length_nil, Nat.reduceAdd, Nat.le_refl, true_and, and_true, ↓reduceIte, List.cons.injEq, exists_eq_left']
      rw [hc, hs]
      try rfl
    · have hl0 : ¬ l.length = 0 := by simpa using h2
      have hs : settleB m u l now = withG ltS eqS m u ⟨l, ofP l now⟩ := by rw [settleB, if_neg hl0]
      have hw := with_call_se m u ⟨l, ofP l now⟩ hr (by omega)
      unfold En.av at hw
      try simp (maxSteps := 1000000) only [seval, -Int.reduceToNat, -Int.reduceNatCast, -Int.reduceNatCast', -Nat.reduceSubDiff, T, eqc36, eqc44, eqc49, eqc52, q00, q01, q02, q03]
      (refine q06 hw rfl ?_; rintro _ rfl)
      try simp (maxSteps := 1000000) only [seval, -Int.reduceToNat, -Int.reduceNatCast, -Int.reduceNatCast', -Nat.reduceSubDiff, T, eqc36, eqc44, eqc49, eqc52, q00, q01, q02, q03, q1c]
      apply hK
      simp only [Tryz.results91, retK, ares, List.take_nil, Bool.and_true, Bool.true_and, AV.ofResults, St.trunc, q04, q05, aload, acell, T, TI.isAgg, List.getD_cons_zero, List.getD_cons_succ, List.take_zero, List.take_succ_cons, List.drop_zero, List.map_nil, List.getElem?_cons_zero, List.getElem?_cons_succ, List.length_cons, List.length_nil, Nat.reduceAdd, Nat.le_refl, true_and, and_true, ↓reduceIte, List.cons.injEq, exists_eq_left']
      rw [hc, hs]
      try rfl
theorem settle_call (m : Bk) (u : ByteArray) (l : List Ses) (now : Int) (hr : rises_se m) (hlen : m.length ≤ 800000) (hl : l.length ≤ 800000) :
    PCall P 91 [q1c m, str u, .sl 4 (avs l), u64 now] (fun x => x = .tup [q1c (settleB m u l now), .sl 7 (chgs (settleC m u l now))]) := by
  refine (settle_raw m u l now hr hlen hl).weaken (.inr ⟨_, rfl, _, _, rfl, q1j _, _, _, rfl, ?_, rfl⟩)
  split
  · rename_i h; rw [h]; exact weak_nil 7
  · exact q1j _

/-- An op, as the program holds it. -/
structure Opb where
  kind : Int
  u : ByteArray
  id : Int
  st : Int
  pr : Int
  ttl : Int
  us : List ByteArray
def Opb.av (o : Opb) : AV := .agg [i64 o.kind, str o.u, i64 o.id, i64 o.st, i64 o.pr, u64 o.ttl, .sl 1 (o.us.map fun x => str x)]
def bookOk (n : Nat) (m : Bk) : Prop := rises_se m ∧ m.length ≤ n ∧ ∀ p ∈ m, Up p.2.l ∧ p.2.l.length ≤ n
def writeL (m : Bk) (o : Opb) (now most : Int) : List Ses × Int :=
  let l := lives now (wasOf m o.u).l
  if o.kind = 1 then setF l ⟨o.id, o.st, o.pr, addW now o.ttl⟩ most
  else if o.kind = 2 then beatF l o.id (addW now o.ttl)
  else if o.kind = 3 then (clear l o.id, if has l o.id = true then 0 else 3)
  else (l, 0)
def writeB (m : Bk) (o : Opb) (now most : Int) : Bk := settleB m o.u (writeL m o now most).1 now
def writeC (m : Bk) (o : Opb) (now most : Int) : List Chg := settleC m o.u (writeL m o now most).1 now
theorem was_ok {n : Nat} {m : Bk} (h : bookOk n m) (u : ByteArray) : Up (wasOf m u).l ∧ (wasOf m u).l.length ≤ n := by
  by_cases hk : u ∈ m.map Prod.fst
  · obtain ⟨⟨k, e⟩, hp, rfl⟩ := List.mem_map.1 hk
    rw [wasOf, get_mem ordS q2a h.1 hp]
    exact h.2.2 _ hp
  · rw [wasOf, get_none ordS q2a h.1 hk]
    exact ⟨List.Pairwise.nil, Nat.zero_le _⟩
theorem put_len {l : List Ses} (hr : Up l) (s : Ses) : (put l s).length ≤ l.length + 1 := by
  rw [← put_at hr s]
  split
  · rw [List.length_set]; omega
  · simp; omega
theorem setF_ok {l : List Ses} (hr : Up l) (s : Ses) (most : Int) : Up (setF l s most).1 ∧ (setF l s most).1.length ≤ l.length + 1 := by
  unfold setF
  split
  · exact ⟨hr, Nat.le_succ _⟩
  · rw [ins_eq hr]; exact ⟨put_up hr s, put_len hr s⟩
theorem bmpS_id (id u : Int) (s : Ses) : (bmpS id u s).id = s.id := by unfold bmpS; split <;> rfl
theorem beatF_ok {l : List Ses} (hr : Up l) (id u : Int) : Up (beatF l id u).1 ∧ (beatF l id u).1.length = l.length := by
  unfold beatF
  split
  · refine ⟨?_, by simp⟩
    have e : ids (l.map (bmpS id u)) = ids l := by
      rw [ids, ids, List.map_map]
      exact List.map_congr_left fun s _ => bmpS_id id u s
    show Rises ltI (ids (l.map (bmpS id u)))
    rw [e]; exact hr
  · exact ⟨hr, rfl⟩
theorem writeL_ok {n : Nat} {m : Bk} (h : bookOk n m) (o : Opb) (now most : Int) : Up (writeL m o now most).1 ∧ (writeL m o now most).1.length ≤ n + 1 := by
  obtain ⟨h1, h2⟩ := was_ok h o.u
  have h3 := lives_up h1 now
  have h4 : (lives now (wasOf m o.u).l).length ≤ (wasOf m o.u).l.length := List.length_filter_le _ _
  unfold writeL
  simp only
  split
  · have := setF_ok h3 ⟨o.id, o.st, o.pr, addW now o.ttl⟩ most; exact ⟨this.1, by omega⟩
  · split
    · have := beatF_ok h3 o.id (addW now o.ttl); exact ⟨this.1, by omega⟩
    · split
      · exact ⟨clear_up h3 _, by have : (clear (lives now (wasOf m o.u).l) o.id).length ≤ _ := List.length_filter_le _ _; simp only; omega⟩
      · exact ⟨h3, by simp only; omega⟩
end Go.Proofs.YtdkcpcflfnakdaaGreat
namespace Go.Proofs.YtdkcpcflfnakdaaGreat
open Go Go.Proofs.YtdkcpcflfnakdaaGreat.Sym
set_option maxRecDepth 100000
set_option maxHeartbeats 1000000
set_option linter.unusedSimpArgs false
set_option linter.unusedVariables false

theorem write_call (n : Nat) (m : Bk) (o : Opb) (now most : Int) (h : bookOk n m) (hn : n ≤ 700000) :
    PCall P 66 [q1c m, o.av, u64 now, i64 most] (fun x => x = .tup [q1c (writeB m o now most), .sl 7 (chgs (writeC m o now most)), i64 (writeL m o now most).2]) := by
  refine q0u tyOk Tryz.func66 rfl rfl ?_
  intro K hK
  simp only [Tryz.ntmps66, List.length_cons, List.length_nil, Nat.reduceAdd, Nat.reduceSub, List.replicate, List.cons_append, List.nil_append]
  obtain ⟨hw1, hw2⟩ := was_ok h o.u
  have hlv := lives_up hw1 now
  have hll : (lives now (wasOf m o.u).l).length ≤ (wasOf m o.u).l.length := List.length_filter_le _ _
  have hok := writeL_ok h o now most
  have hml := h.2.1
  try simp (maxSteps := 1000000) only [seval, -Int.reduceToNat, -Int.reduceNatCast, -Int.reduceNatCast', -Nat.reduceSubDiff, T, eqc36, eqc44, eqc49, eqc52, q00, q01, q02, q03, q1c, Opb.av]
  (refine q06 (get_open m o.u h.1 (by omega)) rfl ?_; rintro _ rfl)
  try simp (maxSteps := 1000000) only [seval, -Int.reduceToNat, -Int.reduceNatCast, -Int.reduceNatCast', -Nat.reduceSubDiff, T, eqc36, eqc44, eqc49, eqc52, q00, q01, q02, q03]
  (refine q06 (sess_Purge (wasOf m o.u).l now (by omega)) rfl ?_; rintro _ rfl)
  try simp (maxSteps := 1000000) only [seval, -Int.reduceToNat, -Int.reduceNatCast, -Int.reduceNatCast', -Nat.reduceSubDiff, T, eqc36, eqc44, eqc49, eqc52, q00, q01, q02, q03]
  (refine q06 (tick_Add now o.ttl) rfl ?_; rintro _ rfl)
  try simp (maxSteps := 1000000) only [seval, -Int.reduceToNat, -Int.reduceNatCast, -Int.reduceNatCast', -Nat.reduceSubDiff, T, eqc36, eqc44, eqc49, eqc52, q00, q01, q02, q03]
  (first | refine q0a ?_ ?_ | refine q0g ?_ ?_ | refine q0h ?_ ?_ | refine q0i ?_ ?_ | refine q0b ?_ ?_) <;> intro h1
  · have k1 : o.kind = 1 := by simpa using h1
    obtain ⟨⟨L, e⟩, hL⟩ : ∃ r, writeL m o now most = r := ⟨_, rfl⟩
    have hS := sess_Set (lives now (wasOf m o.u).l) ⟨o.id, o.st, o.pr, addW now o.ttl⟩ most hlv (by omega)
    have e1 : setF (lives now (wasOf m o.u).l) ⟨o.id, o.st, o.pr, addW now o.ttl⟩ most = (L, e) := by rw [← hL, writeL]; simp only [k1, if_true]
    rw [e1] at hS
    rw [hL] at hok hK
    simp only at hok
    try simp (maxSteps := 1000000) only [seval, -Int.reduceToNat, -Int.reduceNatCast, -Int.reduceNatCast', -Nat.reduceSubDiff, T, eqc36, eqc44, eqc49, eqc52, q00, q01, q02, q03]
    (refine q06 hS rfl ?_; rintro _ rfl)
    try simp (maxSteps := 1000000) only [seval, -Int.reduceToNat, -Int.reduceNatCast, -Int.reduceNatCast', -Nat.reduceSubDiff, T, eqc36, eqc44, eqc49, eqc52, q00, q01, q02, q03]
    (refine q06 (settle_call m o.u L now h.1 (by omega) (by omega)) rfl ?_; rintro _ rfl)
    try simp (maxSteps := 1000000) only [seval, -Int.reduceToNat, -Int.reduceNatCast, -Int.reduceNatCast', -Nat.reduceSubDiff, T, eqc36, eqc44, eqc49, eqc52, q00, q01, q02, q03, q1c]
    apply hK
    simp only [Tryz.results66, retK, ares, List.take_nil, Bool.and_true, Bool.true_and, AV.ofResults, St.trunc, q04, q05, aload, acell, T, TI.isAgg, List.getD_cons_zero, List.getD_cons_succ, List.take_zero, List.take_succ_cons, List.drop_zero, List.map_nil, List.getElem?_cons_zero, List.getElem?_cons_succ, List.length_cons, List.length_nil, Nat.reduceAdd, Nat.le_refl, true_and, and_true, ↓reduceIte, List.cons.injEq, exists_eq_left']
    rw [writeB, writeC, hL]
    try rfl
  · have k1 : ¬ o.kind = 1 := by simpa using h1
    try simp (maxSteps := 1000000) only [seval, -Int.reduceToNat, -Int.reduceNatCast, -Int.reduceNatCast', -Nat.reduceSubDiff, T, eqc36, eqc44, eqc49, eqc52, q00, q01, q02, q03]
    (first | refine q0a ?_ ?_ | refine q0g ?_ ?_ | refine q0h ?_ ?_ | refine q0i ?_ ?_ | refine q0b ?_ ?_) <;> intro h2
    · have k2 : o.kind = 2 := by simpa using h2
      obtain ⟨⟨L, e⟩, hL⟩ : ∃ r, writeL m o now most = r := ⟨_, rfl⟩
      have hS := sess_Beat (lives now (wasOf m o.u).l) o.id (addW now o.ttl) hlv (by omega)
      have e1 : beatF (lives now (wasOf m o.u).l) o.id (addW now o.ttl) = (L, e) := by rw [← hL, writeL]; simp only [if_neg k1, if_pos k2]
      rw [e1] at hS
      rw [hL] at hok hK
      simp only at hok
      try simp (maxSteps := 1000000) only [seval, -Int.reduceToNat, -Int.reduceNatCast, -Int.reduceNatCast', -Nat.reduceSubDiff, T, eqc36, eqc44, eqc49, eqc52, q00, q01, q02, q03]
      (refine q06 hS rfl ?_; rintro _ rfl)
      try simp (maxSteps := 1000000) only [seval, -Int.reduceToNat, -Int.reduceNatCast, -Int.reduceNatCast', -Nat.reduceSubDiff, T, eqc36, eqc44, eqc49, eqc52, q00, q01, q02, q03]
      (refine q06 (settle_call m o.u L now h.1 (by omega) (by omega)) rfl ?_; rintro _ rfl)
      try simp (maxSteps := 1000000) only [seval, -Int.reduceToNat, -Int.reduceNatCast, -Int.reduceNatCast', -Nat.reduceSubDiff, T, eqc36, eqc44, eqc49, eqc52, q00, q01, q02, q03, q1c]
      apply hK
      simp only [Tryz.results66, retK, ares, List.take_nil, Bool.and_true, Bool.true_and, AV.ofResults, St.trunc, q04, q05, aload, acell, T, TI.isAgg, List.getD_cons_zero, List.getD_cons_succ, List.take_zero, List.take_succ_cons, List.drop_zero, List.map_nil, List.getElem?_cons_zero, List.getElem?_cons_succ, List.length_cons, List.length_nil, Nat.reduceAdd, Nat.le_refl, true_and, and_true, ↓reduceIte, List.cons.injEq, exists_eq_left']
      rw [writeB, writeC, hL]
      try rfl
    · have k2 : ¬ o.kind = 2 := by simpa using h2
      try simp (maxSteps := 1000000) only [seval, -Int.reduceToNat, -Int.reduceNatCast, -Int.reduceNatCast', -Nat.reduceSubDiff, T, eqc36, eqc44, eqc49, eqc52, q00, q01, q02, q03]
      (first | refine q0a ?_ ?_ | refine q0g ?_ ?_ | refine q0h ?_ ?_ | refine q0i ?_ ?_ | refine q0b ?_ ?_) <;> intro h3
      · have k3 : o.kind = 3 := by simpa using h3
        obtain ⟨⟨L, e⟩, hL⟩ : ∃ r, writeL m o now most = r := ⟨_, rfl⟩
        have hS := sess_Clear (lives now (wasOf m o.u).l) o.id hlv (by omega)
        have e1 : (clear (lives now (wasOf m o.u).l) o.id, if has (lives now (wasOf m o.u).l) o.id = true then (0 : Int) else 3) = (L, e) := by rw [← hL, writeL]; simp only [if_neg k1, if_neg k2, if_pos k3]
        have e2 := congrArg Prod.fst e1
        have e3 := congrArg Prod.snd e1
        simp only at e2 e3
        rw [e2, e3] at hS
        rw [hL] at hok hK
        simp only at hok
        try simp (maxSteps := 1000000) only [seval, -Int.reduceToNat, -Int.reduceNatCast, -Int.reduceNatCast', -Nat.reduceSubDiff, T, eqc36, eqc44, eqc49, eqc52, q00, q01, q02, q03]
        (refine q06 hS rfl ?_; rintro _ rfl)
        try simp (maxSteps := 1000000) only [seval, -Int.reduceToNat, -Int.reduceNatCast, -Int.reduceNatCast', -Nat.reduceSubDiff, T, eqc36, eqc44, eqc49, eqc52, q00, q01, q02, q03]
        (refine q06 (settle_call m o.u L now h.1 (by omega) (by omega)) rfl ?_; rintro _ rfl)
        try simp (maxSteps := 1000000) only [seval, -Int.reduceToNat, -Int.reduceNatCast, -Int.reduceNatCast', -Nat.reduceSubDiff, T, eqc36, eqc44, eqc49, eqc52, q00, q01, q02, q03, q1c]
        apply hK
        simp only [Tryz.results66, retK, ares, List.take_nil, Bool.and_true, Bool.true_and, AV.ofResults, St.trunc, q04, q05, aload, acell, T, TI.isAgg, List.getD_cons_zero, List.getD_cons_succ, List.take_zero, List.take_succ_cons, List.drop_zero, List.map_nil, List.getElem?_cons_zero, List.getElem?_cons_succ, List.length_cons, List.length_nil, Nat.reduceAdd, Nat.le_refl, true_and, and_true, ↓reduceIte, List.cons.injEq, exists_eq_left']
        rw [writeB, writeC, hL]
        try rfl
      · have k3 : ¬ o.kind = 3 := by simpa using h3
        obtain ⟨⟨L, e⟩, hL⟩ : ∃ r, writeL m o now most = r := ⟨_, rfl⟩
        have e1 : (lives now (wasOf m o.u).l, (0 : Int)) = (L, e) := by rw [← hL, writeL]; simp only [if_neg k1, if_neg k2, if_neg k3]
        have e2 := congrArg Prod.fst e1
        have e3 := congrArg Prod.snd e1
        simp only at e2 e3
        rw [hL] at hok hK
        simp only at hok
        rw [e2]
        rw [← e3] at hK
        rw [← e3] at hL
        try simp (maxSteps := 1000000) only [seval, -Int.reduceToNat, -Int.reduceNatCast, -Int.reduceNatCast', -Nat.reduceSubDiff, T, eqc36, eqc44, eqc49, eqc52, q00, q01, q02, q03]
        (refine q06 (settle_call m o.u L now h.1 (by omega) (by omega)) rfl ?_; rintro _ rfl)
        try simp (maxSteps := 1000000) only [seval, -Int.reduceToNat, -Int.reduceNatCast, -Int.reduceNatCast', -Nat.reduceSubDiff, T, eqc36, eqc44, eqc49, eqc52, q00, q01, q02, q03, q1c]
        apply hK
        simp only [Tryz.results66, retK, ares, List.take_nil, Bool.and_true, Bool.true_and, AV.ofResults, St.trunc, q04, q05, aload, acell, T, TI.isAgg, List.getD_cons_zero, List.getD_cons_succ, List.take_zero, List.take_succ_cons, List.drop_zero, List.map_nil, List.getElem?_cons_zero, List.getElem?_cons_succ, List.length_cons, List.length_nil, Nat.reduceAdd, Nat.le_refl, true_and, and_true, ↓reduceIte, List.cons.injEq, exists_eq_left']
        rw [writeB, writeC, hL]
        try rfl

/-! ### Sweeps -/
theorem settleB_rises {m : Bk} (h : rises_se m) (u : ByteArray) (l : List Ses) (now : Int) : rises_se (settleB m u l now) ∧ (settleB m u l now).length ≤ m.length + 1 := by
  unfold settleB
  split
  · exact ⟨without_rises ordS q2a h _, Nat.le_succ_of_le (without_len _ _)⟩
  · exact ⟨with_rises ordS q2a h _ _, with_len _ _ _⟩
theorem settleC_len (m : Bk) (u : ByteArray) (l : List Ses) (now : Int) : (settleC m u l now).length ≤ 1 := by
  unfold settleC; split <;> simp
end Go.Proofs.YtdkcpcflfnakdaaGreat
namespace Go.Proofs.YtdkcpcflfnakdaaGreat
open Go Go.Proofs.YtdkcpcflfnakdaaGreat.Sym
set_option maxRecDepth 100000
set_option maxHeartbeats 1000000
set_option linter.unusedSimpArgs false
set_option linter.unusedVariables false

structure Cf where
  s : Int
  k : Int
  q : Int
  w : Int
  r : Int
  e : Int
  st : Int
structure Tm where
  now : Int
  seq : Int
  cl : Bool
  deriving DecidableEq
structure Md where
  c : Cf
  t : Tm
  b : Nat → Bk
  f : Nat → Fd
def fb (j : Nat) : Nat := 3 + 17 * j
def mlen (n : Nat) : Nat := 3 + 17 * n
def ptrs (n pad : Nat) : List AV := (List.range n).map (fun j => .ptr (fb j) 0) ++ List.replicate pad .any
def bkRow (n : Nat) (b : Nat → Bk) : List AV := (List.range n).map fun j => q1c (b j)
def fblk (o : Nat) (F : Fd) : List AB := renM (List.range' o 17) (feedM F)
def feedsM (f : Nat → Fd) : Nat → Nat → List AB
  | 0, _ => []
  | n + 1, j => fblk (fb j) (f j) ++ feedsM f n (j + 1)
def modM (n pad : Nat) (M : Md) : List AB :=
  .box [i64 M.c.s, i64 M.c.k, i64 M.c.q, i64 M.c.w, i64 M.c.r, u64 M.c.e, u64 M.c.st, u64 M.t.now, u64 M.t.seq, bool M.t.cl, .own 1 2 0 n, .own 2 1 0 n] ::
    .row 87 2 (bkRow n M.b) :: .box (ptrs n pad) :: feedsM M.f n 0
def Md.setF (M : Md) (s : Nat) (F : Fd) : Md := { M with f := fun j => if j = s then F else M.f j }
def Md.setB (M : Md) (s : Nat) (b : Bk) : Md := { M with b := fun j => if j = s then b else M.b j }

theorem fblk_len (o : Nat) (F : Fd) : (fblk o F).length = 17 := by rw [fblk, q2u, q0z]
theorem feedsM_len (f : Nat → Fd) : ∀ n j, (feedsM f n j).length = 17 * n
  | 0, _ => rfl
  | n + 1, j => by rw [feedsM, List.length_append, fblk_len, feedsM_len f n (j + 1)]; omega
theorem feedsM_get (f : Nat → Fd) : ∀ n j s i, s < n → i < 17 → (feedsM f n j)[17 * s + i]? = ((feedM (f (j + s)))[i]?).map (AB.ren (List.range' (fb (j + s)) 17))
  | 0, _, _, _, h, _ => by omega
  | n + 1, j, 0, i, _, hi => by
    rw [feedsM, List.getElem?_append_left (by rw [fblk_len]; omega), fblk, renM_get]
    simp only [Nat.mul_zero, Nat.zero_add, Nat.add_zero]
  | n + 1, j, s + 1, i, h, hi => by
    rw [feedsM, List.getElem?_append_right (by rw [fblk_len]; omega), fblk_len, show 17 * (s + 1) + i - 17 = 17 * s + i by omega, feedsM_get f n (j + 1) s i (by omega) hi, show j + 1 + s = j + (s + 1) by omega]
section
variable (n pad : Nat) (M : Md) (r : List AB)
theorem q0c : (modM n pad M).length = mlen n := by simp only [modM, List.length_cons, feedsM_len, mlen]; omega
theorem q0j : (modM n pad M ++ r).length = mlen n + r.length := by rw [List.length_append, q0c]
theorem q0s (r' : List AB) : (modM n pad M ++ r) ++ r' = modM n pad M ++ (r ++ r') := List.append_assoc _ _ _
theorem mm_0 : (modM n pad M ++ r)[0]? = some (.box [i64 M.c.s, i64 M.c.k, i64 M.c.q, i64 M.c.w, i64 M.c.r, u64 M.c.e, u64 M.c.st, u64 M.t.now, u64 M.t.seq, bool M.t.cl, .own 1 2 0 n, .own 2 1 0 n]) := rfl
theorem mm_1 : (modM n pad M ++ r)[1]? = some (.row 87 2 (bkRow n M.b)) := rfl
theorem mm_2 : (modM n pad M ++ r)[2]? = some (.box (ptrs n pad)) := rfl
theorem mm_0n : (modM n pad M)[0]? = some (.box [i64 M.c.s, i64 M.c.k, i64 M.c.q, i64 M.c.w, i64 M.c.r, u64 M.c.e, u64 M.c.st, u64 M.t.now, u64 M.t.seq, bool M.t.cl, .own 1 2 0 n, .own 2 1 0 n]) := rfl
theorem mm_1n : (modM n pad M)[1]? = some (.row 87 2 (bkRow n M.b)) := rfl
theorem mm_2n : (modM n pad M)[2]? = some (.box (ptrs n pad)) := rfl
theorem mm_at (k : Nat) : (modM n pad M ++ r)[mlen n + k]? = r[k]? := by
  rw [List.getElem?_append_right (by rw [q0c]; omega), q0c, show mlen n + k - mlen n = k by omega]
theorem q0o : (modM n pad M ++ r)[mlen n]? = r[0]? := mm_at n pad M r 0
theorem q0l : (modM n pad M ++ r)[mlen n + 1]? = r[1]? := mm_at n pad M r 1
theorem q0p : (modM n pad M ++ r)[mlen n + 2]? = r[2]? := mm_at n pad M r 2
theorem q0q : (modM n pad M ++ r)[mlen n + 3]? = r[3]? := mm_at n pad M r 3
theorem q0r : (modM n pad M ++ r)[mlen n + 4]? = r[4]? := mm_at n pad M r 4
theorem mm_s (k : Nat) (x : AB) : (modM n pad M ++ r).set (mlen n + k) x = modM n pad M ++ r.set k x := by
  rw [List.set_append_right _ _ (by rw [q0c]; omega), q0c, show mlen n + k - mlen n = k by omega]
theorem mm_s0 {x : AB} : (modM n pad M ++ r).set (mlen n) x = modM n pad M ++ r.set 0 x := mm_s n pad M r 0 x
theorem mm_s1 {x : AB} : (modM n pad M ++ r).set (mlen n + 1) x = modM n pad M ++ r.set 1 x := mm_s n pad M r 1 x
theorem mm_s2 {x : AB} : (modM n pad M ++ r).set (mlen n + 2) x = modM n pad M ++ r.set 2 x := mm_s n pad M r 2 x
theorem mm_s3 {x : AB} : (modM n pad M ++ r).set (mlen n + 3) x = modM n pad M ++ r.set 3 x := mm_s n pad M r 3 x
theorem q0k {a b : Int} {c : Bool} : (modM n pad M ++ r).set 0 (.box [i64 M.c.s, i64 M.c.k, i64 M.c.q, i64 M.c.w, i64 M.c.r, u64 M.c.e, u64 M.c.st, u64 a, u64 b, bool c, .own 1 2 0 n, .own 2 1 0 n]) = modM n pad { M with t := ⟨a, b, c⟩ } ++ r := rfl
theorem q0f {a b : Int} {c : Bool} : (modM n pad M).set 0 (.box [i64 M.c.s, i64 M.c.k, i64 M.c.q, i64 M.c.w, i64 M.c.r, u64 M.c.e, u64 M.c.st, u64 a, u64 b, bool c, .own 1 2 0 n, .own 2 1 0 n]) = modM n pad { M with t := ⟨a, b, c⟩ } := rfl
end

theorem bkRow_len (n : Nat) (b : Nat → Bk) : (bkRow n b).length = n := by simp [bkRow]
theorem bk_at {n s : Nat} (b : Nat → Bk) (h : s < n) : (bkRow n b).getD (Int.toNat (s : Int)) .any = .agg [.sl 1 ((b s).map fun p => str p.1), .sl 4 ((b s).map fun p => En.av p.2)] := by
  simp [bkRow, List.getD_eq_getElem?_getD, h, q1c]
theorem bk_set {n s : Nat} (b : Nat → Bk) (v : Bk) (h : s < n) : (bkRow n b).set (Int.toNat (s : Int)) (.agg [.sl 1 (v.map fun p => str p.1), .sl 4 (v.map fun p => En.av p.2)]) = bkRow n (fun j => if j = s then v else b j) := by
  apply List.ext_getElem?
  intro i
  simp only [bkRow, List.getElem?_set, List.getElem?_map, Int.toNat_natCast, List.length_map, List.length_range]
  by_cases e : s = i
  · subst e
    simp [h, q1c]
  · rw [if_neg e]
    by_cases hi : i < n
    · simp [hi, Ne.symm e]
    · simp [hi]
theorem mm_setB {n pad s : Nat} (M : Md) (r : List AB) (v : Bk) (h : s < n) : (modM n pad M ++ r).set 1 (.row 87 2 ((bkRow n M.b).set (Int.toNat (s : Int)) (.agg [.sl 1 (v.map fun p => str p.1), .sl 4 (v.map fun p => En.av p.2)]))) = modM n pad (M.setB s v) ++ r := by
  rw [bk_set M.b v h]; rfl
theorem ptr_drop {n pad s : Nat} (h : s < n) : (List.drop (s * 1) (ptrs n pad)).headD .any = .ptr (fb s) 0 ∧ 0 < (List.drop (s * 1) (ptrs n pad)).length := by
  have hl : s * 1 < (ptrs n pad).length := by simp [ptrs]; omega
  refine ⟨?_, by rw [List.length_drop]; omega⟩
  rw [List.drop_eq_getElem_cons hl, List.headD_cons]
  simp only [ptrs, Nat.mul_one]
  rw [List.getElem_append_left (by simpa using h)]
  simp

/-! ### Blocks that stay -/
def kpM (n b : Nat) : Bool := decide (b < 3) || decide (mlen n ≤ b) || decide ((b - 3) % 17 < 9)
/-- Boxes that name nothing that may move. -/
def AB.calm (n : Nat) : AB → Bool
  | .box cs => (q0m cs).all (fun b => decide (b < 3) || decide (mlen n ≤ b))
  | _ => true
theorem range_mem {o k b : Nat} : b ∈ List.range' o k ↔ o ≤ b ∧ b < o + k := by rw [List.mem_range'_1]
theorem range_get {o k i : Nat} (h : i < k) : (List.range' o k)[i]? = some (o + i) := by rw [List.getElem?_range' h]; simp

theorem outOk_all {kp : Nat → Bool} {bs : List Nat} : ∀ {m : List AB} {b0 : Nat}, (∀ i cs, m[i]? = some (.box cs) → b0 + i ∈ bs ∨ (q0m cs).all kp = true) → outOk kp bs b0 m = true
  | [], _, _ => rfl
  | .box cs :: m, b0, h => by
    rw [outOk, Bool.and_eq_true, Bool.or_eq_true]
    refine ⟨(h 0 cs rfl).imp (fun h => by simpa using h) _root_.id, outOk_all fun i cs' hi => ?_⟩
    have := h (i + 1) cs' hi
    rwa [show b0 + (i + 1) = b0 + 1 + i by omega] at this
  | .row _ _ _ :: m, b0, h => outOk_all (m := m) (b0 := b0 + 1) fun i cs' hi => by have := h (i + 1) cs' hi; rwa [show b0 + (i + 1) = b0 + 1 + i by omega] at this
  | .rowc _ _ _ _ :: m, b0, h => outOk_all (m := m) (b0 := b0 + 1) fun i cs' hi => by have := h (i + 1) cs' hi; rwa [show b0 + (i + 1) = b0 + 1 + i by omega] at this
  | .gone :: m, b0, h => outOk_all (m := m) (b0 := b0 + 1) fun i cs' hi => by have := h (i + 1) cs' hi; rwa [show b0 + (i + 1) = b0 + 1 + i by omega] at this
  | .tr _ _ :: m, b0, h => outOk_all (m := m) (b0 := b0 + 1) fun i cs' hi => by have := h (i + 1) cs' hi; rwa [show b0 + (i + 1) = b0 + 1 + i by omega] at this

mutual
theorem bks_ren {o k : Nat} : ∀ (x : AV), (bks x).all (fun b => decide (b < k)) = true → ∀ b ∈ bks (ren (List.range' o k) x), ∃ c < k, b = o + c ∧ c ∈ bks x
  | .v _, _, b, hb => by simp [ren, bks] at hb
  | .agg xs, h, b, hb => bksAll_ren xs h b hb
  | .tup xs, h, b, hb => bksAll_ren xs h b hb
  | .sl _ _, _, b, hb => by simp [ren, bks] at hb
  | .rp _, _, b, hb => by simp [ren, bks] at hb
  | .own c _ _ _, h, b, hb => by
    simp only [bks, List.all_cons, List.all_nil, Bool.and_true, decide_eq_true_eq] at h
    simp only [ren, bks, List.mem_singleton, range_getD h] at hb
    exact ⟨c, h, hb, by simp [bks]⟩
  | .ptr c _, h, b, hb => by
    simp only [bks, List.all_cons, List.all_nil, Bool.and_true, decide_eq_true_eq] at h
    simp only [ren, bks, List.mem_singleton, range_getD h] at hb
    exact ⟨c, h, hb, by simp [bks]⟩
  | .ep c _ _ _, h, b, hb => by
    simp only [bks, List.all_cons, List.all_nil, Bool.and_true, decide_eq_true_eq] at h
    simp only [ren, bks, List.mem_singleton, range_getD h] at hb
    exact ⟨c, h, hb, by simp [bks]⟩
  | .fn f caps, h, b, hb => bksAll_ren caps h b hb
  | .any, _, b, hb => by simp [ren, bks] at hb
theorem bksAll_ren {o k : Nat} : ∀ (xs : List AV), (q0m xs).all (fun b => decide (b < k)) = true → ∀ b ∈ q0m (q1i (List.range' o k) xs), ∃ c < k, b = o + c ∧ c ∈ q0m xs
  | [], _, b, hb => by simp [q1i, q0m] at hb
  | x :: xs, h, b, hb => by
    simp only [q0m, List.all_append, Bool.and_eq_true] at h
    simp only [q1i, q0m, List.mem_append] at hb ⊢
    rcases hb with hb | hb
    · obtain ⟨c, h1, h2, h3⟩ := bks_ren x h.1 b hb; exact ⟨c, h1, h2, .inl h3⟩
    · obtain ⟨c, h1, h2, h3⟩ := bksAll_ren xs h.2 b hb; exact ⟨c, h1, h2, .inr h3⟩
end

theorem ptrs_bks (n pad : Nat) : ∀ b ∈ q0m (ptrs n pad), ∃ j < n, b = fb j := by
  have h1 : ∀ (l : List Nat) b, b ∈ q0m (l.map (fun j => AV.ptr (fb j) 0)) → ∃ j ∈ l, b = fb j := by
    intro l b hb
    induction l with
    | nil => simp [q0m] at hb
    | cons j l ih =>
      simp only [List.map_cons, q0m, bks, List.mem_append, List.mem_singleton] at hb
      rcases hb with rfl | hb
      · exact ⟨j, by simp, rfl⟩
      · obtain ⟨k, hk, e⟩ := ih hb; exact ⟨k, by simp [hk], e⟩
  have h2 : ∀ k, q0m (List.replicate k AV.any) = [] := by
    intro k
    induction k with
    | zero => rfl
    | succ k ih => simp [List.replicate_succ, q0m, bks, ih]
  intro b hb
  rw [ptrs, bksAll_append, h2, List.append_nil] at hb
  obtain ⟨j, hj, e⟩ := h1 _ b hb
  exact ⟨j, by simpa using hj, e⟩

theorem feed_inR (F : Fd) : (feedM F).all (AB.inR 17) = true := by rfl
theorem feed_box {F : Fd} {i : Nat} {cs : List AV} (h : (feedM F)[i]? = some (.box cs)) : (q0m cs).all (fun b => decide (b < 17)) = true := by
  have := List.all_eq_true.1 (feed_inR F) _ (List.mem_of_getElem? h)
  exact this
theorem mm_feed {n pad s i : Nat} (M : Md) (r : List AB) (h : s < n) (hi : i < 17) : (modM n pad M ++ r)[fb s + i]? = ((feedM (M.f s))[i]?).map (AB.ren (List.range' (fb s) 17)) := by
  have h2 := q0c n pad M
  rw [List.getElem?_append_left (by rw [h2]; simp only [mlen, fb]; omega), modM, show fb s + i = 17 * s + i + 1 + 1 + 1 by simp only [fb]; omega]
  simp only [List.getElem?_cons_succ]
  rw [feedsM_get M.f n 0 s i h hi, Nat.zero_add]
/-- What stands at a place. -/
theorem mm_split {n pad i : Nat} {M : Md} {r : List AB} : i < 3 ∨ (∃ s j, s < n ∧ j < 17 ∧ i = fb s + j) ∨ mlen n ≤ i := by
  by_cases h1 : i < 3
  · exact .inl h1
  · by_cases h2 : mlen n ≤ i
    · exact .inr (.inr h2)
    · refine .inr (.inl ⟨(i - 3) / 17, (i - 3) % 17, ?_, Nat.mod_lt _ (by decide), ?_⟩)
      · simp only [mlen] at h2; omega
      · simp only [fb]; omega
theorem mm_put {n pad s : Nat} (M : Md) (r : List AB) (F' : Fd) (h : s < n) : putL (modM n pad M ++ r) (List.range' (fb s) 17) (renM (List.range' (fb s) 17) (feedM F')) = modM n pad (M.setF s F') ++ r := by
  apply List.ext_getElem?
  intro i
  have hmem : ∀ j, j < 17 → fb s + j < (modM n pad M ++ r).length := fun j hj => by rw [q0j]; simp only [fb, mlen]; omega
  by_cases hi : i ∈ List.range' (fb s) 17
  · obtain ⟨a, b⟩ := range_mem.1 hi
    have hj : i - fb s < 17 := by omega
    have hg : (feedM F')[i - fb s]? = some ((feedM F')[i - fb s]'(by rw [q0z]; exact hj)) := List.getElem?_eq_getElem _
    rw [putL_in _ _ _ (i - fb s) i (AB.ren (List.range' (fb s) 17) ((feedM F')[i - fb s]'(by rw [q0z]; exact hj))) List.nodup_range' (by rw [range_get hj]; congr 1; omega) (by rw [renM_get, hg]; rfl) (by have := hmem _ hj; rwa [show fb s + (i - fb s) = i by omega] at this)]
    have := mm_feed (M.setF s F') r h hj (pad := pad)
    rw [show fb s + (i - fb s) = i by omega] at this
    rw [this]
    simp only [Md.setF, if_true]
    rw [hg]; rfl
  · rw [putL_out _ _ _ _ hi]
    rcases mm_split (n := n) (pad := pad) (i := i) (M := M) (r := r) with h1 | ⟨s', j, h1, h2, rfl⟩ | h1
    · have c : i = 0 ∨ i = 1 ∨ i = 2 := by omega
      rcases c with rfl | rfl | rfl <;> rfl
    · rw [mm_feed M r h1 h2, mm_feed (M.setF s F') r h1 h2]
      have hne : s' ≠ s := by
        rintro rfl
        exact hi (range_mem.2 ⟨by omega, by omega⟩)
      simp only [Md.setF, if_neg hne]
    · obtain ⟨k, rfl⟩ := Nat.exists_eq_add_of_le h1
      rw [mm_at, mm_at]
/-- A call on one of the feeds. -/
theorem feed_in {g : FuncId} {args0 args : List AV} {K0 K : AV → List AB → Prop} {n pad s : Nat} (M : Md) (r : List AB) (hs : s < n) (h : q1b P (fun b => decide (b < 9)) g (feedM (M.f s)) args0 K0) (ha : args = q1i (List.range' (fb s) 17) args0) (hb : (q0m args0).all (fun b => decide (b < 17)) = true) (hr : r.all (AB.calm n) = true)
    (hK : ∀ x m', K0 x m' → ∃ F', m' = feedM F' ∧ K (ren (List.range' (fb s) 17) x) (modM n pad (M.setF s F') ++ r)) : q1b P (kpM n) g (modM n pad M ++ r) args K := by
  have hin : ∀ b, b < 3 ∨ mlen n ≤ b → b ∉ List.range' (fb s) 17 := fun b hb hm => by
    obtain ⟨h1, h2⟩ := range_mem.1 hm
    simp only [fb, mlen] at *
    omega
  have hkp : ∀ b, kpM n b = true → kpOf (fun b => decide (b < 9)) (List.range' (fb s) 17) 0 b = true := by
    intro b hb
    by_cases hm : b ∈ List.range' (fb s) 17
    · obtain ⟨h1, h2⟩ := range_mem.1 hm
      rw [kpOf_in (j := b - fb s) List.nodup_range' (by rw [range_get (by omega)]; congr 1; omega)]
      simp only [kpM, Bool.or_eq_true, decide_eq_true_eq] at hb
      simp only [decide_eq_true_eq]
      simp only [fb, mlen] at *
      omega
    · exact kpOf_out hm
  refine q1b.keeps (kp := kpOf (fun b => decide (b < 9)) (List.range' (fb s) 17) 0) ?_ (fun b _ hb => hkp b hb)
  refine h.frame (List.range' (fb s) 17) List.nodup_range' ?_ ha (by rw [List.length_range']; exact hb) (by rw [List.length_range']; exact feed_inR _) ?_ ?_
  · apply List.ext_getElem?
    intro i
    by_cases hi : i < 17
    · rw [List.getElem?_map, range_get hi, List.getElem?_map, renM_get]
      simp only [Option.map_some]
      rw [mm_feed M r hs hi]
      have hg : (feedM (M.f s))[i]? = some ((feedM (M.f s))[i]'(by rw [q0z]; exact hi)) := List.getElem?_eq_getElem _
      rw [hg]; rfl
    · rw [List.getElem?_eq_none (by simp; omega), List.getElem?_eq_none (by simp [q2u, q0z]; omega)]
  · refine outOk_all fun i cs hi => ?_
    rw [Nat.zero_add]
    by_cases hm : i ∈ List.range' (fb s) 17
    · exact .inl hm
    refine .inr (List.all_eq_true.2 fun b hb => ?_)
    rcases mm_split (n := n) (pad := pad) (i := i) (M := M) (r := r) with h1 | ⟨s', j, h1, h2, rfl⟩ | h1
    · have c : i = 0 ∨ i = 1 ∨ i = 2 := by omega
      rcases c with rfl | rfl | rfl
      · rw [mm_0] at hi; cases hi
        simp only [q0m, bks, List.nil_append, List.append_nil, List.mem_append, List.mem_singleton, List.not_mem_nil, false_or, or_false, List.cons_append, List.mem_cons] at hb
        exact kpOf_out (hin b (.inl (by omega)))
      · rw [mm_1] at hi; cases hi
      · rw [mm_2] at hi; cases hi
        obtain ⟨j, hj, rfl⟩ := ptrs_bks n pad b hb
        refine hkp _ ?_
        have hf : (fb j - 3) % 17 < 9 := by simp only [fb]; omega
        simp only [kpM, hf, decide_true, Bool.or_true]
    · rw [mm_feed M r h1 h2] at hi
      cases hg : (feedM (M.f s'))[j]? with
      | none => rw [hg] at hi; cases hi
      | some blk =>
        rw [hg] at hi
        simp only [Option.map_some, Option.some.injEq] at hi
        cases blk with
        | box cs0 =>
          simp only [AB.ren, AB.box.injEq] at hi
          subst hi
          obtain ⟨c, hc, rfl, _⟩ := bksAll_ren cs0 (feed_box hg) b hb
          have hne : s' ≠ s := by
            rintro rfl
            exact hm (range_mem.2 ⟨by omega, by omega⟩)
          exact kpOf_out fun hmm => by
            obtain ⟨q1, q2⟩ := range_mem.1 hmm
            simp only [fb] at q1 q2
            omega
        | row _ _ _ => simp [AB.ren] at hi
        | rowc _ _ _ _ => simp [AB.ren] at hi
        | gone => simp [AB.ren] at hi
        | tr _ _ => simp [AB.ren] at hi
    · obtain ⟨k, rfl⟩ := Nat.exists_eq_add_of_le h1
      rw [mm_at] at hi
      have := List.all_eq_true.1 hr _ (List.mem_of_getElem? hi)
      have := List.all_eq_true.1 this b hb
      simp only [Bool.or_eq_true, decide_eq_true_eq] at this
      exact kpOf_out (hin b this)
  · intro x m' hx
    obtain ⟨F', rfl, hv⟩ := hK x m' hx
    exact ⟨rfl, by rw [mm_put M r F' hs]; exact hv⟩
/-- The same of a call that moves nothing. -/
theorem feed_inA {g : FuncId} {args0 args : List AV} {K0 K : AV → List AB → Prop} {n pad s : Nat} (M : Md) (r : List AB) (hs : s < n) (h : ACall P g (feedM (M.f s)) args0 K0) (ha : args = q1i (List.range' (fb s) 17) args0) (hb : (q0m args0).all (fun b => decide (b < 17)) = true)
    (hK : ∀ x m', K0 x m' → ∃ F', m' = feedM F' ∧ K (ren (List.range' (fb s) 17) x) (modM n pad (M.setF s F') ++ r)) : ACall P g (modM n pad M ++ r) args K := by
  refine h.frame (List.range' (fb s) 17) List.nodup_range' ?_ ha (by rw [List.length_range']; exact hb) (by rw [List.length_range']; exact feed_inR _) ?_
  · apply List.ext_getElem?
    intro i
    by_cases hi : i < 17
    · rw [List.getElem?_map, range_get hi, List.getElem?_map, renM_get]
      simp only [Option.map_some]
      rw [mm_feed M r hs hi]
      have hg : (feedM (M.f s))[i]? = some ((feedM (M.f s))[i]'(by rw [q0z]; exact hi)) := List.getElem?_eq_getElem _
      rw [hg]; rfl
    · rw [List.getElem?_eq_none (by simp; omega), List.getElem?_eq_none (by simp [q2u, q0z]; omega)]
  · intro x m' hx
    obtain ⟨F', rfl, hv⟩ := hK x m' hx
    exact ⟨rfl, by rw [mm_put M r F' hs]; exact hv⟩
theorem setF_same (M : Md) (s : Nat) : M.setF s (M.f s) = M := by
  cases M with
  | mk c t b f =>
    simp only [Md.setF, Md.mk.injEq, true_and]
    funext j
    split
    · rename_i h; rw [h]
    · rfl
end Go.Proofs.YtdkcpcflfnakdaaGreat
namespace Go.Proofs.YtdkcpcflfnakdaaGreat
open Go Go.Proofs.YtdkcpcflfnakdaaGreat.Sym
set_option maxRecDepth 100000
set_option maxHeartbeats 1000000
set_option linter.unusedSimpArgs false
set_option linter.unusedVariables false

/-! ### hashes -/
def hashStep (h : Int) (c : UInt8) : Int := IntKind.u64.wrap (xorF .u64 h (IntKind.u64.wrap (c.toNat : Int)) * 1099511628211)
def hashN (u : ByteArray) : Nat → Int
  | 0 => 14695981039346656037
  | i + 1 => hashStep (hashN u i) (u.data.getD i 0)
def hashF (u : ByteArray) : Int := hashN u u.size
theorem hashF_ok (u : ByteArray) : 0 ≤ hashF u ∧ hashF u < 18446744073709551616 := by
  unfold hashF
  cases u.size with
  | zero => simp only [hashN]; omega
  | succ i =>
    simp only [hashN, hashStep]
    rw [IntKind.wrap_u64]
    omega
theorem hash_Of (u : ByteArray) (hl : u.size ≤ 1000000) : PCall P 100 [str u] (fun x => x = u64 (hashF u)) := by
  refine q0u tyOk Tryz.func100 rfl rfl ?_
  intro K hK
  simp only [Tryz.ntmps100, List.length_cons, List.length_nil, Nat.reduceAdd, Nat.reduceSub, List.replicate, List.cons_append, List.nil_append]
  try simp (maxSteps := 1000000) only [seval, -Int.reduceToNat, -Int.reduceNatCast, -Int.reduceNatCast', -Nat.reduceSubDiff, T, eqc36, eqc44, eqc49, eqc52, q00, q01, q02, q03]
  refine q1r tyOk (α := Nat) 0 [0, 3, 6, 7] (fun i => i ≤ u.size)
    (fun i => ⟨[str u, .any, .any, u64 (hashN u i), .any, .any, i64 u.size, i64 i, .any, .any, .any, .any, .any, .any, .any, .any, .any, .any, .any, .any], []⟩)
    (fun i => u.size - i) 0 (Nat.zero_le _) (Nat.zero_le _) rfl ?_
  intro i hi
  try simp (maxSteps := 1000000) only [seval, -Int.reduceToNat, -Int.reduceNatCast, -Int.reduceNatCast', -Nat.reduceSubDiff, T, eqc36, eqc44, eqc49, eqc52, q00, q01, q02, q03]
  (first | refine q0a ?_ ?_ | refine q0g ?_ ?_ | refine q0h ?_ ?_ | refine q0i ?_ ?_ | refine q0b ?_ ?_) <;> intro h <;> try simp (maxSteps := 1000000) only [seval, -Int.reduceToNat, -Int.reduceNatCast, -Int.reduceNatCast', -Nat.reduceSubDiff, T, eqc36, eqc44, eqc49, eqc52, q00, q01, q02, q03]
  · have hlt : i < u.size := by simpa using h
    have c1 : (0 : Int) ≤ (i : Int) ∧ Int.toNat (i : Int) < u.size := by omega
    have ew : IntKind.i64.wrap ((i : Int) + 1) = ((i + 1 : Nat) : Int) := by rw [wrap_i64 (by omega) (by omega)]; rfl
    try simp (maxSteps := 1000000) only [seval, -Int.reduceToNat, -Int.reduceNatCast, -Int.reduceNatCast', -Nat.reduceSubDiff, T, eqc36, eqc44, eqc49, eqc52, q00, q01, q02, q03, c1, ew]
    simp only [q0v, St.trunc, St.keep, q04, q05, keepV, List.elem_cons, List.elem_nil, List.take_zero, List.map_nil, Nat.reduceAdd, Nat.reduceBEq, Nat.zero_add, Bool.false_eq_true, ↓reduceIte]
    exact ⟨i + 1, hlt, by omega, rfl⟩
  · have hge : i = u.size := by have : ¬ ((i : Int) < (u.size : Int)) := by simpa using h
                                omega
    subst hge
    apply hK
    simp only [Tryz.results100, retK, ares, List.take_nil, Bool.and_true, Bool.true_and, AV.ofResults, St.trunc, q04, q05, List.getD_cons_zero, List.getD_cons_succ, List.map_nil, true_and, and_true, List.cons.injEq, exists_eq_left']
    rfl
def strI (n : Int) (u : ByteArray) : Int := (hashF u).tmod n
theorem strI_ok {n : Int} (h1 : 1 ≤ n) (h2 : n ≤ 1000) (u : ByteArray) : 0 ≤ strI n u ∧ strI n u < n := by
  have := hashF_ok u
  unfold strI
  rw [Int.tmod_eq_emod_of_nonneg this.1]
  exact ⟨Int.emod_nonneg _ (by omega), Int.emod_lt_of_pos _ (by omega)⟩
theorem hash_Stripe (u : ByteArray) (n : Int) (hl : u.size ≤ 1000000) (h1 : 1 ≤ n) (h2 : n ≤ 1000) : PCall P 72 [str u, i64 n] (fun x => x = i64 (strI n u)) := by
  refine q0u tyOk Tryz.func72 rfl rfl ?_
  intro K hK
  simp only [Tryz.ntmps72, List.length_cons, List.length_nil, Nat.reduceAdd, Nat.reduceSub, List.replicate, List.cons_append, List.nil_append]
  have d1 : decide (n < 1) = false := decide_eq_false (by omega)
  have w1 : IntKind.u64.wrap n = n := by rw [IntKind.wrap_u64]; omega
  have hs := strI_ok h1 h2 u
  have w2 : IntKind.i64.wrap ((hashF u).tmod n) = strI n u := (by rw [IntKind.wrap_i64]; unfold strI at *; omega)
  have hn : ¬ n = 0 := by omega
  try simp (maxSteps := 1000000) only [seval, -Int.reduceToNat, -Int.reduceNatCast, -Int.reduceNatCast', -Nat.reduceSubDiff, T, eqc36, eqc44, eqc49, eqc52, q00, q01, q02, q03, d1]
  (refine q06 (hash_Of u hl) rfl ?_; rintro _ rfl)
  try simp (maxSteps := 1000000) only [seval, -Int.reduceToNat, -Int.reduceNatCast, -Int.reduceNatCast', -Nat.reduceSubDiff, T, eqc36, eqc44, eqc49, eqc52, q00, q01, q02, q03, w1, w2, hn]
  apply hK
  simp only [Tryz.results72, retK, ares, List.take_nil, Bool.and_true, Bool.true_and, AV.ofResults, St.trunc, q04, q05, List.getD_cons_zero, List.getD_cons_succ, List.map_nil, true_and, and_true, List.cons.injEq, exists_eq_left']
def nameB (u : ByteArray) : Bool := (!(u.toList == ByteArray.toList ⟨#[]⟩)) && decide ((u.size : Int) ≤ 16)
theorem hash_Right (u : ByteArray) : PCall P 34 [str u] (fun x => x = bool (nameB u)) := by
  refine q0u tyOk Tryz.func34 rfl rfl ?_
  intro K hK
  simp only [Tryz.ntmps34, List.length_cons, List.length_nil, Nat.reduceAdd, Nat.reduceSub, List.replicate, List.cons_append, List.nil_append]
  try simp (maxSteps := 1000000) only [seval, -Int.reduceToNat, -Int.reduceNatCast, -Int.reduceNatCast', -Nat.reduceSubDiff, T, eqc36, eqc44, eqc49, eqc52, q00, q01, q02, q03]
  unfold nameB at hK
  (first | refine q0a ?_ ?_ | refine q0g ?_ ?_ | refine q0h ?_ ?_ | refine q0i ?_ ?_ | refine q0b ?_ ?_) <;> intro h
  · rw [h] at hK
    try simp (maxSteps := 1000000) only [seval, -Int.reduceToNat, -Int.reduceNatCast, -Int.reduceNatCast', -Nat.reduceSubDiff, T, eqc36, eqc44, eqc49, eqc52, q00, q01, q02, q03]
    apply hK
    simp only [Tryz.results34, retK, ares, List.take_nil, Bool.and_true, Bool.true_and, AV.ofResults, St.trunc, q04, q05, List.getD_cons_zero, List.getD_cons_succ, List.map_nil, true_and, and_true, List.cons.injEq, exists_eq_left']
    try rw [Bool.true_and]
  · rw [h] at hK
    try simp (maxSteps := 1000000) only [seval, -Int.reduceToNat, -Int.reduceNatCast, -Int.reduceNatCast', -Nat.reduceSubDiff, T, eqc36, eqc44, eqc49, eqc52, q00, q01, q02, q03]
    apply hK
    simp only [Tryz.results34, retK, ares, List.take_nil, Bool.and_true, Bool.true_and, AV.ofResults, St.trunc, q04, q05, List.getD_cons_zero, List.getD_cons_succ, List.map_nil, true_and, and_true, List.cons.injEq, exists_eq_left']
    try rw [Bool.false_and]

/-! ### the time -/
theorem tick_Shut (t : Tm) : PCall P 44 [.agg [u64 t.now, u64 t.seq, bool t.cl]] (fun x => x = .agg [u64 t.now, u64 t.seq, bool true]) := by
  refine q0u tyOk Tryz.func44 rfl rfl ?_
  intro K hK
  simp only [Tryz.ntmps44, List.length_cons, List.length_nil, Nat.reduceAdd, Nat.reduceSub, List.replicate, List.cons_append, List.nil_append]
  try simp (maxSteps := 1000000) only [seval, -Int.reduceToNat, -Int.reduceNatCast, -Int.reduceNatCast', -Nat.reduceSubDiff, T, eqc36, eqc44, eqc49, eqc52, q00, q01, q02, q03]
  apply hK
  simp only [Tryz.results44, retK, ares, List.take_nil, Bool.and_true, Bool.true_and, AV.ofResults, St.trunc, q04, q05, aload, acell, T, TI.isAgg, List.getD_cons_zero, List.getD_cons_succ, List.take_zero, List.take_succ_cons, List.drop_zero, List.map_nil, List.getElem?_cons_zero, List.getElem?_cons_succ, List.length_cons, List.length_nil, Nat.reduceAdd, Nat.le_refl, true_and, and_true, ↓reduceIte, List.cons.injEq, exists_eq_left']
theorem tick_Take (t : Tm) : PCall P 90 [.agg [u64 t.now, u64 t.seq, bool t.cl]] (fun x => x = .tup [.agg [u64 t.now, u64 (addW t.seq 1), bool t.cl], u64 (addW t.seq 1)]) := by
  refine q0u tyOk Tryz.func90 rfl rfl ?_
  intro K hK
  simp only [Tryz.ntmps90, List.length_cons, List.length_nil, Nat.reduceAdd, Nat.reduceSub, List.replicate, List.cons_append, List.nil_append]
  try simp (maxSteps := 1000000) only [seval, -Int.reduceToNat, -Int.reduceNatCast, -Int.reduceNatCast', -Nat.reduceSubDiff, T, eqc36, eqc44, eqc49, eqc52, q00, q01, q02, q03]
  (refine q06 (tick_Add t.seq 1) rfl ?_; rintro _ rfl)
  try simp (maxSteps := 1000000) only [seval, -Int.reduceToNat, -Int.reduceNatCast, -Int.reduceNatCast', -Nat.reduceSubDiff, T, eqc36, eqc44, eqc49, eqc52, q00, q01, q02, q03]
  refine q0x tyOk (by rfl) (by simp only [List.length_cons, List.length_nil, Nat.reduceAdd, Nat.zero_le]) (by kernel_rfl) rfl ?_
  try simp (maxSteps := 1000000) only [seval, -Int.reduceToNat, -Int.reduceNatCast, -Int.reduceNatCast', -Nat.reduceSubDiff, T, eqc36, eqc44, eqc49, eqc52, q00, q01, q02, q03]
  refine ⟨by kernel_rfl, ?_⟩
  try simp (maxSteps := 1000000) only [seval, -Int.reduceToNat, -Int.reduceNatCast, -Int.reduceNatCast', -Nat.reduceSubDiff, T, eqc36, eqc44, eqc49, eqc52, q00, q01, q02, q03]
  apply hK
  simp only [Tryz.results90, retK, ares, List.take_nil, Bool.and_true, Bool.true_and, AV.ofResults, St.trunc, q04, q05, aload, acell, T, TI.isAgg, List.getD_cons_zero, List.getD_cons_succ, List.take_zero, List.take_succ_cons, List.drop_zero, List.map_nil, List.getElem?_cons_zero, List.getElem?_cons_succ, List.length_cons, List.length_nil, Nat.reduceAdd, Nat.le_refl, true_and, and_true, ↓reduceIte, List.cons.injEq, exists_eq_left']

/-! ### what may be -/
def inB (n low high : Int) : Bool := decide (low ≤ n) && decide (n ≤ high)
theorem q2n (n low high : Int) : PCall P 36 [i64 n, i64 low, i64 high] (fun x => x = bool (inB n low high)) := by
  refine q0u tyOk Tryz.func36 rfl rfl ?_
  intro K hK
  simp only [Tryz.ntmps36, List.length_cons, List.length_nil, Nat.reduceAdd, Nat.reduceSub, List.replicate, List.cons_append, List.nil_append]
  try simp (maxSteps := 1000000) only [seval, -Int.reduceToNat, -Int.reduceNatCast, -Int.reduceNatCast', -Nat.reduceSubDiff, T, eqc36, eqc44, eqc49, eqc52, q00, q01, q02, q03]
  unfold inB at hK
  (first | refine q0a ?_ ?_ | refine q0g ?_ ?_ | refine q0h ?_ ?_ | refine q0i ?_ ?_ | refine q0b ?_ ?_) <;> intro h
  · have h : decide (low ≤ n) = true := h
    rw [h] at hK
    try simp (maxSteps := 1000000) only [seval, -Int.reduceToNat, -Int.reduceNatCast, -Int.reduceNatCast', -Nat.reduceSubDiff, T, eqc36, eqc44, eqc49, eqc52, q00, q01, q02, q03]
    apply hK
    simp only [Tryz.results36, retK, ares, List.take_nil, Bool.and_true, Bool.true_and, AV.ofResults, St.trunc, q04, q05, List.getD_cons_zero, List.getD_cons_succ, List.map_nil, true_and, and_true, List.cons.injEq, exists_eq_left']
    try rw [Bool.true_and]
  · have h : decide (low ≤ n) = false := h
    rw [h] at hK
    try simp (maxSteps := 1000000) only [seval, -Int.reduceToNat, -Int.reduceNatCast, -Int.reduceNatCast', -Nat.reduceSubDiff, T, eqc36, eqc44, eqc49, eqc52, q00, q01, q02, q03]
    apply hK
    simp only [Tryz.results36, retK, ares, List.take_nil, Bool.and_true, Bool.true_and, AV.ofResults, St.trunc, q04, q05, List.getD_cons_zero, List.getD_cons_succ, List.map_nil, true_and, and_true, List.cons.injEq, exists_eq_left']
    try rw [Bool.false_and]
def Cf.av (c : Cf) : AV := .agg [i64 c.s, i64 c.k, i64 c.q, i64 c.w, i64 c.r, u64 c.e, u64 c.st]
def Cf.right (c : Cf) : Bool := inB c.s 1 8 && inB c.k 1 8 && inB c.q 1 16 && inB c.w 1 8 && inB c.r 0 4
theorem model_Right (c : Cf) : PCall P 24 [c.av] (fun x => x = bool c.right) := by
  refine q0u tyOk Tryz.func24 rfl rfl ?_
  intro K hK
  simp only [Tryz.ntmps24, List.length_cons, List.length_nil, Nat.reduceAdd, Nat.reduceSub, List.replicate, List.cons_append, List.nil_append]
  unfold Cf.right at hK
  have h1 := q2n c.s 1 8
  have h2 := q2n c.k 1 8
  have h3 := q2n c.q 1 16
  have h4 := q2n c.w 1 8
  have h5 := q2n c.r 0 4
  generalize inB c.s 1 8 = b1 at *
  generalize inB c.k 1 8 = b2 at *
  generalize inB c.q 1 16 = b3 at *
  generalize inB c.w 1 8 = b4 at *
  generalize inB c.r 0 4 = b5 at *
  try simp (maxSteps := 1000000) only [seval, -Int.reduceToNat, -Int.reduceNatCast, -Int.reduceNatCast', -Nat.reduceSubDiff, T, eqc36, eqc44, eqc49, eqc52, q00, q01, q02, q03, Cf.av]
  (refine q06 h1 rfl ?_; rintro _ rfl)
  cases b1
  · try simp (maxSteps := 1000000) only [seval, -Int.reduceToNat, -Int.reduceNatCast, -Int.reduceNatCast', -Nat.reduceSubDiff, T, eqc36, eqc44, eqc49, eqc52, q00, q01, q02, q03]
    apply hK
    simp only [Tryz.results24, retK, ares, Bool.and_true, Bool.true_and, AV.ofResults, St.trunc, q04, q05, List.getD_cons_zero, List.getD_cons_succ, List.take_zero, List.map_nil, true_and, and_true, List.cons.injEq, exists_eq_left']
    simp only [Bool.false_and, Bool.and_false, Bool.true_and]
  try simp (maxSteps := 1000000) only [seval, -Int.reduceToNat, -Int.reduceNatCast, -Int.reduceNatCast', -Nat.reduceSubDiff, T, eqc36, eqc44, eqc49, eqc52, q00, q01, q02, q03]
  (refine q06 h2 rfl ?_; rintro _ rfl)
  cases b2
  · try simp (maxSteps := 1000000) only [seval, -Int.reduceToNat, -Int.reduceNatCast, -Int.reduceNatCast', -Nat.reduceSubDiff, T, eqc36, eqc44, eqc49, eqc52, q00, q01, q02, q03]
    apply hK
    simp only [Tryz.results24, retK, ares, Bool.and_true, Bool.true_and, AV.ofResults, St.trunc, q04, q05, List.getD_cons_zero, List.getD_cons_succ, List.take_zero, List.map_nil, true_and, and_true, List.cons.injEq, exists_eq_left']
    simp only [Bool.false_and, Bool.and_false, Bool.true_and]
  try simp (maxSteps := 1000000) only [seval, -Int.reduceToNat, -Int.reduceNatCast, -Int.reduceNatCast', -Nat.reduceSubDiff, T, eqc36, eqc44, eqc49, eqc52, q00, q01, q02, q03]
  (refine q06 h3 rfl ?_; rintro _ rfl)
  cases b3
  · try simp (maxSteps := 1000000) only [seval, -Int.reduceToNat, -Int.reduceNatCast, -Int.reduceNatCast', -Nat.reduceSubDiff, T, eqc36, eqc44, eqc49, eqc52, q00, q01, q02, q03]
    apply hK
    simp only [Tryz.results24, retK, ares, Bool.and_self, Bool.and_true, Bool.true_and, AV.ofResults, St.trunc, q04, q05, List.getD_cons_zero, List.getD_cons_succ, List.take_zero, List.map_nil, true_and, and_true, List.cons.injEq, exists_eq_left']
    simp only [Bool.false_and, Bool.and_false, Bool.true_and]
  try simp (maxSteps := 1000000) only [seval, -Int.reduceToNat, -Int.reduceNatCast, -Int.reduceNatCast', -Nat.reduceSubDiff, T, eqc36, eqc44, eqc49, eqc52, q00, q01, q02, q03]
  (refine q06 h4 rfl ?_; rintro _ rfl)
  cases b4
  · try simp (maxSteps := 1000000) only [seval, -Int.reduceToNat, -Int.reduceNatCast, -Int.reduceNatCast', -Nat.reduceSubDiff, T, eqc36, eqc44, eqc49, eqc52, q00, q01, q02, q03]
    apply hK
    simp only [Tryz.results24, retK, ares, Bool.and_self, Bool.and_true, Bool.true_and, AV.ofResults, St.trunc, q04, q05, List.getD_cons_zero, List.getD_cons_succ, List.take_zero, List.map_nil, true_and, and_true, List.cons.injEq, exists_eq_left']
    simp only [Bool.false_and, Bool.and_false, Bool.true_and]
  try simp (maxSteps := 1000000) only [seval, -Int.reduceToNat, -Int.reduceNatCast, -Int.reduceNatCast', -Nat.reduceSubDiff, T, eqc36, eqc44, eqc49, eqc52, q00, q01, q02, q03]
  (refine q06 h5 rfl ?_; rintro _ rfl)
  try simp (maxSteps := 1000000) only [seval, -Int.reduceToNat, -Int.reduceNatCast, -Int.reduceNatCast', -Nat.reduceSubDiff, T, eqc36, eqc44, eqc49, eqc52, q00, q01, q02, q03]
  apply hK
  simp only [Tryz.results24, retK, ares, Bool.and_self, Bool.and_true, Bool.true_and, AV.ofResults, St.trunc, q04, q05, List.getD_cons_zero, List.getD_cons_succ, List.take_zero, List.map_nil, true_and, and_true, List.cons.injEq, exists_eq_left']
end Go.Proofs.YtdkcpcflfnakdaaGreat
namespace Go.Proofs.YtdkcpcflfnakdaaGreat
open Go Go.Proofs.YtdkcpcflfnakdaaGreat.Sym
set_option maxRecDepth 100000
set_option maxHeartbeats 1000000
set_option linter.unusedSimpArgs false
set_option linter.unusedVariables false

theorem ml_z {n : Nat} : (mlen n = 0) = False := by simp [mlen]
theorem ml_1 {n : Nat} : (1 ≤ mlen n) = True := by simp [mlen]; omega
theorem ml_n0 {n : Nat} : (mlen n ≤ 0) = False := by simp [mlen]
theorem ml_n2 {n : Nat} : (mlen n ≤ 2) = False := by simp [mlen]; omega
theorem ml_nf {n k : Nat} (h : k < n) : (mlen n ≤ fb k) = False := by simp [mlen, fb]; omega
theorem ml_k0 {n k : Nat} : (mlen n + k ≤ 0) = False := by simp [mlen]
theorem ml_k2 {n k : Nat} : (mlen n + k ≤ 2) = False := by simp [mlen]; omega
theorem ml_kl {n k j : Nat} : (mlen n + k ≤ mlen n + j) = (k ≤ j) := by simp
theorem ml_kl0 {n k : Nat} : (mlen n + k ≤ mlen n) = (k ≤ 0) := propext (by constructor <;> omega)
theorem ml_l {n k : Nat} : (mlen n = mlen n + k) = (k = 0) := by simp
theorem ml_r {n k : Nat} : (mlen n + k = mlen n) = (k = 0) := by simp
theorem ml_b {n j k : Nat} : (mlen n + j = mlen n + k) = (j = k) := by simp
theorem ml_le {n k : Nat} : (mlen n ≤ mlen n + k) = True := by simp
theorem ml_0 {n : Nat} : (0 = mlen n) = False := by simp [mlen]; omega
theorem ml_0k {n k : Nat} : (0 = mlen n + k) = False := by simp [mlen]; omega
theorem mm_ids {n pad i : Nat} {M : Md} {cs : List AV} (h : (modM n pad M)[i]? = some (.box cs)) : ∀ b ∈ q0m cs, b < mlen n := by
  intro b hb
  have hl := (List.getElem?_eq_some_iff.1 h).1
  rw [q0c] at hl
  rcases mm_split (n := n) (pad := pad) (i := i) (M := M) (r := []) with h1 | ⟨s, j, h1, h2, rfl⟩ | h1
  · have c : i = 0 ∨ i = 1 ∨ i = 2 := by omega
    rcases c with rfl | rfl | rfl
    · rw [mm_0n] at h; cases h
      simp only [q0m, bks, List.nil_append, List.append_nil, List.mem_append, List.mem_singleton, List.not_mem_nil, false_or, or_false, List.cons_append, List.mem_cons] at hb
      simp only [mlen]; omega
    · rw [mm_1n] at h; cases h
    · rw [mm_2n] at h; cases h
      obtain ⟨j, hj, rfl⟩ := ptrs_bks n pad b hb
      simp only [fb, mlen]; omega
  · have := mm_feed M [] h1 h2 (pad := pad)
    rw [List.append_nil, h] at this
    cases hg : (feedM (M.f s))[j]? with
    | none => rw [hg] at this; cases this
    | some blk =>
      rw [hg] at this
      simp only [Option.map_some, Option.some.injEq] at this
      cases blk with
      | box cs0 =>
        simp only [AB.ren, AB.box.injEq] at this
        subst this
        obtain ⟨c, hc, rfl, _⟩ := bksAll_ren cs0 (feed_box hg) b hb
        simp only [fb, mlen]; omega
      | row _ _ _ => simp [AB.ren] at this
      | rowc _ _ _ _ => simp [AB.ren] at this
      | gone => simp [AB.ren] at this
      | tr _ _ => simp [AB.ren] at this
  · omega
/-- What leaves boxes as they are whose blocks are the table's, and all other blocks. -/
theorem mm_fix {n pad : Nat} {M : Md} {f : AB → AB} (h1 : ∀ cs, (∀ b ∈ q0m cs, b < mlen n) → f (.box cs) = .box cs) (h2 : ∀ blk, (∀ cs, blk ≠ .box cs) → f blk = blk) : (modM n pad M).map f = modM n pad M := by
  apply List.ext_getElem?
  intro i
  rw [List.getElem?_map]
  cases h : (modM n pad M)[i]? with
  | none => rfl
  | some blk =>
    simp only [Option.map_some]
    congr 1
    by_cases hb : ∃ cs, blk = .box cs
    · obtain ⟨cs, rfl⟩ := hb
      exact h1 cs (mm_ids h)
    · exact h2 blk (fun cs hc => hb ⟨cs, hc⟩)
mutual
theorem truncV_id {m : List AB} {N : Nat} : ∀ x : AV, (∀ b ∈ bks x, b < N) → q05 m N x = x
  | .v _, _ => rfl
  | .agg xs, h => by simp only [q05]; rw [truncVs_id xs h]
  | .tup xs, h => by simp only [q05]; rw [truncVs_id xs h]
  | .sl _ _, _ => rfl
  | .rp _, _ => rfl
  | .own b _ _ _, h => by have := h b (by simp [bks]); simp only [q05]; rw [if_neg (by omega)]
  | .ptr b _, h => by have := h b (by simp [bks]); simp only [q05]; rw [if_neg (by omega)]
  | .ep b _ _ _, h => by have := h b (by simp [bks]); simp only [q05]; rw [if_neg (by omega)]
  | .fn _ caps, h => by simp only [q05]; rw [truncVs_id caps h]
  | .any, _ => rfl
theorem truncVs_id {m : List AB} {N : Nat} : ∀ xs : List AV, (∀ b ∈ q0m xs, b < N) → q04 m N xs = xs
  | [], _ => rfl
  | x :: xs, h => by
    simp only [q04]
    rw [truncV_id x (fun b hb => h b (by simp [q0m, hb])), truncVs_id xs (fun b hb => h b (by simp [q0m, hb]))]
end
mutual
theorem killV_id {c : Nat} : ∀ x : AV, (∀ b ∈ bks x, b ≠ c) → killV c x = x
  | .v _, _ => rfl
  | .agg xs, h => by simp only [killV]; rw [killVs_id xs h]
  | .tup xs, h => by simp only [killV]; rw [killVs_id xs h]
  | .sl _ _, _ => rfl
  | .rp _, _ => rfl
  | .own b _ _ _, h => by have := h b (by simp [bks]); simp only [killV]; rw [if_neg this]
  | .ptr b _, h => by have := h b (by simp [bks]); simp only [killV]; rw [if_neg this]
  | .ep b _ _ _, h => by have := h b (by simp [bks]); simp only [killV]; rw [if_neg this]
  | .fn _ caps, h => by simp only [killV]; rw [killVs_id caps h]
  | .any, _ => rfl
theorem killVs_id {c : Nat} : ∀ xs : List AV, (∀ b ∈ q0m xs, b ≠ c) → q1w c xs = xs
  | [], _ => rfl
  | x :: xs, h => by
    simp only [q1w]
    rw [killV_id x (fun b hb => h b (by simp [q0m, hb])), killVs_id xs (fun b hb => h b (by simp [q0m, hb]))]
end
mutual
theorem shutV_id {m : List AB} {c : Nat} : ∀ x : AV, (∀ b ∈ bks x, b ≠ c) → shutV m c x = x
  | .v _, _ => rfl
  | .agg xs, h => by simp only [shutV]; rw [shutVs_id xs h]
  | .tup xs, h => by simp only [shutV]; rw [shutVs_id xs h]
  | .sl _ _, _ => rfl
  | .rp _, _ => rfl
  | .own b _ _ _, h => by have := h b (by simp [bks]); simp only [shutV]; rw [if_neg this]
  | .ptr b _, h => by have := h b (by simp [bks]); simp only [shutV]; rw [if_neg this]
  | .ep b _ _ _, h => by have := h b (by simp [bks]); simp only [shutV]; rw [if_neg this]
  | .fn _ caps, h => by simp only [shutV]; rw [shutVs_id caps h]
  | .any, _ => rfl
theorem shutVs_id {m : List AB} {c : Nat} : ∀ xs : List AV, (∀ b ∈ q0m xs, b ≠ c) → shutVs m c xs = xs
  | [], _ => rfl
  | x :: xs, h => by
    simp only [shutVs]
    rw [shutV_id x (fun b hb => h b (by simp [q0m, hb])), shutVs_id xs (fun b hb => h b (by simp [q0m, hb]))]
end
mutual
theorem ren_id {N : Nat} : ∀ x : AV, (∀ b ∈ bks x, b < N) → ren (List.range' 0 N) x = x
  | .v _, _ => rfl
  | .agg xs, h => by simp only [ren]; rw [renAll_id xs h]
  | .tup xs, h => by simp only [ren]; rw [renAll_id xs h]
  | .sl _ _, _ => rfl
  | .rp _, _ => rfl
  | .own b _ _ _, h => by have := h b (by simp [bks]); simp only [ren]; rw [range_getD this, Nat.zero_add]
  | .ptr b _, h => by have := h b (by simp [bks]); simp only [ren]; rw [range_getD this, Nat.zero_add]
  | .ep b _ _ _, h => by have := h b (by simp [bks]); simp only [ren]; rw [range_getD this, Nat.zero_add]
  | .fn _ caps, h => by simp only [ren]; rw [renAll_id caps h]
  | .any, _ => rfl
theorem renAll_id {N : Nat} : ∀ xs : List AV, (∀ b ∈ q0m xs, b < N) → q1i (List.range' 0 N) xs = xs
  | [], _ => rfl
  | x :: xs, h => by
    simp only [q1i]
    rw [ren_id x (fun b hb => h b (by simp [q0m, hb])), renAll_id xs (fun b hb => h b (by simp [q0m, hb]))]
end
section
variable (n pad : Nat) (M : Md) (r : List AB)
theorem mm_trunc {X : List AB} {N : Nat} (h : mlen n ≤ N) : (modM n pad M).map (AB.trunc X N) = modM n pad M :=
  mm_fix (fun cs hc => by simp only [AB.trunc]; rw [truncVs_id cs (fun b hb => Nat.lt_of_lt_of_le (hc b hb) h)]) (fun blk hb => by cases blk <;> first | rfl | exact absurd rfl (hb _))
theorem mm_kill {b : Nat} (h : mlen n ≤ b) : (modM n pad M).map (AB.kill b) = modM n pad M :=
  mm_fix (fun cs hc => by simp only [AB.kill]; rw [killVs_id cs (fun c hb => by have := hc c hb; omega)]) (fun blk hb => by cases blk <;> first | rfl | exact absurd rfl (hb _))
theorem mm_shut {X : List AB} {b : Nat} (h : mlen n ≤ b) : (modM n pad M).map (AB.shut X b) = modM n pad M :=
  mm_fix (fun cs hc => by simp only [AB.shut]; rw [shutVs_id cs (fun c hb => by have := hc c hb; omega)]) (fun blk hb => by cases blk <;> first | rfl | exact absurd rfl (hb _))
theorem q0d (k : Nat) : (modM n pad M ++ r).map (AB.kill (mlen n + k)) = modM n pad M ++ r.map (AB.kill (mlen n + k)) := by rw [List.map_append, mm_kill n pad M (by omega)]
theorem q08 : (modM n pad M ++ r).map (AB.kill (mlen n)) = modM n pad M ++ r.map (AB.kill (mlen n)) := q0d n pad M r 0
theorem q0e {X : List AB} (k : Nat) : (modM n pad M ++ r).map (AB.shut X (mlen n + k)) = modM n pad M ++ r.map (AB.shut X (mlen n + k)) := by rw [List.map_append, mm_shut n pad M (by omega)]
theorem q09 {X : List AB} : (modM n pad M ++ r).map (AB.shut X (mlen n)) = modM n pad M ++ r.map (AB.shut X (mlen n)) := q0e n pad M r 0
theorem mm_tk (k : Nat) : (modM n pad M ++ r).take (mlen n + k) = modM n pad M ++ r.take k := by
  rw [List.take_append, q0c, List.take_of_length_le (by rw [q0c]; omega), show mlen n + k - mlen n = k by omega]
theorem mm_ret {X : List AB} : ((modM n pad M ++ r).take (mlen n)).map (AB.trunc X (mlen n)) = modM n pad M := by
  have := mm_tk n pad M r 0
  rw [Nat.add_zero] at this
  rw [this, List.take_zero, List.append_nil, mm_trunc n pad M (Nat.le_refl _)]
theorem mm_retn {X : List AB} : ((modM n pad M).take (mlen n)).map (AB.trunc X (mlen n)) = modM n pad M := by
  have := mm_ret n pad M [] (X := X)
  rwa [List.append_nil] at this
theorem mm_rn {X : List AB} (k : Nat) : ((modM n pad M ++ r).take (mlen n + k)).map (AB.trunc X (mlen n + k)) = modM n pad M ++ (r.take k).map (AB.trunc X (mlen n + k)) := by
  rw [mm_tk, List.map_append, mm_trunc n pad M (by omega)]
theorem mm_rn3 {X : List AB} : ((modM n pad M ++ r).take (mlen n + 3)).map (AB.trunc X (mlen n + 3)) = modM n pad M ++ (r.take 3).map (AB.trunc X (mlen n + 3)) := mm_rn n pad M r 3
theorem mm_rn4 {X : List AB} : ((modM n pad M ++ r).take (mlen n + 4)).map (AB.trunc X (mlen n + 4)) = modM n pad M ++ (r.take 4).map (AB.trunc X (mlen n + 4)) := mm_rn n pad M r 4
theorem mm_ren : renM (List.range' 0 (mlen n)) (modM n pad M) = modM n pad M := by
  have : ∀ l : List AB, renM (List.range' 0 (mlen n)) l = l.map (AB.ren (List.range' 0 (mlen n))) := by
    intro l; induction l with
    | nil => rfl
    | cons b l ih => rw [renM, ih]; rfl
  rw [this]
  exact mm_fix (fun cs hc => by simp only [AB.ren]; rw [renAll_id cs hc]) (fun blk hb => by cases blk <;> first | rfl | exact absurd rfl (hb _))
theorem mm_inR : (modM n pad M).all (AB.inR (mlen n)) = true := by
  refine List.all_eq_true.2 fun blk hb => ?_
  obtain ⟨i, hi⟩ := List.getElem?_of_mem hb
  cases blk with
  | box cs => exact List.all_eq_true.2 fun b hb => decide_eq_true (mm_ids hi b hb)
  | _ => rfl
theorem mm_atAll : (List.range' 0 (mlen n)).map (fun b => (modM n pad M ++ r)[b]?) = (modM n pad M).map some := by
  apply List.ext_getElem?
  intro i
  by_cases hi : i < mlen n
  · rw [List.getElem?_map, range_get hi, List.getElem?_map]
    simp only [Option.map_some, Nat.zero_add]
    rw [List.getElem?_append_left (by rw [q0c]; exact hi), List.getElem?_eq_getElem (by rw [q0c]; exact hi)]
    rfl
  · rw [List.getElem?_eq_none (by simp; omega), List.getElem?_eq_none (by simp [q0c]; omega)]
theorem mm_putAll (M' : Md) : putL (modM n pad M ++ r) (List.range' 0 (mlen n)) (modM n pad M') = modM n pad M' ++ r := by
  apply List.ext_getElem?
  intro i
  by_cases hi : i < mlen n
  · have hg : (modM n pad M')[i]? = some ((modM n pad M')[i]'(by rw [q0c]; exact hi)) := List.getElem?_eq_getElem _
    rw [putL_in _ _ _ i i _ List.nodup_range' (by rw [range_get hi, Nat.zero_add]) hg (by rw [q0j]; omega), List.getElem?_append_left (by rw [q0c]; exact hi), hg]
  · rw [putL_out _ _ _ _ (fun hm => by have := (range_mem.1 hm).2; omega)]
    obtain ⟨k, rfl⟩ := Nat.exists_eq_add_of_le (Nat.le_of_not_lt hi)
    rw [mm_at, mm_at]
end
def kpX (n b : Nat) : Bool := decide (b < 3) || decide (mlen n ≤ b)
/-- A call on a table, in a memory that has more behind it. -/
theorem mod_in {g : FuncId} {args : List AV} {K0 K : AV → List AB → Prop} {n pad : Nat} {M : Md} {r : List AB} (h : ACall P g (modM n pad M) args K0) (hb : (q0m args).all (fun b => decide (b < 3)) = true)
    (hK : ∀ x m', K0 x m' → bks x = [] ∧ ∃ M', m' = modM n pad M' ∧ K x (modM n pad M' ++ r)) : ACall P g (modM n pad M ++ r) args K := by
  have hb' : ∀ b ∈ q0m args, b < mlen n := fun b hm => by have := List.all_eq_true.1 hb b hm; simp only [decide_eq_true_eq] at this; simp only [mlen]; omega
  refine h.frame (List.range' 0 (mlen n)) List.nodup_range' (by rw [mm_ren]; exact mm_atAll n pad M r) (renAll_id args hb').symm (by rw [List.length_range']; exact List.all_eq_true.2 fun b hm => decide_eq_true (hb' b hm)) (by rw [List.length_range']; exact mm_inR n pad M) ?_
  intro x m' hx
  obtain ⟨hbx, M', rfl, hv⟩ := hK x m' hx
  exact ⟨by rw [q0c, q0c], by rw [mm_ren, mm_putAll, ren_id x (by rw [hbx]; intro b hb; cases hb)]; exact hv⟩
theorem mod_inX {g : FuncId} {args : List AV} {K0 K : AV → List AB → Prop} {n pad : Nat} {M : Md} {r : List AB} (h : q0y P 3 g (modM n pad M) args K0) (hb : (q0m args).all (fun b => decide (b < 3)) = true) (hr : r.all (AB.calm n) = true)
    (hK : ∀ x m', K0 x m' → bks x = [] ∧ ∃ M', m' = modM n pad M' ∧ K x (modM n pad M' ++ r)) : q1b P (kpX n) g (modM n pad M ++ r) args K := by
  have hb' : ∀ b ∈ q0m args, b < mlen n := fun b hm => by have := List.all_eq_true.1 hb b hm; simp only [decide_eq_true_eq] at this; simp only [mlen]; omega
  have key : ∀ b, kpX n b = true → kpOf (fun b => decide (b < 3)) (List.range' 0 (mlen n)) 0 b = true := by
    intro b hb
    by_cases hm : b < mlen n
    · rw [kpOf_in (j := b) List.nodup_range' (by rw [range_get hm, Nat.zero_add])]
      simp only [kpX, Bool.or_eq_true, decide_eq_true_eq] at hb
      simp only [decide_eq_true_eq]; omega
    · exact kpOf_out (fun h => by have := (range_mem.1 h).2; omega)
  refine q1b.keeps (kp := kpOf (fun b => decide (b < 3)) (List.range' 0 (mlen n)) 0) ?_ (fun b _ hb => key b hb)
  refine h.toX.frame (List.range' 0 (mlen n)) List.nodup_range' (by rw [mm_ren]; exact mm_atAll n pad M r) (renAll_id args hb').symm (by rw [List.length_range']; exact List.all_eq_true.2 fun b hm => decide_eq_true (hb' b hm)) (by rw [List.length_range']; exact mm_inR n pad M) ?_ ?_
  · refine outOk_all fun i cs hi => ?_
    rw [Nat.zero_add]
    by_cases hm : i < mlen n
    · exact .inl (range_mem.2 ⟨Nat.zero_le _, by omega⟩)
    · obtain ⟨k, rfl⟩ := Nat.exists_eq_add_of_le (Nat.le_of_not_lt hm)
      rw [mm_at] at hi
      have := List.all_eq_true.1 hr _ (List.mem_of_getElem? hi)
      exact .inr (List.all_eq_true.2 fun b hb => key b (List.all_eq_true.1 this b hb))
  · intro x m' hx
    obtain ⟨hbx, M', rfl, hv⟩ := hK x m' hx
    exact ⟨by rw [q0c, q0c], by rw [mm_ren, mm_putAll, ren_id x (by rw [hbx]; intro b hb; cases hb)]; exact hv⟩
end Go.Proofs.YtdkcpcflfnakdaaGreat
namespace Go.Proofs.YtdkcpcflfnakdaaGreat
open Go Go.Proofs.YtdkcpcflfnakdaaGreat.Sym
set_option maxRecDepth 100000
set_option maxHeartbeats 1000000
set_option linter.unusedSimpArgs false
set_option linter.unusedVariables false

section
variable {α β : Type} {lt eq : α → α → Bool}
end

theorem settle_mem {m : Bk} (hr : rises_se m) {u : ByteArray} {l : List Ses} {now : Int} {p : ByteArray × En} (h : p ∈ settleB m u l now) : p ∈ m ∨ (p = (u, ⟨l, ofP l now⟩) ∧ l.length ≠ 0) := by
  unfold settleB at h
  split at h
  · rw [without_eq ordS q2a hr] at h
    exact .inl (List.mem_filter.1 h).1
  · rename_i hn
    rcases (mem_with ordS q2a hr).1 h with h | h
    · exact .inr ⟨h, hn⟩
    · exact .inl h.1
theorem book_write {n : Nat} {m : Bk} (h : bookOk n m) (o : Opb) (now most : Int) : bookOk (n + 1) (writeB m o now most) := by
  have hs := settleB_rises h.1 o.u (writeL m o now most).1 now
  refine ⟨hs.1, Nat.le_trans hs.2 (by have := h.2.1; omega), ?_⟩
  intro p hp
  rcases settle_mem h.1 hp with hp | ⟨rfl, _⟩
  · have := h.2.2 p hp; exact ⟨this.1, by omega⟩
  · exact writeL_ok h o now most
theorem bookOk.mono {n k : Nat} {m : Bk} (h : bookOk n m) (hk : n ≤ k) : bookOk k m := ⟨h.1, Nat.le_trans h.2.1 hk, fun p hp => ⟨(h.2.2 p hp).1, Nat.le_trans (h.2.2 p hp).2 hk⟩⟩

/-- An act, as the program holds it. -/
structure ActB where
  sw : Bool
  op : Opb
  by_ : Int
def ActB.av (a : ActB) : AV := .agg [bool a.sw, i64 a.op.kind, str a.op.u, i64 a.op.id, i64 a.op.st, i64 a.op.pr, u64 a.op.ttl, .sl 1 (a.op.us.map fun x => str x), u64 a.by_]
theorem nil_se : weak (.agg [.v (.slice none 0 0), .v (.slice none 0 0)]) (q1c []) := .inr ⟨_, rfl, _, _, rfl, weak_nil 1, _, _, rfl, weak_nil 4, rfl⟩
end Go.Proofs.YtdkcpcflfnakdaaGreat
