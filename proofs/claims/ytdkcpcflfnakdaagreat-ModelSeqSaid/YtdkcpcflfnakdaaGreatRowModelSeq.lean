/- The law ModelSeq and its row. -/
import Derived.Test.YtdkcpcflfnakdaaGreatMh
import Derived.Test.YtdkcpcflfnakdaaGreatRows
import Derived.Test.YtdkcpcflfnakdaaGreatSymU
namespace Go.Proofs.YtdkcpcflfnakdaaGreat
open Go Go.Proofs.YtdkcpcflfnakdaaGreat.Sym
attribute [-sevalprocAttr] Int.reduceToNat Int.reduceNatCast Int.reduceNatCast' Nat.reduceSubDiff
set_option maxRecDepth 100000
set_option maxHeartbeats 1000000
set_option maxHeartbeats 2000000
set_option linter.unusedSimpArgs false
set_option linter.unusedVariables false

def stA (l : List Ac) : Md := l.foldl (befM 3) (fresh sm)
theorem stA_next {l : List Ac} {i : Nat} (h : i < l.length) : stA (l.take (i + 1)) = befM 3 (stA (l.take i)) l[i] := by
  rw [q24 h, stA, List.foldl_append]; rfl
theorem wok_befS {B : Nat} {M : Md} (h : WOk 3 B M) (hB : B + 1 ≤ 900) (a : Ac) : WOk 3 (B + 1) (befM 3 M a) := by
  unfold befM
  split
  · exact (wok_tick h _).mono (Nat.le_succ _) hB
  split
  · exact (wok_sweep h _).mono (Nat.le_succ _) hB
  · exact wok_do h hB _ _
theorem wok_stA (l : List Ac) (hl : l.length ≤ 120) : ∀ i, i ≤ l.length → WOk 3 i (stA (l.take i)) := by
  intro i
  induction i with
  | zero => intro _; exact wok_fresh rfl (by decide) (by decide) (by decide)
  | succ i ih =>
    intro h
    rw [stA_next h]
    exact wok_befS (ih (by omega)) (by omega) _

theorem kind_of {o : Opb} (h : badO o = false) : 1 ≤ o.kind ∧ o.kind ≤ 9 := by
  unfold badO at h
  split at h
  · rename_i h1; have : o.kind = 1 := by simpa using h1
    omega
  split at h
  · rename_i h1; have : o.kind = 2 ∨ o.kind = 3 := by simpa using h1
    omega
  split at h
  · rename_i h1; have : o.kind = 4 ∨ o.kind = 6 ∨ o.kind = 7 := by simpa using h1
    omega
  split at h
  · rename_i h1; have : o.kind = 5 := by simpa using h1
    omega
  · by_cases h8 : o.kind = 8
    · omega
    · have : o.kind = 9 := by simpa [h8] using h
      omega
def cntD (who : Int) (o : Opb) : Bool := !badO o && decide (0 ≤ who) && decide (who < 8) && decide (o.kind ≤ 3)
theorem write_t (n : Nat) (M : Md) (o : Opb) : (M.write n o).t.now = M.t.now ∧ (M.write n o).t.seq = addW M.t.seq 1 := by
  unfold Md.write; split <;> exact ⟨rfl, rfl⟩
theorem do_t (n : Nat) (M : Md) (who : Int) (o : Opb) : (doM n M who o).t.now = M.t.now ∧ (doM n M who o).t.seq = if cntD who o = true then addW M.t.seq 1 else M.t.seq := by
  by_cases h0 : (badO o || !inB who 0 7) = true
  · have : cntD who o = false := by
      unfold cntD
      cases hb : badO o with
      | true => simp
      | false =>
        rw [hb, Bool.false_or] at h0
        simp only [inB, Bool.not_eq_true', Bool.and_eq_false_iff, decide_eq_false_iff_not] at h0
        simp only [Bool.not_false, Bool.true_and, Bool.and_eq_false_iff, decide_eq_false_iff_not]
        omega
    rw [this]
    unfold doM
    rw [if_pos h0]
    exact ⟨rfl, rfl⟩
  · have hb : badO o = false := by cases h : badO o with | false => rfl | true => rw [h] at h0; exact absurd rfl h0
    have hk := kind_of hb
    rw [hb, Bool.false_or] at h0
    have hw : 0 ≤ who ∧ who < 8 := by
      simp only [inB, Bool.not_eq_true', Bool.and_eq_false_iff, decide_eq_false_iff_not] at h0
      omega
    have hc : cntD who o = decide (o.kind ≤ 3) := by
      unfold cntD
      rw [hb, decide_eq_true hw.1, decide_eq_true hw.2]; rfl
    rw [hc]
    unfold doM
    rw [if_neg (by rw [hb, Bool.false_or]; exact h0)]
    by_cases h3 : o.kind ≤ 3
    · have e1 : (o.kind == 1 || (o.kind == 2 || o.kind == 3)) = true := by
        rcases (show o.kind = 1 ∨ o.kind = 2 ∨ o.kind = 3 by omega) with h | h | h <;> rw [h] <;> rfl
      rw [if_pos e1, decide_eq_true h3, if_pos rfl]
      exact write_t n M o
    · have e1 : (o.kind == 1 || (o.kind == 2 || o.kind == 3)) = false := by
        rw [Bool.or_eq_false_iff, Bool.or_eq_false_iff, beq_eq_false_iff_ne, beq_eq_false_iff_ne, beq_eq_false_iff_ne]
        omega
      rw [if_neg (by rw [e1]; decide), decide_eq_false h3]
      simp only [Bool.false_eq_true, ↓reduceIte]
      split
      · exact ⟨rfl, rfl⟩
      split
      · exact ⟨rfl, rfl⟩
      split
      · split <;> exact ⟨rfl, rfl⟩
      split
      · exact ⟨rfl, rfl⟩
      split <;> exact ⟨rfl, rfl⟩
theorem sweep_t (M : Md) (k : Nat) : (M.sweep 3 ((k : Nat) : Int)).t.now = M.t.now ∧ (M.sweep 3 ((k : Nat) : Int)).t.seq = if k < 3 then addW M.t.seq 1 else M.t.seq := by
  unfold Md.sweep
  by_cases h : k < 3
  · rw [if_neg (by rw [decide_eq_false (by omega), decide_eq_false (by omega)]; decide), if_pos h]; exact ⟨rfl, rfl⟩
  · rw [if_pos (by rw [decide_eq_true (by omega : ((3 : Nat) : Int) ≤ (k : Int)), Bool.or_true]), if_neg h]; exact ⟨rfl, rfl⟩
theorem addW_one {a : Int} (h0 : 0 ≤ a) (h : a ≤ 1000) : addW a 1 = a + 1 ∧ IntKind.u64.wrap (a + 1) = a + 1 := by
  unfold addW
  rw [IntKind.wrap_u64, IntKind.wrap_u64]
  rw [if_neg (by omega)]
  omega
def addN (a b : Int) : Int := if a + b < 18446744073709551616 then a + b else 18446744073709551615
theorem addW_eq {a b : Int} (h0 : 0 ≤ a) (h1 : a ≤ 18446744073709551615) (h2 : 0 ≤ b) (h3 : b ≤ 18446744073709551615) : addW a b = addN a b := by
  unfold addW addN
  rw [IntKind.wrap_u64, IntKind.wrap_u64]
  split <;> split <;> omega
structure SqOk (i : Nat) (M : Md) : Prop where
  s0 : 0 ≤ M.t.seq
  s1 : M.t.seq ≤ i
  n0 : 0 ≤ M.t.now
  n1 : M.t.now ≤ 18446744073709551615
theorem sq_bef {i : Nat} {M : Md} (h : SqOk i M) (hi : i ≤ 1000) (a : Ac) (ha : a.by_ ≤ 18446744073709551615) : SqOk (i + 1) (befM 3 M a) := by
  obtain ⟨h1, h2, h3, h4⟩ := h
  have e := (addW_one h1 (by omega)).1
  unfold befM
  split
  · have := addW_eq h3 h4 (b := (a.by_ : Int)) (by omega) (by omega)
    refine ⟨h1, by simp only [Md.tick]; omega, ?_, ?_⟩ <;> (simp only [Md.tick, this]; unfold addN; split <;> omega)
  split
  · obtain ⟨e1, e2⟩ := sweep_t M (a.by_ % 9)
    refine ⟨?_, ?_, by rw [e1]; exact h3, by rw [e1]; exact h4⟩ <;> (rw [e2]; split <;> (try rw [e]) <;> omega)
  · obtain ⟨e1, e2⟩ := do_t 3 M a.who a.op
    refine ⟨?_, ?_, by rw [e1]; exact h3, by rw [e1]; exact h4⟩ <;> (rw [e2]; split <;> (try rw [e]) <;> omega)
theorem sq_stA (l : List Ac) (hl : l.length ≤ 120) (hb : ∀ a ∈ l, a.by_ ≤ 18446744073709551615) : ∀ i, i ≤ l.length → SqOk i (stA (l.take i)) := by
  intro i
  induction i with
  | zero => intro _; exact ⟨show (0 : Int) ≤ 0 by decide, show (0 : Int) ≤ 0 by decide, show (0 : Int) ≤ 0 by decide, show (0 : Int) ≤ 18446744073709551615 by decide⟩
  | succ i ih =>
    intro h
    rw [stA_next h]
    exact sq_bef (ih (by omega)) (by omega) _ (hb _ (List.getElem_mem h))

theorem law_seq (l : List Ac) (hl : l.length ≤ maxLen) (hu : ∀ a ∈ l, a.op.us.length ≤ maxLen) (hby : ∀ a ∈ l, a.by_ ≤ 18446744073709551615) : PCall P 7 [.sl 10 (acts l)] (fun x => x = bool true) := by
  have hL := law_long l hl hu
  refine q0r tyOk Tryz.func7 rfl rfl ?_
  intro K hK
  simp only [Tryz.ntmps7, List.length_cons, List.length_nil, Nat.reduceAdd, Nat.reduceSub, List.replicate, List.cons_append, List.nil_append]
  try simp (maxSteps := 1000000) only [seval]
  (refine q0g law_awake rfl ?_; rintro _ rfl)
  try simp (maxSteps := 1000000) only [seval]
  (refine q0g hL rfl ?_; rintro _ rfl)
  cases hlg : (decide (120 < l.length) || longA l)
  · rw [Bool.or_eq_false_iff] at hlg
    have hl120 : l.length ≤ 120 := by have := of_decide_eq_false hlg.1; omega
    have hsh : ∀ a ∈ l, shortO a.op = true := fun a ha => by
      have := List.any_eq_false.1 hlg.2 a ha
      cases h : shortO a.op with | true => rfl | false => rw [h] at this; exact absurd rfl this
    try simp (maxSteps := 1000000) only [seval]
    (refine q0g law_Small rfl ?_; rintro _ rfl)
    try simp (maxSteps := 1000000) only [seval]
    refine q15 ((model_New sm 3 rfl (by decide) (by decide) (by rfl)).mono ?_)
    rintro _ _ ⟨rfl, pad, rfl⟩
    try simp (maxSteps := 1000000) only [seval, mm_0, mm_1, mm_2, mm_0n, mm_1n, mm_2n, q0b, q0a, q0c, q0d, q0e, mm_s0, mm_s1, mm_s2, mm_s3, q09, q06, q08, q07, q0f, q04, q02, q05, q03, Nat.add_assoc, AB.calm, kpX, kpM, ml_z, ml_1, ml_l, ml_r, ml_b, ml_le, ml_0, ml_0k, Nat.one_ne_zero, List.all_cons, List.all_nil]
    refine q1f tyOk (α := Nat) (mlen 3) [0, 3, 5, 6, 7] (fun i => i ≤ l.length)
      (fun i => ⟨[.sl 10 (acts l), .any, .any, .ptr 0 0, .any, u64 (stA (l.take i)).t.seq, u64 (stA (l.take i)).t.now, i64 i, .any, .any, .any, .any, .any, .any, .any, .any, .any, .any, .any, .any, .any, .any, .any, .any, .any, .any, .any, .any, .any, .any, .any, .any, .any, .any, .any, .any, .any, .any, .any, .any, .any, .any, .any, .any, .any, .any, .any, .any, .any, .any, .any, .any, .any, .any, .any, .any, .any, .any, .any, .any, .any, .any, .any, .any, .any, .any, .any, .any, .any, .any, .any, .any, .any, .any, .any, .any, .any, .any, .any, .any, .any, .any, .any, .any, .any, .any, .any, .any, .any, .any, .any, .any, .any, .any, .any, .any, .any, .any, .any, .any, .any, .any, .any], modM 3 pad (stA (l.take i))⟩)
      (fun i => l.length - i) 0 (by simp) (Nat.zero_le _) ?_ ?_
    · simp only [St.trunc, St.keep, q00, q01, keepV, ml_n0, q32, List.elem_cons, List.elem_nil, List.take_zero, Nat.reduceAdd, Nat.reduceBEq, Nat.zero_add, Bool.false_eq_true, ↓reduceIte]
      rfl
    intro i hi
    try simp (maxSteps := 1000000) only [seval, mm_0, mm_1, mm_2, mm_0n, mm_1n, mm_2n, q0b, q0a, q0c, q0d, q0e, mm_s0, mm_s1, mm_s2, mm_s3, q09, q06, q08, q07, q0f, q04, q02, q05, q03, Nat.add_assoc, AB.calm, kpX, kpM, ml_z, ml_1, ml_l, ml_r, ml_b, ml_le, ml_0, ml_0k, Nat.one_ne_zero, List.all_cons, List.all_nil, q38]
    (first | refine q0j ?_ ?_ | refine q0k ?_ ?_ | refine q0l ?_ ?_ | refine q0m ?_ ?_ | refine q0i ?_ ?_) <;> intro hf <;> try simp (maxSteps := 1000000) only [seval, mm_0, mm_1, mm_2, mm_0n, mm_1n, mm_2n, q0b, q0a, q0c, q0d, q0e, mm_s0, mm_s1, mm_s2, mm_s3, q09, q06, q08, q07, q0f, q04, q02, q05, q03, Nat.add_assoc, AB.calm, kpX, kpM, ml_z, ml_1, ml_l, ml_r, ml_b, ml_le, ml_0, ml_0k, Nat.one_ne_zero, List.all_cons, List.all_nil]
    · have hlt : i < l.length := by simpa using hf
      have eg := acts_get hlt
      have ew : IntKind.i64.wrap ((i : Int) + 1) = ((i + 1 : Nat) : Int) := by rw [wrap_i64 (by omega) (by omega)]; rfl
      have b1 : (0 : Int) ≤ (i : Int) ∧ Int.toNat (i : Int) < l.length := by omega
      have hmem := List.getElem_mem hlt
      have hok := short_ok (hsh _ hmem)
      have hw := wok_stA l hl120 i hi
      have hq1 := sq_stA l hl120 hby i hi
      have hnx := stA_next hlt
      have hby1 := hby _ hmem
      generalize stA (l.take i) = M at *
      generalize l[i] = a at *
      have hbf := law_befalls (pad := pad) hw (by omega) a hok
      have hq' := sq_bef hq1 (by omega) a hby1
      have ew1 := addW_one hq1.s0 (show M.t.seq ≤ 1000 by have := hq1.s1; omega)
      have w9 : IntKind.u64.wrap ((a.by_ % 9 : Nat) : Int) = ((a.by_ % 9 : Nat) : Int) := by rw [IntKind.wrap_u64]; omega
      obtain ⟨M', hM'⟩ : ∃ M', befM 3 M a = M' := ⟨_, rfl⟩
      have hMt : M'.t = (befM 3 M a).t := by rw [hM']
      rw [hM'] at hbf hq' hnx
      unfold Ac.av at hbf
      try simp (maxSteps := 1000000) only [seval, mm_0, mm_1, mm_2, mm_0n, mm_1n, mm_2n, q0b, q0a, q0c, q0d, q0e, mm_s0, mm_s1, mm_s2, mm_s3, q09, q06, q08, q07, q0f, q04, q02, q05, q03, Nat.add_assoc, AB.calm, kpX, kpM, ml_z, ml_1, ml_l, ml_r, ml_b, ml_le, ml_0, ml_0k, Nat.one_ne_zero, List.all_cons, List.all_nil, q38, eg, b1]
      refine q2m (kp := kpX 3) (fun b hb => absurd hb (Nat.not_lt_zero b)) (mod_inX hbf rfl ?_ ?_)
      · rfl
      rintro _ _ ⟨rfl, rfl⟩
      refine ⟨rp_bks _, _, rfl, ?_⟩
      have em : Int.tmod (a.d : Int) 3 = ((a.d % 3 : Nat) : Int) := rfl
      have e9 : Int.tmod (a.by_ : Int) 9 = ((a.by_ % 9 : Nat) : Int) := rfl
      unfold befM at hMt
      obtain ⟨q, hq⟩ : ∃ q, a.d % 3 = q := ⟨_, rfl⟩
      have hq3 : q < 3 := by omega
      rw [hq] at em hMt
      rcases (show q = 1 ∨ q = 2 ∨ q = 0 by omega) with rfl | rfl | rfl
      · rw [if_pos rfl] at hMt
        have q0 : ((((1 : Nat) : Int)) == 0) = false := rfl
        have q1 : ((((1 : Nat) : Int)) == 1) = true := rfl
        have hs : M'.t.seq = M.t.seq := by rw [hMt]; rfl
        have hn0 : M'.t.now = addN M.t.now a.by_ := by rw [hMt, ← addW_eq hq1.n0 hq1.n1 (by omega) (by omega)]; rfl
        have z0 := hq1.n0
        have z1 := hq1.n1
        by_cases hA : M.t.now + (a.by_ : Int) < 18446744073709551616
        · obtain ⟨X, hX⟩ : ∃ X, M.t.now + (a.by_ : Int) = X := ⟨_, rfl⟩
          have hx : (if IntKind.u64.wrap (M.t.now + (a.by_ : Int)) > M.t.now then IntKind.u64.wrap (M.t.now + (a.by_ : Int)) else M.t.now) = X := by
            rw [IntKind.wrap_u64]; split <;> omega
          have hd : decide (X < (a.by_ : Int)) = false := decide_eq_false (by omega)
          have hn1 : M'.t.now = X := by rw [hn0, addN, if_pos hA, hX]
          try simp (maxSteps := 1000000) only [seval, mm_0, mm_1, mm_2, mm_0n, mm_1n, mm_2n, q0b, q0a, q0c, q0d, q0e, mm_s0, mm_s1, mm_s2, mm_s3, q09, q06, q08, q07, q0f, q04, q02, q05, q03, Nat.add_assoc, AB.calm, kpX, kpM, ml_z, ml_1, ml_l, ml_r, ml_b, ml_le, ml_0, ml_0k, Nat.one_ne_zero, List.all_cons, List.all_nil, em, q0, q1, hx, hd]
          refine q15 (q1v (q1b 3 pad M') rfl ?_)
          rintro _ _ ⟨rfl, rfl⟩
          refine ⟨rfl, _, rfl, ?_⟩
          cases he : (X == 18446744073709551615)
          · have hn : M'.t.now = X := hn1
            try simp (maxSteps := 1000000) only [seval, mm_0, mm_1, mm_2, mm_0n, mm_1n, mm_2n, q0b, q0a, q0c, q0d, q0e, mm_s0, mm_s1, mm_s2, mm_s3, q09, q06, q08, q07, q0f, q04, q02, q05, q03, Nat.add_assoc, AB.calm, kpX, kpM, ml_z, ml_1, ml_l, ml_r, ml_b, ml_le, ml_0, ml_0k, Nat.one_ne_zero, List.all_cons, List.all_nil, q23, hn, he]
            refine q15 (q1v (q1b 3 pad M') rfl ?_)
            rintro _ _ ⟨rfl, rfl⟩
            refine ⟨rfl, _, rfl, ?_⟩
            try simp (maxSteps := 1000000) only [seval, mm_0, mm_1, mm_2, mm_0n, mm_1n, mm_2n, q0b, q0a, q0c, q0d, q0e, mm_s0, mm_s1, mm_s2, mm_s3, q09, q06, q08, q07, q0f, q04, q02, q05, q03, Nat.add_assoc, AB.calm, kpX, kpM, ml_z, ml_1, ml_l, ml_r, ml_b, ml_le, ml_0, ml_0k, Nat.one_ne_zero, List.all_cons, List.all_nil, q23, hs, hn, bne_self_eq_false]
            refine q15 (q1v (q1b 3 pad M') rfl ?_)
            rintro _ _ ⟨rfl, rfl⟩
            refine ⟨rfl, _, rfl, ?_⟩
            try simp (maxSteps := 1000000) only [seval, mm_0, mm_1, mm_2, mm_0n, mm_1n, mm_2n, q0b, q0a, q0c, q0d, q0e, mm_s0, mm_s1, mm_s2, mm_s3, q09, q06, q08, q07, q0f, q04, q02, q05, q03, Nat.add_assoc, AB.calm, kpX, kpM, ml_z, ml_1, ml_l, ml_r, ml_b, ml_le, ml_0, ml_0k, Nat.one_ne_zero, List.all_cons, List.all_nil, q23, hs, hn, bne_self_eq_false, ew]
            simp only [q0n, St.trunc, St.keep, q00, q01, keepV, ml_n0, q1j, List.drop_zero, List.elem_cons, List.elem_nil, Nat.reduceAdd, Nat.reduceBEq, Nat.le_refl, Nat.zero_add, Bool.false_eq_true, ↓reduceIte]
            exact ⟨i + 1, hlt, by omega, by rw [hnx, hs, hn]⟩
          · have hn : M'.t.now = 18446744073709551615 := by rw [hn1]; simpa using he
            try simp (maxSteps := 1000000) only [seval, mm_0, mm_1, mm_2, mm_0n, mm_1n, mm_2n, q0b, q0a, q0c, q0d, q0e, mm_s0, mm_s1, mm_s2, mm_s3, q09, q06, q08, q07, q0f, q04, q02, q05, q03, Nat.add_assoc, AB.calm, kpX, kpM, ml_z, ml_1, ml_l, ml_r, ml_b, ml_le, ml_0, ml_0k, Nat.one_ne_zero, List.all_cons, List.all_nil, q23, hn, he]
            refine q15 (q1v (q1b 3 pad M') rfl ?_)
            rintro _ _ ⟨rfl, rfl⟩
            refine ⟨rfl, _, rfl, ?_⟩
            try simp (maxSteps := 1000000) only [seval, mm_0, mm_1, mm_2, mm_0n, mm_1n, mm_2n, q0b, q0a, q0c, q0d, q0e, mm_s0, mm_s1, mm_s2, mm_s3, q09, q06, q08, q07, q0f, q04, q02, q05, q03, Nat.add_assoc, AB.calm, kpX, kpM, ml_z, ml_1, ml_l, ml_r, ml_b, ml_le, ml_0, ml_0k, Nat.one_ne_zero, List.all_cons, List.all_nil, q23, hs, hn, bne_self_eq_false]
            refine q15 (q1v (q1b 3 pad M') rfl ?_)
            rintro _ _ ⟨rfl, rfl⟩
            refine ⟨rfl, _, rfl, ?_⟩
            try simp (maxSteps := 1000000) only [seval, mm_0, mm_1, mm_2, mm_0n, mm_1n, mm_2n, q0b, q0a, q0c, q0d, q0e, mm_s0, mm_s1, mm_s2, mm_s3, q09, q06, q08, q07, q0f, q04, q02, q05, q03, Nat.add_assoc, AB.calm, kpX, kpM, ml_z, ml_1, ml_l, ml_r, ml_b, ml_le, ml_0, ml_0k, Nat.one_ne_zero, List.all_cons, List.all_nil, q23, hs, hn, bne_self_eq_false, ew]
            simp only [q0n, St.trunc, St.keep, q00, q01, keepV, ml_n0, q1j, List.drop_zero, List.elem_cons, List.elem_nil, Nat.reduceAdd, Nat.reduceBEq, Nat.le_refl, Nat.zero_add, Bool.false_eq_true, ↓reduceIte]
            exact ⟨i + 1, hlt, by omega, by rw [hnx, hs, hn]⟩
        · have hx : (if IntKind.u64.wrap (M.t.now + (a.by_ : Int)) > M.t.now then IntKind.u64.wrap (M.t.now + (a.by_ : Int)) else M.t.now) = M.t.now := by
            rw [IntKind.wrap_u64]; split <;> omega
          have hn : M'.t.now = 18446744073709551615 := by rw [hn0, addN, if_neg hA]
          cases hd : decide (M.t.now < (a.by_ : Int))
          · try simp (maxSteps := 1000000) only [seval, mm_0, mm_1, mm_2, mm_0n, mm_1n, mm_2n, q0b, q0a, q0c, q0d, q0e, mm_s0, mm_s1, mm_s2, mm_s3, q09, q06, q08, q07, q0f, q04, q02, q05, q03, Nat.add_assoc, AB.calm, kpX, kpM, ml_z, ml_1, ml_l, ml_r, ml_b, ml_le, ml_0, ml_0k, Nat.one_ne_zero, List.all_cons, List.all_nil, em, q0, q1, hx, hd]
            refine q15 (q1v (q1b 3 pad M') rfl ?_)
            rintro _ _ ⟨rfl, rfl⟩
            refine ⟨rfl, _, rfl, ?_⟩
            try simp (maxSteps := 1000000) only [seval, mm_0, mm_1, mm_2, mm_0n, mm_1n, mm_2n, q0b, q0a, q0c, q0d, q0e, mm_s0, mm_s1, mm_s2, mm_s3, q09, q06, q08, q07, q0f, q04, q02, q05, q03, Nat.add_assoc, AB.calm, kpX, kpM, ml_z, ml_1, ml_l, ml_r, ml_b, ml_le, ml_0, ml_0k, Nat.one_ne_zero, List.all_cons, List.all_nil, q23, hn]
            refine q15 (q1v (q1b 3 pad M') rfl ?_)
            rintro _ _ ⟨rfl, rfl⟩
            refine ⟨rfl, _, rfl, ?_⟩
            try simp (maxSteps := 1000000) only [seval, mm_0, mm_1, mm_2, mm_0n, mm_1n, mm_2n, q0b, q0a, q0c, q0d, q0e, mm_s0, mm_s1, mm_s2, mm_s3, q09, q06, q08, q07, q0f, q04, q02, q05, q03, Nat.add_assoc, AB.calm, kpX, kpM, ml_z, ml_1, ml_l, ml_r, ml_b, ml_le, ml_0, ml_0k, Nat.one_ne_zero, List.all_cons, List.all_nil, q23, hs, hn, bne_self_eq_false]
            refine q15 (q1v (q1b 3 pad M') rfl ?_)
            rintro _ _ ⟨rfl, rfl⟩
            refine ⟨rfl, _, rfl, ?_⟩
            try simp (maxSteps := 1000000) only [seval, mm_0, mm_1, mm_2, mm_0n, mm_1n, mm_2n, q0b, q0a, q0c, q0d, q0e, mm_s0, mm_s1, mm_s2, mm_s3, q09, q06, q08, q07, q0f, q04, q02, q05, q03, Nat.add_assoc, AB.calm, kpX, kpM, ml_z, ml_1, ml_l, ml_r, ml_b, ml_le, ml_0, ml_0k, Nat.one_ne_zero, List.all_cons, List.all_nil, q23, hs, hn, bne_self_eq_false, ew]
            simp only [q0n, St.trunc, St.keep, q00, q01, keepV, ml_n0, q1j, List.drop_zero, List.elem_cons, List.elem_nil, Nat.reduceAdd, Nat.reduceBEq, Nat.le_refl, Nat.zero_add, Bool.false_eq_true, ↓reduceIte]
            exact ⟨i + 1, hlt, by omega, by rw [hnx, hs, hn]⟩
          · try simp (maxSteps := 1000000) only [seval, mm_0, mm_1, mm_2, mm_0n, mm_1n, mm_2n, q0b, q0a, q0c, q0d, q0e, mm_s0, mm_s1, mm_s2, mm_s3, q09, q06, q08, q07, q0f, q04, q02, q05, q03, Nat.add_assoc, AB.calm, kpX, kpM, ml_z, ml_1, ml_l, ml_r, ml_b, ml_le, ml_0, ml_0k, Nat.one_ne_zero, List.all_cons, List.all_nil, em, q0, q1, hx, hd]
            refine q15 (q1v (q1b 3 pad M') rfl ?_)
            rintro _ _ ⟨rfl, rfl⟩
            refine ⟨rfl, _, rfl, ?_⟩
            try simp (maxSteps := 1000000) only [seval, mm_0, mm_1, mm_2, mm_0n, mm_1n, mm_2n, q0b, q0a, q0c, q0d, q0e, mm_s0, mm_s1, mm_s2, mm_s3, q09, q06, q08, q07, q0f, q04, q02, q05, q03, Nat.add_assoc, AB.calm, kpX, kpM, ml_z, ml_1, ml_l, ml_r, ml_b, ml_le, ml_0, ml_0k, Nat.one_ne_zero, List.all_cons, List.all_nil, q23, hs, hn, bne_self_eq_false]
            refine q15 (q1v (q1b 3 pad M') rfl ?_)
            rintro _ _ ⟨rfl, rfl⟩
            refine ⟨rfl, _, rfl, ?_⟩
            try simp (maxSteps := 1000000) only [seval, mm_0, mm_1, mm_2, mm_0n, mm_1n, mm_2n, q0b, q0a, q0c, q0d, q0e, mm_s0, mm_s1, mm_s2, mm_s3, q09, q06, q08, q07, q0f, q04, q02, q05, q03, Nat.add_assoc, AB.calm, kpX, kpM, ml_z, ml_1, ml_l, ml_r, ml_b, ml_le, ml_0, ml_0k, Nat.one_ne_zero, List.all_cons, List.all_nil, q23, hs, hn, bne_self_eq_false, ew]
            simp only [q0n, St.trunc, St.keep, q00, q01, keepV, ml_n0, q1j, List.drop_zero, List.elem_cons, List.elem_nil, Nat.reduceAdd, Nat.reduceBEq, Nat.le_refl, Nat.zero_add, Bool.false_eq_true, ↓reduceIte]
            exact ⟨i + 1, hlt, by omega, by rw [hnx, hs, hn]⟩
      · rw [if_neg (by decide), if_pos rfl] at hMt
        have q0 : ((((2 : Nat) : Int)) == 0) = false := rfl
        have q1 : ((((2 : Nat) : Int)) == 1) = false := rfl
        obtain ⟨t1, t2⟩ := sweep_t M (a.by_ % 9)
        have hn : M'.t.now = M.t.now := by rw [hMt]; exact t1
        by_cases h9 : a.by_ % 9 < 3
        · have c3 : decide (((a.by_ % 9 : Nat) : Int) < 3) = true := decide_eq_true (by omega)
          have hs : M'.t.seq = M.t.seq + 1 := by rw [hMt, t2, if_pos h9, ew1.1]
          try simp (maxSteps := 1000000) only [seval, mm_0, mm_1, mm_2, mm_0n, mm_1n, mm_2n, q0b, q0a, q0c, q0d, q0e, mm_s0, mm_s1, mm_s2, mm_s3, q09, q06, q08, q07, q0f, q04, q02, q05, q03, Nat.add_assoc, AB.calm, kpX, kpM, ml_z, ml_1, ml_l, ml_r, ml_b, ml_le, ml_0, ml_0k, Nat.one_ne_zero, List.all_cons, List.all_nil, em, q0, q1, e9, w9, c3, ew1.2]
          refine q15 (q1v (q1b 3 pad M') rfl ?_)
          rintro _ _ ⟨rfl, rfl⟩
          refine ⟨rfl, _, rfl, ?_⟩
          try simp (maxSteps := 1000000) only [seval, mm_0, mm_1, mm_2, mm_0n, mm_1n, mm_2n, q0b, q0a, q0c, q0d, q0e, mm_s0, mm_s1, mm_s2, mm_s3, q09, q06, q08, q07, q0f, q04, q02, q05, q03, Nat.add_assoc, AB.calm, kpX, kpM, ml_z, ml_1, ml_l, ml_r, ml_b, ml_le, ml_0, ml_0k, Nat.one_ne_zero, List.all_cons, List.all_nil, q23, hs, hn, bne_self_eq_false]
          refine q15 (q1v (q1b 3 pad M') rfl ?_)
          rintro _ _ ⟨rfl, rfl⟩
          refine ⟨rfl, _, rfl, ?_⟩
          try simp (maxSteps := 1000000) only [seval, mm_0, mm_1, mm_2, mm_0n, mm_1n, mm_2n, q0b, q0a, q0c, q0d, q0e, mm_s0, mm_s1, mm_s2, mm_s3, q09, q06, q08, q07, q0f, q04, q02, q05, q03, Nat.add_assoc, AB.calm, kpX, kpM, ml_z, ml_1, ml_l, ml_r, ml_b, ml_le, ml_0, ml_0k, Nat.one_ne_zero, List.all_cons, List.all_nil, q23, hs, hn, bne_self_eq_false, ew]
          simp only [q0n, St.trunc, St.keep, q00, q01, keepV, ml_n0, q1j, List.drop_zero, List.elem_cons, List.elem_nil, Nat.reduceAdd, Nat.reduceBEq, Nat.le_refl, Nat.zero_add, Bool.false_eq_true, ↓reduceIte]
          exact ⟨i + 1, hlt, by omega, by rw [hnx, hs, hn]⟩
        · have c3 : decide (((a.by_ % 9 : Nat) : Int) < 3) = false := decide_eq_false (by omega)
          have hs : M'.t.seq = M.t.seq := by rw [hMt, t2, if_neg h9]
          try simp (maxSteps := 1000000) only [seval, mm_0, mm_1, mm_2, mm_0n, mm_1n, mm_2n, q0b, q0a, q0c, q0d, q0e, mm_s0, mm_s1, mm_s2, mm_s3, q09, q06, q08, q07, q0f, q04, q02, q05, q03, Nat.add_assoc, AB.calm, kpX, kpM, ml_z, ml_1, ml_l, ml_r, ml_b, ml_le, ml_0, ml_0k, Nat.one_ne_zero, List.all_cons, List.all_nil, em, q0, q1, e9, w9, c3]
          refine q15 (q1v (q1b 3 pad M') rfl ?_)
          rintro _ _ ⟨rfl, rfl⟩
          refine ⟨rfl, _, rfl, ?_⟩
          try simp (maxSteps := 1000000) only [seval, mm_0, mm_1, mm_2, mm_0n, mm_1n, mm_2n, q0b, q0a, q0c, q0d, q0e, mm_s0, mm_s1, mm_s2, mm_s3, q09, q06, q08, q07, q0f, q04, q02, q05, q03, Nat.add_assoc, AB.calm, kpX, kpM, ml_z, ml_1, ml_l, ml_r, ml_b, ml_le, ml_0, ml_0k, Nat.one_ne_zero, List.all_cons, List.all_nil, q23, hs, hn, bne_self_eq_false]
          refine q15 (q1v (q1b 3 pad M') rfl ?_)
          rintro _ _ ⟨rfl, rfl⟩
          refine ⟨rfl, _, rfl, ?_⟩
          try simp (maxSteps := 1000000) only [seval, mm_0, mm_1, mm_2, mm_0n, mm_1n, mm_2n, q0b, q0a, q0c, q0d, q0e, mm_s0, mm_s1, mm_s2, mm_s3, q09, q06, q08, q07, q0f, q04, q02, q05, q03, Nat.add_assoc, AB.calm, kpX, kpM, ml_z, ml_1, ml_l, ml_r, ml_b, ml_le, ml_0, ml_0k, Nat.one_ne_zero, List.all_cons, List.all_nil, q23, hs, hn, bne_self_eq_false, ew]
          simp only [q0n, St.trunc, St.keep, q00, q01, keepV, ml_n0, q1j, List.drop_zero, List.elem_cons, List.elem_nil, Nat.reduceAdd, Nat.reduceBEq, Nat.le_refl, Nat.zero_add, Bool.false_eq_true, ↓reduceIte]
          exact ⟨i + 1, hlt, by omega, by rw [hnx, hs, hn]⟩
      · rw [if_neg (by decide), if_neg (by decide)] at hMt
        have q0 : ((((0 : Nat) : Int)) == 0) = true := rfl
        obtain ⟨t1, t2⟩ := do_t 3 M a.who a.op
        have hn : M'.t.now = M.t.now := by rw [hMt]; exact t1
        have hsq : M'.t.seq = if cntD a.who a.op = true then M.t.seq + 1 else M.t.seq := by rw [hMt, t2, ew1.1]
        have hB := model_Bad a.op hok.l
        unfold Opb.av at hB
        try simp (maxSteps := 1000000) only [seval, mm_0, mm_1, mm_2, mm_0n, mm_1n, mm_2n, q0b, q0a, q0c, q0d, q0e, mm_s0, mm_s1, mm_s2, mm_s3, q09, q06, q08, q07, q0f, q04, q02, q05, q03, Nat.add_assoc, AB.calm, kpX, kpM, ml_z, ml_1, ml_l, ml_r, ml_b, ml_le, ml_0, ml_0k, Nat.one_ne_zero, List.all_cons, List.all_nil, em, q0]
        (refine q0g hB rfl ?_; rintro _ rfl)
        cases hb : badO a.op
        · by_cases h1 : 0 ≤ a.who
          · have d1 : decide (0 ≤ a.who) = true := decide_eq_true h1
            have d1' : decide (a.who ≥ 0) = true := decide_eq_true h1
            by_cases h2 : a.who < 8
            · have d2 : decide (a.who < 8) = true := decide_eq_true h2
              by_cases h3 : a.op.kind ≤ 3
              · have d3 : decide (a.op.kind ≤ 3) = true := decide_eq_true h3
                have hs : M'.t.seq = M.t.seq + 1 := by rw [hsq, if_pos (by unfold cntD; rw [hb, d1, d2, d3]; rfl)]
                try simp (maxSteps := 1000000) only [seval, mm_0, mm_1, mm_2, mm_0n, mm_1n, mm_2n, q0b, q0a, q0c, q0d, q0e, mm_s0, mm_s1, mm_s2, mm_s3, q09, q06, q08, q07, q0f, q04, q02, q05, q03, Nat.add_assoc, AB.calm, kpX, kpM, ml_z, ml_1, ml_l, ml_r, ml_b, ml_le, ml_0, ml_0k, Nat.one_ne_zero, List.all_cons, List.all_nil, d1, d1', d2, d3, ew1.2]
                refine q15 (q1v (q1b 3 pad M') rfl ?_)
                rintro _ _ ⟨rfl, rfl⟩
                refine ⟨rfl, _, rfl, ?_⟩
                try simp (maxSteps := 1000000) only [seval, mm_0, mm_1, mm_2, mm_0n, mm_1n, mm_2n, q0b, q0a, q0c, q0d, q0e, mm_s0, mm_s1, mm_s2, mm_s3, q09, q06, q08, q07, q0f, q04, q02, q05, q03, Nat.add_assoc, AB.calm, kpX, kpM, ml_z, ml_1, ml_l, ml_r, ml_b, ml_le, ml_0, ml_0k, Nat.one_ne_zero, List.all_cons, List.all_nil, q23, hs, hn, bne_self_eq_false]
                refine q15 (q1v (q1b 3 pad M') rfl ?_)
                rintro _ _ ⟨rfl, rfl⟩
                refine ⟨rfl, _, rfl, ?_⟩
                try simp (maxSteps := 1000000) only [seval, mm_0, mm_1, mm_2, mm_0n, mm_1n, mm_2n, q0b, q0a, q0c, q0d, q0e, mm_s0, mm_s1, mm_s2, mm_s3, q09, q06, q08, q07, q0f, q04, q02, q05, q03, Nat.add_assoc, AB.calm, kpX, kpM, ml_z, ml_1, ml_l, ml_r, ml_b, ml_le, ml_0, ml_0k, Nat.one_ne_zero, List.all_cons, List.all_nil, q23, hs, hn, bne_self_eq_false, ew]
                simp only [q0n, St.trunc, St.keep, q00, q01, keepV, ml_n0, q1j, List.drop_zero, List.elem_cons, List.elem_nil, Nat.reduceAdd, Nat.reduceBEq, Nat.le_refl, Nat.zero_add, Bool.false_eq_true, ↓reduceIte]
                exact ⟨i + 1, hlt, by omega, by rw [hnx, hs, hn]⟩
              · have d3 : decide (a.op.kind ≤ 3) = false := decide_eq_false h3
                have hs : M'.t.seq = M.t.seq := by rw [hsq, if_neg (by unfold cntD; rw [hb, d1, d2, d3]; decide)]
                try simp (maxSteps := 1000000) only [seval, mm_0, mm_1, mm_2, mm_0n, mm_1n, mm_2n, q0b, q0a, q0c, q0d, q0e, mm_s0, mm_s1, mm_s2, mm_s3, q09, q06, q08, q07, q0f, q04, q02, q05, q03, Nat.add_assoc, AB.calm, kpX, kpM, ml_z, ml_1, ml_l, ml_r, ml_b, ml_le, ml_0, ml_0k, Nat.one_ne_zero, List.all_cons, List.all_nil, d1, d1', d2, d3]
                refine q15 (q1v (q1b 3 pad M') rfl ?_)
                rintro _ _ ⟨rfl, rfl⟩
                refine ⟨rfl, _, rfl, ?_⟩
                try simp (maxSteps := 1000000) only [seval, mm_0, mm_1, mm_2, mm_0n, mm_1n, mm_2n, q0b, q0a, q0c, q0d, q0e, mm_s0, mm_s1, mm_s2, mm_s3, q09, q06, q08, q07, q0f, q04, q02, q05, q03, Nat.add_assoc, AB.calm, kpX, kpM, ml_z, ml_1, ml_l, ml_r, ml_b, ml_le, ml_0, ml_0k, Nat.one_ne_zero, List.all_cons, List.all_nil, q23, hs, hn, bne_self_eq_false]
                refine q15 (q1v (q1b 3 pad M') rfl ?_)
                rintro _ _ ⟨rfl, rfl⟩
                refine ⟨rfl, _, rfl, ?_⟩
                try simp (maxSteps := 1000000) only [seval, mm_0, mm_1, mm_2, mm_0n, mm_1n, mm_2n, q0b, q0a, q0c, q0d, q0e, mm_s0, mm_s1, mm_s2, mm_s3, q09, q06, q08, q07, q0f, q04, q02, q05, q03, Nat.add_assoc, AB.calm, kpX, kpM, ml_z, ml_1, ml_l, ml_r, ml_b, ml_le, ml_0, ml_0k, Nat.one_ne_zero, List.all_cons, List.all_nil, q23, hs, hn, bne_self_eq_false, ew]
                simp only [q0n, St.trunc, St.keep, q00, q01, keepV, ml_n0, q1j, List.drop_zero, List.elem_cons, List.elem_nil, Nat.reduceAdd, Nat.reduceBEq, Nat.le_refl, Nat.zero_add, Bool.false_eq_true, ↓reduceIte]
                exact ⟨i + 1, hlt, by omega, by rw [hnx, hs, hn]⟩
            · have d2 : decide (a.who < 8) = false := decide_eq_false h2
              have hs : M'.t.seq = M.t.seq := by rw [hsq, if_neg (by unfold cntD; rw [hb, d1, d2]; simp)]
              try simp (maxSteps := 1000000) only [seval, mm_0, mm_1, mm_2, mm_0n, mm_1n, mm_2n, q0b, q0a, q0c, q0d, q0e, mm_s0, mm_s1, mm_s2, mm_s3, q09, q06, q08, q07, q0f, q04, q02, q05, q03, Nat.add_assoc, AB.calm, kpX, kpM, ml_z, ml_1, ml_l, ml_r, ml_b, ml_le, ml_0, ml_0k, Nat.one_ne_zero, List.all_cons, List.all_nil, d1, d1', d2]
              refine q15 (q1v (q1b 3 pad M') rfl ?_)
              rintro _ _ ⟨rfl, rfl⟩
              refine ⟨rfl, _, rfl, ?_⟩
              try simp (maxSteps := 1000000) only [seval, mm_0, mm_1, mm_2, mm_0n, mm_1n, mm_2n, q0b, q0a, q0c, q0d, q0e, mm_s0, mm_s1, mm_s2, mm_s3, q09, q06, q08, q07, q0f, q04, q02, q05, q03, Nat.add_assoc, AB.calm, kpX, kpM, ml_z, ml_1, ml_l, ml_r, ml_b, ml_le, ml_0, ml_0k, Nat.one_ne_zero, List.all_cons, List.all_nil, q23, hs, hn, bne_self_eq_false]
              refine q15 (q1v (q1b 3 pad M') rfl ?_)
              rintro _ _ ⟨rfl, rfl⟩
              refine ⟨rfl, _, rfl, ?_⟩
              try simp (maxSteps := 1000000) only [seval, mm_0, mm_1, mm_2, mm_0n, mm_1n, mm_2n, q0b, q0a, q0c, q0d, q0e, mm_s0, mm_s1, mm_s2, mm_s3, q09, q06, q08, q07, q0f, q04, q02, q05, q03, Nat.add_assoc, AB.calm, kpX, kpM, ml_z, ml_1, ml_l, ml_r, ml_b, ml_le, ml_0, ml_0k, Nat.one_ne_zero, List.all_cons, List.all_nil, q23, hs, hn, bne_self_eq_false, ew]
              simp only [q0n, St.trunc, St.keep, q00, q01, keepV, ml_n0, q1j, List.drop_zero, List.elem_cons, List.elem_nil, Nat.reduceAdd, Nat.reduceBEq, Nat.le_refl, Nat.zero_add, Bool.false_eq_true, ↓reduceIte]
              exact ⟨i + 1, hlt, by omega, by rw [hnx, hs, hn]⟩
          · have d1 : decide (0 ≤ a.who) = false := decide_eq_false h1
            have d1' : decide (a.who ≥ 0) = false := decide_eq_false h1
            have hs : M'.t.seq = M.t.seq := by rw [hsq, if_neg (by unfold cntD; rw [hb, d1]; simp)]
            try simp (maxSteps := 1000000) only [seval, mm_0, mm_1, mm_2, mm_0n, mm_1n, mm_2n, q0b, q0a, q0c, q0d, q0e, mm_s0, mm_s1, mm_s2, mm_s3, q09, q06, q08, q07, q0f, q04, q02, q05, q03, Nat.add_assoc, AB.calm, kpX, kpM, ml_z, ml_1, ml_l, ml_r, ml_b, ml_le, ml_0, ml_0k, Nat.one_ne_zero, List.all_cons, List.all_nil, d1, d1']
            refine q15 (q1v (q1b 3 pad M') rfl ?_)
            rintro _ _ ⟨rfl, rfl⟩
            refine ⟨rfl, _, rfl, ?_⟩
            try simp (maxSteps := 1000000) only [seval, mm_0, mm_1, mm_2, mm_0n, mm_1n, mm_2n, q0b, q0a, q0c, q0d, q0e, mm_s0, mm_s1, mm_s2, mm_s3, q09, q06, q08, q07, q0f, q04, q02, q05, q03, Nat.add_assoc, AB.calm, kpX, kpM, ml_z, ml_1, ml_l, ml_r, ml_b, ml_le, ml_0, ml_0k, Nat.one_ne_zero, List.all_cons, List.all_nil, q23, hs, hn, bne_self_eq_false]
            refine q15 (q1v (q1b 3 pad M') rfl ?_)
            rintro _ _ ⟨rfl, rfl⟩
            refine ⟨rfl, _, rfl, ?_⟩
            try simp (maxSteps := 1000000) only [seval, mm_0, mm_1, mm_2, mm_0n, mm_1n, mm_2n, q0b, q0a, q0c, q0d, q0e, mm_s0, mm_s1, mm_s2, mm_s3, q09, q06, q08, q07, q0f, q04, q02, q05, q03, Nat.add_assoc, AB.calm, kpX, kpM, ml_z, ml_1, ml_l, ml_r, ml_b, ml_le, ml_0, ml_0k, Nat.one_ne_zero, List.all_cons, List.all_nil, q23, hs, hn, bne_self_eq_false, ew]
            simp only [q0n, St.trunc, St.keep, q00, q01, keepV, ml_n0, q1j, List.drop_zero, List.elem_cons, List.elem_nil, Nat.reduceAdd, Nat.reduceBEq, Nat.le_refl, Nat.zero_add, Bool.false_eq_true, ↓reduceIte]
            exact ⟨i + 1, hlt, by omega, by rw [hnx, hs, hn]⟩
        · have hs : M'.t.seq = M.t.seq := by rw [hsq, if_neg (by unfold cntD; rw [hb]; simp)]
          try simp (maxSteps := 1000000) only [seval, mm_0, mm_1, mm_2, mm_0n, mm_1n, mm_2n, q0b, q0a, q0c, q0d, q0e, mm_s0, mm_s1, mm_s2, mm_s3, q09, q06, q08, q07, q0f, q04, q02, q05, q03, Nat.add_assoc, AB.calm, kpX, kpM, ml_z, ml_1, ml_l, ml_r, ml_b, ml_le, ml_0, ml_0k, Nat.one_ne_zero, List.all_cons, List.all_nil]
          refine q15 (q1v (q1b 3 pad M') rfl ?_)
          rintro _ _ ⟨rfl, rfl⟩
          refine ⟨rfl, _, rfl, ?_⟩
          try simp (maxSteps := 1000000) only [seval, mm_0, mm_1, mm_2, mm_0n, mm_1n, mm_2n, q0b, q0a, q0c, q0d, q0e, mm_s0, mm_s1, mm_s2, mm_s3, q09, q06, q08, q07, q0f, q04, q02, q05, q03, Nat.add_assoc, AB.calm, kpX, kpM, ml_z, ml_1, ml_l, ml_r, ml_b, ml_le, ml_0, ml_0k, Nat.one_ne_zero, List.all_cons, List.all_nil, q23, hs, hn, bne_self_eq_false]
          refine q15 (q1v (q1b 3 pad M') rfl ?_)
          rintro _ _ ⟨rfl, rfl⟩
          refine ⟨rfl, _, rfl, ?_⟩
          try simp (maxSteps := 1000000) only [seval, mm_0, mm_1, mm_2, mm_0n, mm_1n, mm_2n, q0b, q0a, q0c, q0d, q0e, mm_s0, mm_s1, mm_s2, mm_s3, q09, q06, q08, q07, q0f, q04, q02, q05, q03, Nat.add_assoc, AB.calm, kpX, kpM, ml_z, ml_1, ml_l, ml_r, ml_b, ml_le, ml_0, ml_0k, Nat.one_ne_zero, List.all_cons, List.all_nil, q23, hs, hn, bne_self_eq_false, ew]
          simp only [q0n, St.trunc, St.keep, q00, q01, keepV, ml_n0, q1j, List.drop_zero, List.elem_cons, List.elem_nil, Nat.reduceAdd, Nat.reduceBEq, Nat.le_refl, Nat.zero_add, Bool.false_eq_true, ↓reduceIte]
          exact ⟨i + 1, hlt, by omega, by rw [hnx, hs, hn]⟩
    · apply hK
      simp only [Tryz.results7, retK, ares, Bool.and_true, Bool.true_and, AV.ofResults, St.trunc, q00, q01, List.getD_cons_zero, List.getD_cons_succ, List.take_zero, List.map_nil, true_and, and_true, List.cons.injEq, exists_eq_left']
  · try simp (maxSteps := 1000000) only [seval]
    (refine q0g law_awake rfl ?_; rintro _ rfl)
    try simp (maxSteps := 1000000) only [seval]
    apply hK
    simp only [Tryz.results7, retK, ares, List.take_nil, Bool.and_true, Bool.true_and, AV.ofResults, St.trunc, q00, q01, List.getD_cons_zero, List.getD_cons_succ, List.map_nil, true_and, and_true, List.cons.injEq, exists_eq_left']
    try rfl
def shapesModelSeq : List (Bool × List Lf) := [(false, [.sl 10 true [.int .u8, .int .i64, .int .i64, .str, .int .i64, .int .i64, .int .i64, .int .u64, .sl 1 false [.str], .int .u64]])]
theorem shapesModelSeq_ok : argShapes T 6 [29] = some shapesModelSeq := by kernel_rfl
theorem law_ModelSeq (xs : List AV) (h : argsFit shapesModelSeq xs) : PCall P 7 xs (fun x => x = .v (.bool true)) := by
  obtain ⟨_, _, rfl, ⟨_, _, rfl, ⟨ys, rfl, hlen, hys⟩, rfl⟩, rfl⟩ := h
  obtain ⟨l, rfl, hl, hu⟩ := fits_acts hys
  rw [q38] at hlen
  exact law_seq l hlen hu hl
end Go.Proofs.YtdkcpcflfnakdaaGreat
namespace Go.Proofs.YtdkcpcflfnakdaaGreat.modelSeq
open Go.ChangeShapes Go.WideShapes Go.ChangeAt Go.RowKit Go.Proofs.YtdkcpcflfnakdaaGreat.Sym
open Go.ChangeMaps (open_string shut_string)
set_option linter.unusedVariables false
theorem own : ownKnob Tryz.prog.godebug = none := by kernel_rfl
theorem laidOut : laidOutB Tryz.prog = true := by kernel_rfl
set_option maxRecDepth 100000 in
theorem lifted (os : Os) (started : os.Started) (H : Type) (enc : TypeId × Value → H) :
    ReturnsInHanded {} Tryz.checked os 7 .any (Rows.modelSeqSpec.pre6 enc Tryz.prog Tryz.f7 Rows.modelSeqRow.domain false) (Rows.modelSeqSpec.post enc Tryz.prog Tryz.f7 false true false false) := by
  refine returnsInHanded_of_change_sized (C := Tryz.checked) own started (by kernel_rfl) Tryz.func7
    (ChangeSpec.witness6 (enc := enc) (C := Tryz.checked) false ⟨#[], #[.slice none 0 0], []⟩ 8 (by kernel_rfl) (by kernel_rfl) (by kernel_rfl) (by kernel_rfl)) ?_
  intro W base args ds gs before hval0 hW hcnd hsz0 _
  have hval : ∀ (j : Nat) t v, Tryz.f7.params[j]? = some t → args[j]? = some v → Value.okWide Tryz.prog W .any base t v := hval0
  have hW' := hW
  obtain ⟨p, q, hA0, hV, rfl, hfz, hnd⟩ := hW
  have hA : DataW.TrodAll enc Tryz.prog W 0 (fun _ => true) true Tryz.f7.params.toList args.toList ds p := hA0
  have hval2 : ∀ (j : Nat) t v, Tryz.f7.params.toList[j]? = some t → args.toList[j]? = some v → Value.okWide Tryz.prog W .any base t v := fun j t v h1 h2 => hval j t v (by simpa using h1) (by simpa using h2)
  rw [Tryz.params7] at hA hval2
  obtain ⟨xs, hfit, hrel⟩ := open_args tyOk _ _ _ _ _ shapesModelSeq_ok hval2 hA
  obtain ⟨v0, vs0, d0, ds0, p0, q0, hargs, rfl, rfl, h0, r0⟩ := trodAll_cons hA
  obtain ⟨rfl, rfl, rfl⟩ := trodAll_nil r0
  obtain rfl : args = #[v0] := by cases args; simp_all
  obtain ⟨rfl, rfl⟩ := trodVars_none hV
  have k0 := h0
  have lt0 : ∀ x ∈ p0, x.block < W.heap.size := by obtain ⟨m, hm⟩ := k0; exact DataW.trod_lt m _ _ _ hm
  clear hA0 hval0 hsz0 hval hval2
  refine (PCall.calls (law_ModelSeq xs hfit) hrel (GlobOk.none (fun _ => rfl) (fun _ => rfl) (fun _ => rfl))).mono ?_
  rintro e W' ⟨y, x, rfl, rfl, hy, bel⟩
  obtain rfl := hy _ rfl
  exact ⟨_, rfl, _, _, _, [], _, [], hW', trodAll_mk1 (shut_bool Tryz.underlying4 _), (trodAll_cons_mk (Below.trod laidOut (by kernel_rfl) (of_decide_eq_true (by kernel_rfl)) k0 bel lt0) trodAll_mk0), rfl, bel.frame _, fun h => by cases h⟩
theorem over : Rows.modelSeqRow.holds Tryz.pinned (OpenSpec.ofChange Rows.modelSeqSpec) :=
  OpenClaim.holds_of_wide 7 Tryz.f7 rfl rfl rfl rfl rfl rfl rfl ⟨rfl, rfl, rfl, rfl, rfl⟩ rfl rfl rfl rfl rfl (by kernel_rfl) Tryz.func7 (by kernel_rfl)
    (of_decide_eq_true (by kernel_rfl)) (by unfold Func.isWrapper; first | (rw [if_pos (by decide +kernel)]; kernel_rfl) | (rw [if_neg (by decide +kernel)]; exact ⟨rfl, rfl⟩))
    (fun os started H enc _ => lifted os started H enc)
theorem proved : Rows.ModelSeqSaid := over
#print axioms proved
end Go.Proofs.YtdkcpcflfnakdaaGreat.modelSeq
namespace Go.Proofs.YtdkcpcflfnakdaaGreat
theorem modelSeq_holds : Rows.ModelSeqSaid := modelSeq.proved
end Go.Proofs.YtdkcpcflfnakdaaGreat
