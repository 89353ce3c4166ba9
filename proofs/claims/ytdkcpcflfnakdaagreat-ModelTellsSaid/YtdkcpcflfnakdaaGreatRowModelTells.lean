/- The law ModelTells and its row. -/
import Derived.Test.YtdkcpcflfnakdaaGreatMj
import Derived.Test.YtdkcpcflfnakdaaGreatRows
import Derived.Test.YtdkcpcflfnakdaaGreatSymU
namespace Go.Proofs.YtdkcpcflfnakdaaGreat
open Go Go.Proofs.YtdkcpcflfnakdaaGreat.Sym
attribute [-sevalprocAttr] Int.reduceToNat Int.reduceNatCast Int.reduceNatCast' Nat.reduceSubDiff
set_option maxRecDepth 100000
set_option maxHeartbeats 1000000
set_option maxHeartbeats 2000000
set_option linter.unusedSimpArgs false
set_option linter.unusedVariables false

def acNil (a : Ac) : AV := .agg [.v (.int .u8 a.d), i64 a.who, i64 a.op.kind, str a.op.u, i64 a.op.id, i64 a.op.st, i64 a.op.pr, u64 a.op.ttl, .v (.slice none 0 0), u64 a.by_]
theorem befallsNil {n pad B : Nat} {M : Md} (h : WOk n B M) (hB : B + 1 ≤ 900) (a : Ac) (ho : OpOk a.op) (hu : a.op.us = []) : q0s P 3 20 (modM n pad M) [.ptr 0 0, acNil a]
    (fun x m' => x = (befR n M a).av ∧ m' = modM n pad (befM n M a)) := by
  refine q0s.turn (Turns.weak (s := ⟨[.ptr 0 0, acNil a], modM n pad M⟩) (s' := ⟨[.ptr 0 0, a.av], modM n pad M⟩) ⟨_, _, rfl, q1f _, _, _, rfl, ?_, rfl⟩ (weakM_refl _)) (law_befalls h hB a ho)
  unfold Ac.av
  rw [hu]
  exact .inr ⟨_, rfl, _, _, rfl, q1f _, _, _, rfl, q1f _, _, _, rfl, q1f _, _, _, rfl, q1f _, _, _, rfl, q1f _, _, _, rfl, q1f _, _, _, rfl, q1f _, _, _, rfl, q1f _, _, _, rfl, weak_nil 1, _, _, rfl, q1f _, rfl⟩
def tellM0 : Md := (fresh sm).watchF kA 7 annU
theorem tell0 : doM 3 (fresh sm) 7 opW = tellM0 := by
  have hf : fullW 3 (fresh sm) 7 annU = false := by
    unfold fullW
    have h1 : countM (fresh sm) 7 3 = 0 := by rfl
    rw [h1]
    simp [fresh, sm]
  have hi : inB 7 0 7 = true := by decide
  unfold doM
  rw [badW, hi]
  simp only [opW, hf]
  rfl
theorem tel0 : TelOk 7 annU ⟨0, 0, 0⟩ 0 tellM0 := by
  have hm (j : Nat) : (tellM0.f j).m = if j = kA then watchM [] 7 annU else [] := by
    simp only [tellM0, Md.watchF, Md.setF, fresh, freshF]
    split <;> rfl
  have hq (j k : Nat) : (tellM0.f j).q k = ([], false) := by
    simp only [tellM0, Md.watchF, Md.setF, fresh, freshF]
    split <;> rfl
  have wn (u : ByteArray) : watF [] 7 u = false := by
    have := bits_zero 7 (by decide)
    have e : maskOf [] u = 0 := rfl
    rw [watF, e]
    exact this
  refine ⟨fun j u => ?_, fun j _ => hq j 7, ?_⟩
  · rw [hm]
    show watF _ 7 u = _
    by_cases e : j = kA
    · rw [if_pos e, wat_watch msk_nil, wn, e]
      simp [cli, kA]
    · have : ¬ (j = stN 3 annU ∧ u = annU) := fun h => e h.1
      rw [if_neg e, wn, decide_eq_false this]
  · rw [hq]
    exact .inr ⟨rfl, Int.le_refl _⟩
def polA (a : Ac) : Ac := { a with op := opP }
theorem bef_pol {M : Md} {a : Ac} (h7 : a.who = 7) (hd : a.d % 3 = 0) : befM 3 M (polA a) = doM 3 M 7 opP ∧ befR 3 M (polA a) = doR 3 M 7 opP := by
  unfold befM befR
  have e : (polA a).d = a.d := rfl
  have e2 : (polA a).who = a.who := rfl
  have e3 : (polA a).op = opP := rfl
  rw [e, e2, e3, h7]
  exact ⟨by rw [if_neg (by omega), if_neg (by omega)], by rw [if_neg (by omega), if_neg (by omega)]⟩
structure TlOk (i : Nat) (t : Pr) (s : Int) (M : Md) : Prop where
  w : WOk 3 (i + 1) M
  t : TelOk 7 annU t s M
  s0 : 0 ≤ M.t.seq
  s9 : M.t.seq ≤ i
theorem tl_next {i : Nat} {t : Pr} {s : Int} {M : Md} (h : TlOk i t s M) (hi : i < 120) (a : Ac) (hp : a.who ≠ 7 ∨ a.d % 3 ≠ 0) : TlOk (i + 1) t s (befM 3 M a) := by
  have h0 := h.s0
  have h9 := h.s9
  have hs := seq_bef h.w h0 (by omega) a
  exact ⟨wok_bef h.w (by omega) a, tel_bef (by decide) h.w h.t h0 (by omega) a hp, by omega, by omega⟩
theorem tl_poll {i : Nat} {t : Pr} {s : Int} {M : Md} (h : TlOk i t s M) (hi : i < 120) : ∃ q lo, doR 3 M 7 opP = ⟨0, none, some q, lo⟩ ∧ (lo = true ∨ (lo = false ∧ q.length ≤ 1000 ∧ (∃ t' hi, chainE annU t s q t' hi) ∧ TlOk (i + 1) (endT t q) (endS s q) (doM 3 M 7 opP))) := by
  have h0 := h.s0
  have h9 := h.s9
  have hs := seq_do h.w h0 (by omega) 7 opP
  obtain ⟨q, lo, hr, hh⟩ := tel_poll (k := 7) (by decide) h.t
  refine ⟨q, lo, hr, hh.imp _root_.id ?_⟩
  rintro ⟨h1, h2, h3⟩
  refine ⟨h1, ?_, h2, wok_do h.w (by omega) 7 opP, h3, by omega, by omega⟩
  have hk : badP = badP := rfl
  have e1 : doR 3 M 7 opP = ⟨0, none, some (mergeF (rowsW M 7 3)), lostW M 7 3⟩ := by
    unfold doR
    rw [badP, show inB 7 0 7 = true by decide]
    rfl
  have e2 : doR 3 M ((7 : Nat) : Int) opP = doR 3 M 7 opP := rfl
  rw [e2, e1] at hr
  have : q = mergeF (rowsW M 7 3) := by
    have := congrArg Rp.evs hr
    exact (Option.some.inj this).symm
  rw [this, merge_len _ _ rfl]
  have hq := h.w.ok.q
  have e3 : total (rowsW M 7 3) = ((M.f 0).q 7).1.length + (((M.f 1).q 7).1.length + (((M.f 2).q 7).1.length + 0)) := rfl
  rw [e3]
  have := hq 0 7
  have := hq 1 7
  have := hq 2 7
  omega

theorem law_tells (l : List Ac) (hl : l.length ≤ maxLen) (hu : ∀ a ∈ l, a.op.us.length ≤ maxLen) :
    PCall P 4 [.sl 10 (acts l)] (fun x => x = bool true) := by
  have hL := law_long l hl hu
  refine q0r tyOk Tryz.func4 rfl rfl ?_
  intro K hK
  simp only [Tryz.ntmps4, List.length_cons, List.length_nil, Nat.reduceAdd, Nat.reduceSub, List.replicate, List.cons_append, List.nil_append]
  try simp (maxSteps := 1000000) only [seval]
  (refine q07 law_awake rfl ?_; rintro _ rfl)
  try simp (maxSteps := 1000000) only [seval]
  (refine q07 hL rfl ?_; rintro _ rfl)
  cases hlg : (decide (120 < l.length) || longA l)
  · rw [Bool.or_eq_false_iff] at hlg
    have hl120 : l.length ≤ 120 := by have := of_decide_eq_false hlg.1; omega
    have hsh : ∀ a ∈ l, shortO a.op = true := fun a ha => by
      have := List.any_eq_false.1 hlg.2 a ha
      cases h : shortO a.op with | true => rfl | false => rw [h] at this; exact absurd rfl this
    try simp (maxSteps := 1000000) only [seval]
    (refine q07 law_Small rfl ?_; rintro _ rfl)
    try simp (maxSteps := 1000000) only [seval]
    have h0 : WOk 3 0 (fresh sm) := wok_fresh rfl (by decide) (by decide) (by decide)
    refine q30 ((model_New sm 3 rfl (by decide) (by decide) (by rfl)).mono ?_)
    rintro _ _ ⟨rfl, pad, rfl⟩
    try simp (maxSteps := 1000000) only [seval, mm_0, mm_1, mm_2, mm_0n, mm_1n, mm_2n, q0d, q0b, q0e, q0f, q0i, mm_s0, mm_s1, mm_s2, mm_s3, q0a, q06, q08, q09, q0j, q04, q02, q05, q03, Nat.add_assoc, AB.calm, kpX, kpM, ml_z, ml_1, ml_l, ml_r, ml_b, ml_le, ml_0, ml_0k, Nat.one_ne_zero, List.all_cons, List.all_nil]
    rw [← List.append_nil (modM 3 pad (fresh sm))]
    refine q2i (kp := kpX 3) (fun b hb => absurd hb (Nat.not_lt_zero b)) ((Do_nil h0 (by decide) 7 opW (by constructor <;> first | decide | simp [opW]) rfl [] rfl).mono ?_)
    rintro _ _ ⟨rfl, rfl⟩
    have h1 := wok_do h0 (by decide) 7 opW
    rw [tell0] at h1 ⊢
    try simp (maxSteps := 1000000) only [seval, mm_0, mm_1, mm_2, mm_0n, mm_1n, mm_2n, q0d, q0b, q0e, q0f, q0i, mm_s0, mm_s1, mm_s2, mm_s3, q0a, q06, q08, q09, q0j, q04, q02, q05, q03, Nat.add_assoc, AB.calm, kpX, kpM, ml_z, ml_1, ml_l, ml_r, ml_b, ml_le, ml_0, ml_0k, Nat.one_ne_zero, List.all_cons, List.all_nil]
    refine q1h tyOk (α := Nat × Pr × Int × Md) (mlen 3 + 1) [0, 2, 3, 5, 6, 7] (fun x => x.1 ≤ l.length ∧ TlOk x.1 x.2.1 x.2.2.1 x.2.2.2)
      (fun x => ⟨[.sl 10 (acts l), .any, bool false, .ptr 0 0, .any, .ptr (mlen 3) 0, u64 x.2.2.1, i64 x.1, .any, .any, .any, .any, .any, .any, .any, .any, .any, .any, .any, .any, .any, .any, .any, .any, .any, .any, .any, .any, .any, .any, .any, .any, .any, .any, .any, .any, .any, .any, .any, .any, .any, .any, .any, .any, .any, .any, .any, .any, .any, .any, .any, .any, .any, .any, .any, .any, .any, .any, .any, .any, .any, .any, .any, .any, .any, .any, .any, .any, .any, .any, .any, .any, .any, .any, .any, .any, .any, .any, .any, .any, .any, .any, .any, .any, .any, .any, .any, .any, .any, .any, .any, .any, .any, .any, .any, .any, .any, .any, .any, .any, .any, .any, .any, .any, .any, .any], modM 3 pad x.2.2.2 ++ [.box [i64 x.2.1.st, i64 x.2.1.pr, i64 x.2.1.n]]⟩)
      (fun x => l.length - x.1) (0, ⟨0, 0, 0⟩, 0, tellM0) (by simp) ⟨Nat.zero_le _, h1, tel0, Int.le_refl _, Int.le_refl _⟩ ?_ ?_
    · simp only [St.trunc, St.keep, q00, q01, AB.trunc, keepV, ml_k0, ml_kl0, mm_rn1, Nat.reduceLeDiff, List.elem_cons, List.elem_nil, List.take_succ_cons, List.take_zero, List.map_cons, List.map_nil, Nat.reduceAdd, Nat.reduceBEq, Nat.zero_add, Bool.false_eq_true, ↓reduceIte]
      rfl
    rintro ⟨i, t, s, M⟩ ⟨hi, hA⟩
    simp only at hi hA
    try simp (maxSteps := 1000000) only [seval, mm_0, mm_1, mm_2, mm_0n, mm_1n, mm_2n, q0d, q0b, q0e, q0f, q0i, mm_s0, mm_s1, mm_s2, mm_s3, q0a, q06, q08, q09, q0j, q04, q02, q05, q03, Nat.add_assoc, AB.calm, kpX, kpM, ml_z, ml_1, ml_l, ml_r, ml_b, ml_le, ml_0, ml_0k, Nat.one_ne_zero, List.all_cons, List.all_nil, q41]
    (first | refine q0g ?_ ?_ | refine q0k ?_ ?_ | refine q0l ?_ ?_ | refine q0m ?_ ?_ | refine q0h ?_ ?_) <;> intro hf
    · have hlt : i < l.length := by simpa using hf
      have eg := acts_get hlt
      have ew : IntKind.i64.wrap ((i : Int) + 1) = ((i + 1 : Nat) : Int) := by rw [wrap_i64 (by omega) (by omega)]; rfl
      have b1 : (0 : Int) ≤ (i : Int) ∧ Int.toNat (i : Int) < l.length := by omega
      have hok := short_ok (hsh _ (List.getElem_mem hlt))
      generalize l[i] = a at *
      have hw := hA.w
      have em : Int.tmod (a.d : Int) 3 = ((a.d % 3 : Nat) : Int) := rfl
      by_cases h7 : a.who = 7
      · have w1 : (a.who == 7) = true := beq_iff_eq.2 h7
        have wn : (a.who != 7) = false := by rw [bne, w1]; rfl
        by_cases hd : a.d % 3 = 0
        · rw [hd] at em
          have n0 : ((((0 : Nat) : Int)) == 0) = true := rfl
          have n1 : ((((0 : Nat) : Int)) != 0) = false := rfl
          obtain ⟨q, lo, hR, hT⟩ := tl_poll hA (by omega)
          obtain ⟨e1, e2⟩ := bef_pol (M := M) h7 hd
          have hbf := befallsNil (pad := pad) hw (by omega) (polA a) ⟨Nat.zero_le _, Nat.zero_le _, fun u hu => by cases hu⟩ rfl
          rw [e1, e2, hR] at hbf
          obtain ⟨M', hM'⟩ : ∃ M', doM 3 M 7 opP = M' := ⟨_, rfl⟩
          rw [hM'] at hbf hT
          unfold acNil at hbf
          simp only [polA, opP] at hbf
          try simp (maxSteps := 1000000) only [seval, mm_0, mm_1, mm_2, mm_0n, mm_1n, mm_2n, q0d, q0b, q0e, q0f, q0i, mm_s0, mm_s1, mm_s2, mm_s3, q0a, q06, q08, q09, q0j, q04, q02, q05, q03, Nat.add_assoc, AB.calm, kpX, kpM, ml_z, ml_1, ml_l, ml_r, ml_b, ml_le, ml_0, ml_0k, Nat.one_ne_zero, List.all_cons, List.all_nil, q41, eg, b1, w1, wn, em, n0, n1]
          refine q2i (kp := kpX 3) (fun b hb => absurd hb (Nat.not_lt_zero b)) (mod_inX hbf rfl ?_ ?_)
          · rfl
          rintro _ _ ⟨rfl, rfl⟩
          refine ⟨rp_bks _, _, rfl, ?_⟩
          rcases hT with rfl | ⟨rfl, hql, ⟨t', hh, hch⟩, hnx⟩
          · try simp (maxSteps := 1000000) only [seval, mm_0, mm_1, mm_2, mm_0n, mm_1n, mm_2n, q0d, q0b, q0e, q0f, q0i, mm_s0, mm_s1, mm_s2, mm_s3, q0a, q06, q08, q09, q0j, q04, q02, q05, q03, Nat.add_assoc, AB.calm, kpX, kpM, ml_z, ml_1, ml_l, ml_r, ml_b, ml_le, ml_0, ml_0k, Nat.one_ne_zero, List.all_cons, List.all_nil, Rp.av, slO, Option.map, w1, wn, em, n0, n1]
            apply hK
            simp only [Tryz.results4, retK, ares, Bool.and_true, Bool.true_and, AV.ofResults, St.trunc, q00, q01, List.getD_cons_zero, List.getD_cons_succ, List.take_zero, List.map_nil, true_and, and_true, List.cons.injEq, exists_eq_left']
            try rfl
          · try simp (maxSteps := 1000000) only [seval, mm_0, mm_1, mm_2, mm_0n, mm_1n, mm_2n, q0d, q0b, q0e, q0f, q0i, mm_s0, mm_s1, mm_s2, mm_s3, q0a, q06, q08, q09, q0j, q04, q02, q05, q03, Nat.add_assoc, AB.calm, kpX, kpM, ml_z, ml_1, ml_l, ml_r, ml_b, ml_le, ml_0, ml_0k, Nat.one_ne_zero, List.all_cons, List.all_nil, Rp.av, slO, Option.map, w1, wn, em, n0, n1]
            refine q1h tyOk (α := Nat) (mlen 3 + 3) [0, 2, 3, 5, 6, 7, 8, 9, 10] (fun j => j ≤ q.length)
              (fun j => ⟨[.sl 10 (acts l), .any, bool false, .ptr 0 0, .any, .ptr (mlen 3) 0, u64 (endS s (q.take j)), i64 i, .ptr (mlen 3 + 1) 0, .ptr (mlen 3 + 2) 0, i64 j, .any, .any, .any, .any, .any, .any, .any, .any, .any, .any, .any, .any, .any, .any, .any, .any, .any, .any, .any, .any, .any, .any, .any, .any, .any, .any, .any, .any, .any, .any, .any, .any, .any, .any, .any, .any, .any, .any, .any, .any, .any, .any, .any, .any, .any, .any, .any, .any, .any, .any, .any, .any, .any, .any, .any, .any, .any, .any, .any, .any, .any, .any, .any, .any, .any, .any, .any, .any, .any, .any, .any, .any, .any, .any, .any, .any, .any, .any, .any, .any, .any, .any, .any, .any, .any, .any, .any, .any, .any, .any, .any, .any, .any, .any, .any], modM 3 pad M' ++ [.box [i64 (endT t (q.take j)).st, i64 (endT t (q.take j)).pr, i64 (endT t (q.take j)).n], .box [.v (.int .u8 a.d), i64 a.who, i64 8, str ByteArray.empty, i64 0, i64 0, i64 0, u64 0, .v (.slice none 0 0), u64 a.by_], .box [i64 0, .v (.slice none 0 0), .sl 8 (evts q), bool false]]⟩)
              (fun j => q.length - j) 0 (by simp) (Nat.zero_le _) ?_ ?_
            · simp only [St.trunc, St.keep, q00, q01, AB.trunc, keepV, ml_k0, ml_kl, ml_kl0, mm_rn3, Nat.reduceLeDiff, List.elem_cons, List.elem_nil, List.take_succ_cons, List.take_zero, List.map_cons, List.map_nil, Nat.reduceAdd, Nat.reduceBEq, Nat.zero_add, Bool.false_eq_true, ↓reduceIte]
              rfl
            intro j hj
            try simp (maxSteps := 1000000) only [seval, mm_0, mm_1, mm_2, mm_0n, mm_1n, mm_2n, q0d, q0b, q0e, q0f, q0i, mm_s0, mm_s1, mm_s2, mm_s3, q0a, q06, q08, q09, q0j, q04, q02, q05, q03, Nat.add_assoc, AB.calm, kpX, kpM, ml_z, ml_1, ml_l, ml_r, ml_b, ml_le, ml_0, ml_0k, Nat.one_ne_zero, List.all_cons, List.all_nil, q38]
            (first | refine q0g ?_ ?_ | refine q0k ?_ ?_ | refine q0l ?_ ?_ | refine q0m ?_ ?_ | refine q0h ?_ ?_) <;> intro hf2
            · have hlt2 : j < q.length := by simpa using hf2
              obtain ⟨c1, c2, c3, c4, c5, c6⟩ := chain_step hch j hlt2
              have eg2 := ev_at (r := q) (k := j) (e := q[j]) hlt2 (fun _ => rfl)
              have ew2 : IntKind.i64.wrap ((j : Int) + 1) = ((j + 1 : Nat) : Int) := by rw [wrap_i64 (by omega) (by omega)]; rfl
              have b2 : (0 : Int) ≤ (j : Int) ∧ Int.toNat (j : Int) < q.length := by omega
              generalize endT t (q.take j) = t1 at *
              generalize endS s (q.take j) = s1 at *
              generalize q[j] = e at *
              obtain ⟨u, ⟨o1, o2, o3⟩, ⟨w1', w2', w3'⟩, sq⟩ := e
              simp only at c1 c2 c3 c4 c5 c6 eg2
              subst c1
              subst c2
              have d1 : decide (sq ≤ s1) = false := decide_eq_false (by omega)
              have d2 : (o1 == w1' && (o2 == w2' && o3 == w3')) = false := by
                cases hb : (o1 == w1' && (o2 == w2' && o3 == w3')) with
                | false => rfl
                | true =>
                  simp only [Bool.and_eq_true, beq_iff_eq] at hb
                  exact absurd (by rw [hb.1, hb.2.1, hb.2.2]) c3
              try simp (maxSteps := 1000000) only [seval, mm_0, mm_1, mm_2, mm_0n, mm_1n, mm_2n, q0d, q0b, q0e, q0f, q0i, mm_s0, mm_s1, mm_s2, mm_s3, q0a, q06, q08, q09, q0j, q04, q02, q05, q03, Nat.add_assoc, AB.calm, kpX, kpM, ml_z, ml_1, ml_l, ml_r, ml_b, ml_le, ml_0, ml_0k, Nat.one_ne_zero, List.all_cons, List.all_nil, eg2, b2, q38, d1, d2]
              refine q0w tyOk (by rfl) (by simp only [q09, List.length_cons, List.length_nil, mlen]; omega) (by kernel_rfl) rfl ?_
              try simp (maxSteps := 1000000) only [seval, mm_0, mm_1, mm_2, mm_0n, mm_1n, mm_2n, q0d, q0b, q0e, q0f, q0i, mm_s0, mm_s1, mm_s2, mm_s3, q0a, q06, q08, q09, q0j, q04, q02, q05, q03, Nat.add_assoc, AB.calm, kpX, kpM, ml_z, ml_1, ml_l, ml_r, ml_b, ml_le, ml_0, ml_0k, Nat.one_ne_zero, List.all_cons, List.all_nil]
              refine ⟨by kernel_rfl, ?_⟩
              try simp (maxSteps := 1000000) only [seval, mm_0, mm_1, mm_2, mm_0n, mm_1n, mm_2n, q0d, q0b, q0e, q0f, q0i, mm_s0, mm_s1, mm_s2, mm_s3, q0a, q06, q08, q09, q0j, q04, q02, q05, q03, Nat.add_assoc, AB.calm, kpX, kpM, ml_z, ml_1, ml_l, ml_r, ml_b, ml_le, ml_0, ml_0k, Nat.one_ne_zero, List.all_cons, List.all_nil, ew2]
              simp only [q0p, St.trunc, St.keep, q00, q01, AB.trunc, keepV, ml_k0, ml_kl, ml_kl0, mm_rn3, Nat.reduceLeDiff, List.drop_zero, List.elem_cons, List.elem_nil, List.take_succ_cons, List.take_zero, List.map_cons, List.map_nil, Nat.reduceAdd, Nat.reduceBEq, Nat.le_refl, Nat.zero_add, Bool.false_eq_true, ↓reduceIte]
              exact ⟨j + 1, hlt2, by omega, by rw [c5, c6]⟩
            · obtain rfl : j = q.length := by have := of_decide_eq_false hf2; omega
              rw [List.take_length]
              try simp (maxSteps := 1000000) only [seval, mm_0, mm_1, mm_2, mm_0n, mm_1n, mm_2n, q0d, q0b, q0e, q0f, q0i, mm_s0, mm_s1, mm_s2, mm_s3, q0a, q06, q08, q09, q0j, q04, q02, q05, q03, Nat.add_assoc, AB.calm, kpX, kpM, ml_z, ml_1, ml_l, ml_r, ml_b, ml_le, ml_0, ml_0k, Nat.one_ne_zero, List.all_cons, List.all_nil, ew]
              simp only [q0p, St.trunc, St.keep, q00, q01, AB.trunc, keepV, ml_k0, ml_kl, ml_kl0, mm_rn1, Nat.reduceLeDiff, List.drop_zero, List.elem_cons, List.elem_nil, List.take_succ_cons, List.take_zero, List.map_cons, List.map_nil, Nat.reduceAdd, Nat.reduceBEq, Nat.le_refl, Nat.zero_add, Bool.false_eq_true, ↓reduceIte]
              exact ⟨(i + 1, endT t q, endS s q, M'), ⟨hlt, hnx⟩, by simp only; omega, rfl⟩
        · obtain ⟨d, hd'⟩ : ∃ d, a.d % 3 = d := ⟨_, rfl⟩
          rw [hd'] at em hd
          have n0 : (((d : Nat) : Int) == 0) = false := by rw [beq_eq_false_iff_ne]; omega
          have n1 : (((d : Nat) : Int) != 0) = true := by rw [bne, n0]; rfl
          have hnx := tl_next hA (by omega) a (.inr (by omega))
          have hbf := law_befalls (pad := pad) hw (by omega) a hok
          unfold Ac.av at hbf
          try simp (maxSteps := 1000000) only [seval, mm_0, mm_1, mm_2, mm_0n, mm_1n, mm_2n, q0d, q0b, q0e, q0f, q0i, mm_s0, mm_s1, mm_s2, mm_s3, q0a, q06, q08, q09, q0j, q04, q02, q05, q03, Nat.add_assoc, AB.calm, kpX, kpM, ml_z, ml_1, ml_l, ml_r, ml_b, ml_le, ml_0, ml_0k, Nat.one_ne_zero, List.all_cons, List.all_nil, q41, eg, b1, w1, wn, em, n0, n1]
          refine q2i (kp := kpX 3) (fun b hb => absurd hb (Nat.not_lt_zero b)) (mod_inX hbf rfl ?_ ?_)
          · rfl
          rintro _ _ ⟨rfl, rfl⟩
          refine ⟨rp_bks _, _, rfl, ?_⟩
          generalize befR 3 M a = R
          cases R with
          | mk e v ev lo =>
            cases v <;> cases ev
            all_goals
              try simp (maxSteps := 1000000) only [seval, mm_0, mm_1, mm_2, mm_0n, mm_1n, mm_2n, q0d, q0b, q0e, q0f, q0i, mm_s0, mm_s1, mm_s2, mm_s3, q0a, q06, q08, q09, q0j, q04, q02, q05, q03, Nat.add_assoc, AB.calm, kpX, kpM, ml_z, ml_1, ml_l, ml_r, ml_b, ml_le, ml_0, ml_0k, Nat.one_ne_zero, List.all_cons, List.all_nil, Rp.av, slO, Option.map, w1, wn, em, n0, n1, ew]
              simp only [q0p, St.trunc, St.keep, q00, q01, AB.trunc, keepV, ml_k0, ml_kl, ml_kl0, mm_rn1, Nat.reduceLeDiff, List.drop_zero, List.elem_cons, List.elem_nil, List.take_succ_cons, List.take_zero, List.map_cons, List.map_nil, Nat.reduceAdd, Nat.reduceBEq, Nat.le_refl, Nat.zero_add, Bool.false_eq_true, ↓reduceIte]
              exact ⟨(i + 1, t, s, befM 3 M a), ⟨hlt, hnx⟩, by simp only; omega, rfl⟩
      · have w1 : (a.who == 7) = false := beq_eq_false_iff_ne.2 h7
        have wn : (a.who != 7) = true := by rw [bne, w1]; rfl
        have hnx := tl_next hA (by omega) a (.inl h7)
        have n0 := em
        have n1 := em
        have hbf := law_befalls (pad := pad) hw (by omega) a hok
        unfold Ac.av at hbf
        try simp (maxSteps := 1000000) only [seval, mm_0, mm_1, mm_2, mm_0n, mm_1n, mm_2n, q0d, q0b, q0e, q0f, q0i, mm_s0, mm_s1, mm_s2, mm_s3, q0a, q06, q08, q09, q0j, q04, q02, q05, q03, Nat.add_assoc, AB.calm, kpX, kpM, ml_z, ml_1, ml_l, ml_r, ml_b, ml_le, ml_0, ml_0k, Nat.one_ne_zero, List.all_cons, List.all_nil, q41, eg, b1, w1, wn, em, n0, n1]
        refine q2i (kp := kpX 3) (fun b hb => absurd hb (Nat.not_lt_zero b)) (mod_inX hbf rfl ?_ ?_)
        · rfl
        rintro _ _ ⟨rfl, rfl⟩
        refine ⟨rp_bks _, _, rfl, ?_⟩
        generalize befR 3 M a = R
        cases R with
        | mk e v ev lo =>
          cases v <;> cases ev
          all_goals
            try simp (maxSteps := 1000000) only [seval, mm_0, mm_1, mm_2, mm_0n, mm_1n, mm_2n, q0d, q0b, q0e, q0f, q0i, mm_s0, mm_s1, mm_s2, mm_s3, q0a, q06, q08, q09, q0j, q04, q02, q05, q03, Nat.add_assoc, AB.calm, kpX, kpM, ml_z, ml_1, ml_l, ml_r, ml_b, ml_le, ml_0, ml_0k, Nat.one_ne_zero, List.all_cons, List.all_nil, Rp.av, slO, Option.map, w1, wn, em, n0, n1, ew]
            simp only [q0p, St.trunc, St.keep, q00, q01, AB.trunc, keepV, ml_k0, ml_kl, ml_kl0, mm_rn1, Nat.reduceLeDiff, List.drop_zero, List.elem_cons, List.elem_nil, List.take_succ_cons, List.take_zero, List.map_cons, List.map_nil, Nat.reduceAdd, Nat.reduceBEq, Nat.le_refl, Nat.zero_add, Bool.false_eq_true, ↓reduceIte]
            exact ⟨(i + 1, t, s, befM 3 M a), ⟨hlt, hnx⟩, by simp only; omega, rfl⟩
    · try simp (maxSteps := 1000000) only [seval, mm_0, mm_1, mm_2, mm_0n, mm_1n, mm_2n, q0d, q0b, q0e, q0f, q0i, mm_s0, mm_s1, mm_s2, mm_s3, q0a, q06, q08, q09, q0j, q04, q02, q05, q03, Nat.add_assoc, AB.calm, kpX, kpM, ml_z, ml_1, ml_l, ml_r, ml_b, ml_le, ml_0, ml_0k, Nat.one_ne_zero, List.all_cons, List.all_nil]
      apply hK
      simp only [Tryz.results4, retK, ares, Bool.and_true, Bool.true_and, AV.ofResults, St.trunc, q00, q01, List.getD_cons_zero, List.getD_cons_succ, List.take_zero, List.map_nil, true_and, and_true, List.cons.injEq, exists_eq_left']
      try rfl
  · try simp (maxSteps := 1000000) only [seval]
    (refine q07 law_awake rfl ?_; rintro _ rfl)
    try simp (maxSteps := 1000000) only [seval]
    apply hK
    simp only [Tryz.results4, retK, ares, List.take_nil, Bool.and_true, Bool.true_and, AV.ofResults, St.trunc, q00, q01, List.getD_cons_zero, List.getD_cons_succ, List.map_nil, true_and, and_true, List.cons.injEq, exists_eq_left']
    try rfl
def shapesModelTells : List (Bool × List Lf) := [(false, [.sl 10 true [.int .u8, .int .i64, .int .i64, .str, .int .i64, .int .i64, .int .i64, .int .u64, .sl 1 false [.str], .int .u64]])]
theorem shapesModelTells_ok : argShapes T 6 [29] = some shapesModelTells := by kernel_rfl
theorem law_ModelTells (xs : List AV) (h : argsFit shapesModelTells xs) : PCall P 4 xs (fun x => x = .v (.bool true)) := by
  obtain ⟨_, _, rfl, ⟨_, _, rfl, ⟨ys, rfl, hlen, hys⟩, rfl⟩, rfl⟩ := h
  obtain ⟨l, rfl, hl, hu⟩ := fits_acts hys
  rw [q41] at hlen
  exact law_tells l hlen hu
end Go.Proofs.YtdkcpcflfnakdaaGreat
namespace Go.Proofs.YtdkcpcflfnakdaaGreat.modelTells
open Go.ChangeShapes Go.WideShapes Go.ChangeAt Go.RowKit Go.Proofs.YtdkcpcflfnakdaaGreat.Sym
open Go.ChangeMaps (open_string shut_string)
set_option linter.unusedVariables false
theorem own : ownKnob Tryz.prog.godebug = none := by kernel_rfl
theorem laidOut : laidOutB Tryz.prog = true := by kernel_rfl
set_option maxRecDepth 100000 in
theorem lifted (os : Os) (started : os.Started) (H : Type) (enc : TypeId × Value → H) :
    ReturnsInHanded {} Tryz.checked os 4 .any (Rows.modelTellsSpec.pre6 enc Tryz.prog Tryz.f4 Rows.modelTellsRow.domain false) (Rows.modelTellsSpec.post enc Tryz.prog Tryz.f4 false true false false) := by
  refine returnsInHanded_of_change_sized (C := Tryz.checked) own started (by kernel_rfl) Tryz.func4
    (ChangeSpec.witness6 (enc := enc) (C := Tryz.checked) false ⟨#[], #[.slice none 0 0], []⟩ 8 (by kernel_rfl) (by kernel_rfl) (by kernel_rfl) (by kernel_rfl)) ?_
  intro W base args ds gs before hval0 hW hcnd hsz0 _
  have hval : ∀ (j : Nat) t v, Tryz.f4.params[j]? = some t → args[j]? = some v → Value.okWide Tryz.prog W .any base t v := hval0
  have hW' := hW
  obtain ⟨p, q, hA0, hV, rfl, hfz, hnd⟩ := hW
  have hA : DataW.TrodAll enc Tryz.prog W 0 (fun _ => true) true Tryz.f4.params.toList args.toList ds p := hA0
  have hval2 : ∀ (j : Nat) t v, Tryz.f4.params.toList[j]? = some t → args.toList[j]? = some v → Value.okWide Tryz.prog W .any base t v := fun j t v h1 h2 => hval j t v (by simpa using h1) (by simpa using h2)
  rw [Tryz.params4] at hA hval2
  obtain ⟨xs, hfit, hrel⟩ := open_args tyOk _ _ _ _ _ shapesModelTells_ok hval2 hA
  obtain ⟨v0, vs0, d0, ds0, p0, q0, hargs, rfl, rfl, h0, r0⟩ := trodAll_cons hA
  obtain ⟨rfl, rfl, rfl⟩ := trodAll_nil r0
  obtain rfl : args = #[v0] := by cases args; simp_all
  obtain ⟨rfl, rfl⟩ := trodVars_none hV
  have k0 := h0
  have lt0 : ∀ x ∈ p0, x.block < W.heap.size := by obtain ⟨m, hm⟩ := k0; exact DataW.trod_lt m _ _ _ hm
  clear hA0 hval0 hsz0 hval hval2
  refine (PCall.calls (law_ModelTells xs hfit) hrel (GlobOk.none (fun _ => rfl) (fun _ => rfl) (fun _ => rfl))).mono ?_
  rintro e W' ⟨y, x, rfl, rfl, hy, bel⟩
  obtain rfl := hy _ rfl
  exact ⟨_, rfl, _, _, _, [], _, [], hW', trodAll_mk1 (shut_bool Tryz.underlying4 _), (trodAll_cons_mk (Below.trod laidOut (by kernel_rfl) (of_decide_eq_true (by kernel_rfl)) k0 bel lt0) trodAll_mk0), rfl, bel.frame _, fun h => by cases h⟩
theorem over : Rows.modelTellsRow.holds Tryz.pinned (OpenSpec.ofChange Rows.modelTellsSpec) :=
  OpenClaim.holds_of_wide 4 Tryz.f4 rfl rfl rfl rfl rfl rfl rfl ⟨rfl, rfl, rfl, rfl, rfl⟩ rfl rfl rfl rfl rfl (by kernel_rfl) Tryz.func4 (by kernel_rfl)
    (of_decide_eq_true (by kernel_rfl)) (by unfold Func.isWrapper; first | (rw [if_pos (by decide +kernel)]; kernel_rfl) | (rw [if_neg (by decide +kernel)]; exact ⟨rfl, rfl⟩))
    (fun os started H enc _ => lifted os started H enc)
theorem proved : Rows.ModelTellsSaid := over
#print axioms proved
end Go.Proofs.YtdkcpcflfnakdaaGreat.modelTells
namespace Go.Proofs.YtdkcpcflfnakdaaGreat
theorem modelTells_holds : Rows.ModelTellsSaid := modelTells.proved
end Go.Proofs.YtdkcpcflfnakdaaGreat
