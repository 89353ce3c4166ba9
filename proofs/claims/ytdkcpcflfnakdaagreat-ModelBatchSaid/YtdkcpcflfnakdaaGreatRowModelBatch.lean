/- The law ModelBatch and its row. -/
import Derived.Test.YtdkcpcflfnakdaaGreatMh
import Derived.Test.YtdkcpcflfnakdaaGreatRows
import Derived.Test.YtdkcpcflfnakdaaGreatSymU
namespace Go.Proofs.YtdkcpcflfnakdaaGreat
open Go Go.Proofs.YtdkcpcflfnakdaaGreat.Sym
attribute [-sevalprocAttr] Int.reduceToNat Int.reduceNatCast Int.reduceNatCast' Nat.reduceSubDiff
set_option maxRecDepth 100000
set_option maxHeartbeats 1000000
set_option maxHeartbeats 2000000
set_option linter.unusedSimpArgs false
set_option linter.unusedVariables false

def opB (us : List ByteArray) : Opb := ⟨5, ⟨#[]⟩, 0, 0, 0, 0, us⟩
def opQ (u : ByteArray) : Opb := ⟨4, u, 0, 0, 0, 0, []⟩
theorem rep_B {M : Md} {us : List ByteArray} {who : Int} (hcl : M.t.cl = false) (hb : badO (opB us) = false) (hi : inB who 0 7 = true) : doR 3 M who (opB us) = ⟨0, some (us.map (presOf 3 M)), none, false⟩ ∧ doM 3 M who (opB us) = M := by
  unfold doR doM
  rw [hb, hi, hcl]
  exact ⟨rfl, rfl⟩
theorem rep_Q {M : Md} {u : ByteArray} {who : Int} (hcl : M.t.cl = false) (hb : nameB u = true) (hi : inB who 0 7 = true) : doR 3 M who (opQ u) = ⟨0, some [presOf 3 M u], none, false⟩ ∧ doM 3 M who (opQ u) = M := by
  have hb' : badO (opQ u) = false := by
    have e : badO (opQ u) = !nameB u := rfl
    rw [e, hb]; rfl
  unfold doR doM
  rw [hb', hi, hcl]
  exact ⟨rfl, rfl⟩
theorem names_B {us : List ByteArray} (h : badO (opB us) = false) : ∀ u ∈ us, nameB u = true := by
  have e : badO (opB us) = (badN us || !inB us.length 1 8) := rfl
  rw [e, Bool.or_eq_false_iff] at h
  intro u hu
  have := List.any_eq_false.1 h.1 u hu
  cases hn : nameB u with | true => rfl | false => rw [hn] at this; exact absurd rfl this
theorem prs_at {f : ByteArray → Pr} {us : List ByteArray} {i : Nat} (h : i < us.length) : (prs (us.map f)).getD (Int.toNat (i : Int)) .any = .agg [i64 (f us[i]).st, i64 (f us[i]).pr, i64 (f us[i]).n] := by
  rw [Int.toNat_natCast]; simp [prs, List.getD, h, Pr.av]
theorem prs_len (l : List Pr) : (prs l).length = l.length := by simp [prs]
theorem law_batch (l : List Ac) (us : List ByteArray) (who : Nat) (hl : l.length ≤ maxLen) (hu : ∀ a ∈ l, a.op.us.length ≤ maxLen) (hus : us.length ≤ maxLen) (hwho : who ≤ 255) :
    PCall P 6 [.sl 10 (acts l), .sl 1 (strs us), .v (.int .u8 who)] (fun x => x = bool true) := by
  have hL := law_long l hl hu
  refine q0r tyOk Tryz.func6 rfl rfl ?_
  intro K hK
  simp only [Tryz.ntmps6, List.length_cons, List.length_nil, Nat.reduceAdd, Nat.reduceSub, List.replicate, List.cons_append, List.nil_append]
  try simp (maxSteps := 1000000) only [seval]
  (refine q0g law_awake rfl ?_; rintro _ rfl)
  try simp (maxSteps := 1000000) only [seval]
  (refine q0g hL rfl ?_; rintro _ rfl)
  cases hlg : (decide (120 < l.length) || longA l)
  · rw [Bool.or_eq_false_iff] at hlg
    have hl120 : l.length ≤ 120 := by have := of_decide_eq_false hlg.1; omega
    have hsh : ∀ a ∈ l, shortO a.op = true := fun a ha => by
      have := List.any_eq_false.1 hlg.2 a ha
      cases h : shortO a.op with | true => rfl | false => rw [h] at this; exact absurd rfl this
    by_cases h8 : 8 < us.length
    · have c1 : decide ((8 : Int) < (us.length : Int)) = true := decide_eq_true (by omega)
      have c1' : decide ((us.length : Int) > (8 : Int)) = true := decide_eq_true (by omega)
      try simp (maxSteps := 1000000) only [seval, c1, c1', List.length_map]
      (refine q0g law_awake rfl ?_; rintro _ rfl)
      try simp (maxSteps := 1000000) only [seval]
      apply hK
      simp only [Tryz.results6, retK, ares, List.take_nil, Bool.and_true, Bool.true_and, AV.ofResults, St.trunc, q00, q01, List.getD_cons_zero, List.getD_cons_succ, List.map_nil, true_and, and_true, List.cons.injEq, exists_eq_left']
      try rfl
    · have c1 : decide ((8 : Int) < (us.length : Int)) = false := decide_eq_false (by omega)
      have c1' : decide ((us.length : Int) > (8 : Int)) = false := decide_eq_false (by omega)
      try simp (maxSteps := 1000000) only [seval, c1, c1', List.length_map]
      (refine q0g law_Small rfl ?_; rintro _ rfl)
      try simp (maxSteps := 1000000) only [seval]
      have h0 : WOk 3 0 (fresh sm) := wok_fresh rfl (by decide) (by decide) (by decide)
      refine q15 ((model_New sm 3 rfl (by decide) (by decide) (by rfl)).mono ?_)
      rintro _ _ ⟨rfl, pad, rfl⟩
      try simp (maxSteps := 1000000) only [seval, mm_0, mm_1, mm_2, mm_0n, mm_1n, mm_2n, q0b, q0a, q0c, q0d, q0e, mm_s0, mm_s1, mm_s2, mm_s3, q09, q06, q08, q07, q0f, q04, q02, q05, q03, Nat.add_assoc, AB.calm, kpX, kpM, ml_z, ml_1, ml_l, ml_r, ml_b, ml_le, ml_0, ml_0k, Nat.one_ne_zero, List.all_cons, List.all_nil]
      refine q1f tyOk (α := Nat) (mlen 3) [0, 1, 2, 7, 9] (fun i => i ≤ l.length)
        (fun i => ⟨[.sl 10 (acts l), .sl 1 (strs us), .v (.int .u8 who), .any, .any, .any, .any, .ptr 0 0, .any, i64 i, .any, .any, .any, .any, .any, .any, .any, .any, .any, .any, .any, .any, .any, .any, .any, .any, .any, .any, .any, .any, .any, .any, .any, .any, .any, .any, .any, .any, .any, .any, .any, .any, .any, .any, .any, .any, .any, .any, .any, .any, .any, .any, .any, .any, .any, .any, .any, .any, .any, .any, .any, .any, .any, .any, .any, .any, .any, .any, .any, .any, .any, .any, .any, .any, .any, .any, .any, .any, .any, .any, .any, .any, .any, .any, .any, .any, .any, .any, .any, .any, .any, .any, .any, .any, .any, .any, .any, .any, .any, .any, .any, .any, .any, .any, .any, .any, .any, .any, .any, .any, .any, .any, .any, .any, .any, .any, .any, .any, .any, .any, .any, .any, .any, .any, .any, .any], modM 3 pad (runM (fresh sm) (l.take i))⟩)
        (fun i => l.length - i) 0 (by simp) (Nat.zero_le _) ?_ ?_
      · simp only [St.trunc, St.keep, q00, q01, keepV, ml_n0, q32, List.elem_cons, List.elem_nil, List.take_zero, Nat.reduceAdd, Nat.reduceBEq, Nat.zero_add, Bool.false_eq_true, ↓reduceIte]
        rfl
      intro i hi
      try simp (maxSteps := 1000000) only [seval, mm_0, mm_1, mm_2, mm_0n, mm_1n, mm_2n, q0b, q0a, q0c, q0d, q0e, mm_s0, mm_s1, mm_s2, mm_s3, q09, q06, q08, q07, q0f, q04, q02, q05, q03, Nat.add_assoc, AB.calm, kpX, kpM, ml_z, ml_1, ml_l, ml_r, ml_b, ml_le, ml_0, ml_0k, Nat.one_ne_zero, List.all_cons, List.all_nil, q38]
      (first | refine q0j ?_ ?_ | refine q0k ?_ ?_ | refine q0l ?_ ?_ | refine q0m ?_ ?_ | refine q0i ?_ ?_) <;> intro hf <;> try simp (maxSteps := 1000000) only [seval, mm_0, mm_1, mm_2, mm_0n, mm_1n, mm_2n, q0b, q0a, q0c, q0d, q0e, mm_s0, mm_s1, mm_s2, mm_s3, q09, q06, q08, q07, q0f, q04, q02, q05, q03, Nat.add_assoc, AB.calm, kpX, kpM, ml_z, ml_1, ml_l, ml_r, ml_b, ml_le, ml_0, ml_0k, Nat.one_ne_zero, List.all_cons, List.all_nil]
      · have hlt : i < l.length := by simpa using hf
        have eg := acts_get hlt
        have ew : IntKind.i64.wrap ((i : Int) + 1) = ((i + 1 : Nat) : Int) := by rw [wrap_i64 (by omega) (by omega)]; rfl
        have b1 : (0 : Int) ≤ (i : Int) ∧ Int.toNat (i : Int) < l.length := by omega
        have hw := wok_run h0 l (by omega) i hi
        have hnx := runM_next (M := fresh sm) hlt
        have hbf := law_befalls (pad := pad) hw (by omega) l[i] (short_ok (hsh _ (List.getElem_mem hlt)))
        unfold Ac.av at hbf
        try simp (maxSteps := 1000000) only [seval, mm_0, mm_1, mm_2, mm_0n, mm_1n, mm_2n, q0b, q0a, q0c, q0d, q0e, mm_s0, mm_s1, mm_s2, mm_s3, q09, q06, q08, q07, q0f, q04, q02, q05, q03, Nat.add_assoc, AB.calm, kpX, kpM, ml_z, ml_1, ml_l, ml_r, ml_b, ml_le, ml_0, ml_0k, Nat.one_ne_zero, List.all_cons, List.all_nil, q38, eg, b1]
        rw [← List.append_nil (modM 3 pad (runM (fresh sm) (l.take i)))]
        refine q2m (kp := kpX 3) (fun b hb => absurd hb (Nat.not_lt_zero b)) (mod_inX hbf rfl ?_ ?_)
        · rfl
        rintro _ _ ⟨rfl, rfl⟩
        refine ⟨rp_bks _, _, rfl, ?_⟩
        try simp (maxSteps := 1000000) only [seval, mm_0, mm_1, mm_2, mm_0n, mm_1n, mm_2n, q0b, q0a, q0c, q0d, q0e, mm_s0, mm_s1, mm_s2, mm_s3, q09, q06, q08, q07, q0f, q04, q02, q05, q03, Nat.add_assoc, AB.calm, kpX, kpM, ml_z, ml_1, ml_l, ml_r, ml_b, ml_le, ml_0, ml_0k, Nat.one_ne_zero, List.all_cons, List.all_nil, ew]
        simp only [q0n, St.trunc, St.keep, q00, q01, keepV, ml_n0, q32, List.elem_cons, List.elem_nil, Nat.reduceAdd, Nat.reduceBEq, Nat.zero_add, Bool.false_eq_true, ↓reduceIte]
        exact ⟨i + 1, hlt, by omega, by rw [hnx]⟩
      · obtain rfl : i = l.length := by have := of_decide_eq_false hf; omega
        rw [List.take_length]
        have hw := wok_run h0 l (by omega) l.length (Nat.le_refl _)
        rw [List.take_length] at hw
        generalize runM (fresh sm) l = M at *
        have hS := law_Short (opB us) hus
        unfold Opb.av at hS
        simp only [opB] at hS
        (refine q0g hS rfl ?_; rintro _ rfl)
        cases hs : shortO (opB us)
        · simp only [opB] at hs
          try simp (maxSteps := 1000000) only [seval, mm_0, mm_1, mm_2, mm_0n, mm_1n, mm_2n, q0b, q0a, q0c, q0d, q0e, mm_s0, mm_s1, mm_s2, mm_s3, q09, q06, q08, q07, q0f, q04, q02, q05, q03, Nat.add_assoc, AB.calm, kpX, kpM, ml_z, ml_1, ml_l, ml_r, ml_b, ml_le, ml_0, ml_0k, Nat.one_ne_zero, List.all_cons, List.all_nil, hs]
          apply hK
          simp only [Tryz.results6, retK, ares, Bool.and_true, Bool.true_and, AV.ofResults, St.trunc, q00, q01, List.getD_cons_zero, List.getD_cons_succ, List.take_zero, List.map_nil, true_and, and_true, List.cons.injEq, exists_eq_left']
          try rfl
        · have hok := short_ok hs
          have hsz : ∀ u ∈ us, u.size ≤ 1000 := hok.us
          have hs' := hs
          simp only [opB] at hs'
          have hB := model_Bad (opB us) hok.l
          unfold Opb.av at hB
          simp only [opB] at hB
          try simp (maxSteps := 1000000) only [seval, mm_0, mm_1, mm_2, mm_0n, mm_1n, mm_2n, q0b, q0a, q0c, q0d, q0e, mm_s0, mm_s1, mm_s2, mm_s3, q09, q06, q08, q07, q0f, q04, q02, q05, q03, Nat.add_assoc, AB.calm, kpX, kpM, ml_z, ml_1, ml_l, ml_r, ml_b, ml_le, ml_0, ml_0k, Nat.one_ne_zero, List.all_cons, List.all_nil, hs']
          (refine q0g hB rfl ?_; rintro _ rfl)
          cases hb : badO (opB us)
          · have hb' := hb
            simp only [opB] at hb'
            try simp (maxSteps := 1000000) only [seval, mm_0, mm_1, mm_2, mm_0n, mm_1n, mm_2n, q0b, q0a, q0c, q0d, q0e, mm_s0, mm_s1, mm_s2, mm_s3, q09, q06, q08, q07, q0f, q04, q02, q05, q03, Nat.add_assoc, AB.calm, kpX, kpM, ml_z, ml_1, ml_l, ml_r, ml_b, ml_le, ml_0, ml_0k, Nat.one_ne_zero, List.all_cons, List.all_nil, hb']
            refine q15 (q1v (q1b 3 pad M) rfl ?_)
            rintro _ _ ⟨rfl, rfl⟩
            refine ⟨rfl, _, rfl, ?_⟩
            cases hcl : M.t.cl
            · have hi07 : inB ((who % 8 : Nat) : Int) 0 7 = true := by
                unfold inB
                rw [decide_eq_true (by omega), decide_eq_true (by omega)]; rfl
              have ewh : IntKind.i64.wrap (who : Int) = (who : Int) := wrap_i64 (by omega) (by omega)
              have emh : Int.tmod (who : Int) 8 = ((who % 8 : Nat) : Int) := rfl
              obtain ⟨r1, r2⟩ := rep_B hcl hb hi07
              have hDo := Do_in (pad := pad) hw (by omega) ((who % 8 : Nat) : Int) (opB us) hok [.box [i64 5, str ⟨#[]⟩, i64 0, i64 0, i64 0, u64 0, .sl 1 (us.map fun x => str x)]] rfl
              rw [r1, r2] at hDo
              unfold Opb.av at hDo
              simp only [opB] at hDo
              try simp (maxSteps := 1000000) only [seval, mm_0, mm_1, mm_2, mm_0n, mm_1n, mm_2n, q0b, q0a, q0c, q0d, q0e, mm_s0, mm_s1, mm_s2, mm_s3, q09, q06, q08, q07, q0f, q04, q02, q05, q03, Nat.add_assoc, AB.calm, kpX, kpM, ml_z, ml_1, ml_l, ml_r, ml_b, ml_le, ml_0, ml_0k, Nat.one_ne_zero, List.all_cons, List.all_nil, q23, hcl, ewh, emh]
              refine q2m (kp := kpX 3) (fun b hb => absurd hb (Nat.not_lt_zero b)) (hDo.mono ?_)
              rintro _ _ ⟨rfl, rfl⟩
              try simp (maxSteps := 1000000) only [seval, mm_0, mm_1, mm_2, mm_0n, mm_1n, mm_2n, q0b, q0a, q0c, q0d, q0e, mm_s0, mm_s1, mm_s2, mm_s3, q09, q06, q08, q07, q0f, q04, q02, q05, q03, Nat.add_assoc, AB.calm, kpX, kpM, ml_z, ml_1, ml_l, ml_r, ml_b, ml_le, ml_0, ml_0k, Nat.one_ne_zero, List.all_cons, List.all_nil, Rp.av, slO, Option.map, prs_len, List.length_map, bne_self_eq_false]
              refine q1f tyOk (α := Nat) (mlen 3 + 2) [1, 2, 7, 11, 12] (fun i => i ≤ us.length)
                (fun i => ⟨[.any, .sl 1 (strs us), .v (.int .u8 who), .any, .any, .any, .any, .ptr 0 0, .any, .any, .any, .ptr (mlen 3 + 1) 0, i64 i, .any, .any, .any, .any, .any, .any, .any, .any, .any, .any, .any, .any, .any, .any, .any, .any, .any, .any, .any, .any, .any, .any, .any, .any, .any, .any, .any, .any, .any, .any, .any, .any, .any, .any, .any, .any, .any, .any, .any, .any, .any, .any, .any, .any, .any, .any, .any, .any, .any, .any, .any, .any, .any, .any, .any, .any, .any, .any, .any, .any, .any, .any, .any, .any, .any, .any, .any, .any, .any, .any, .any, .any, .any, .any, .any, .any, .any, .any, .any, .any, .any, .any, .any, .any, .any, .any, .any, .any, .any, .any, .any, .any, .any, .any, .any, .any, .any, .any, .any, .any, .any, .any, .any, .any, .any, .any, .any, .any, .any, .any, .any, .any, .any], modM 3 pad M ++ [.box [i64 5, str ⟨#[]⟩, i64 0, i64 0, i64 0, u64 0, .sl 1 (us.map fun x => str x)], .box [i64 0, .sl 3 (prs (us.map (presOf 3 M))), .v (.slice none 0 0), bool false]]⟩)
                (fun i => us.length - i) 0 (by simp) (Nat.zero_le _) ?_ ?_
              · simp only [St.trunc, St.keep, q00, q01, AB.trunc, keepV, ml_k0, ml_kl, ml_kl0, mm_rn2, Nat.reduceLeDiff, List.elem_cons, List.elem_nil, List.take_succ_cons, List.take_zero, List.map_cons, List.map_nil, Nat.reduceAdd, Nat.reduceBEq, Nat.zero_add, Bool.false_eq_true, ↓reduceIte]
                rfl
              intro i hi
              try simp (maxSteps := 1000000) only [seval, mm_0, mm_1, mm_2, mm_0n, mm_1n, mm_2n, q0b, q0a, q0c, q0d, q0e, mm_s0, mm_s1, mm_s2, mm_s3, q09, q06, q08, q07, q0f, q04, q02, q05, q03, Nat.add_assoc, AB.calm, kpX, kpM, ml_z, ml_1, ml_l, ml_r, ml_b, ml_le, ml_0, ml_0k, Nat.one_ne_zero, List.all_cons, List.all_nil, List.length_map]
              (first | refine q0j ?_ ?_ | refine q0k ?_ ?_ | refine q0l ?_ ?_ | refine q0m ?_ ?_ | refine q0i ?_ ?_) <;> intro hf <;> try simp (maxSteps := 1000000) only [seval, mm_0, mm_1, mm_2, mm_0n, mm_1n, mm_2n, q0b, q0a, q0c, q0d, q0e, mm_s0, mm_s1, mm_s2, mm_s3, q09, q06, q08, q07, q0f, q04, q02, q05, q03, Nat.add_assoc, AB.calm, kpX, kpM, ml_z, ml_1, ml_l, ml_r, ml_b, ml_le, ml_0, ml_0k, Nat.one_ne_zero, List.all_cons, List.all_nil]
              · have hlt : i < us.length := by simpa using hf
                have eg : (us.map fun x => str x).getD (Int.toNat (i : Int)) .any = str us[i] := by
                  simp [List.getD_eq_getElem?_getD, hlt]
                have ew : IntKind.i64.wrap ((i : Int) + 1) = ((i + 1 : Nat) : Int) := by rw [wrap_i64 (by omega) (by omega)]; rfl
                have b1 : (0 : Int) ≤ (i : Int) ∧ Int.toNat (i : Int) < us.length := by omega
                have hmem := List.getElem_mem hlt
                have pa := prs_at (f := presOf 3 M) hlt
                have hsz1 := hsz _ hmem
                obtain ⟨s1, s2⟩ := rep_Q hcl (names_B hb _ hmem) hi07
                have hDq := Do_nil (pad := pad) hw (by omega) ((who % 8 : Nat) : Int) (opQ us[i]) ⟨hsz1, by simp [opQ], by simp [opQ]⟩ rfl [.box [i64 5, str ⟨#[]⟩, i64 0, i64 0, i64 0, u64 0, .sl 1 (us.map fun x => str x)], .box [i64 0, .sl 3 (prs (us.map (presOf 3 M))), .v (.slice none 0 0), bool false]] rfl
                rw [s1, s2] at hDq
                unfold opNil at hDq
                simp only [opQ] at hDq
                have ep : prs [presOf 3 M us[i]] = [.agg [i64 (presOf 3 M us[i]).st, i64 (presOf 3 M us[i]).pr, i64 (presOf 3 M us[i]).n]] := rfl
                have z1 : ((((1 : Nat) : Int)) != 1) = false := rfl
                try simp (maxSteps := 1000000) only [seval, mm_0, mm_1, mm_2, mm_0n, mm_1n, mm_2n, q0b, q0a, q0c, q0d, q0e, mm_s0, mm_s1, mm_s2, mm_s3, q09, q06, q08, q07, q0f, q04, q02, q05, q03, Nat.add_assoc, AB.calm, kpX, kpM, ml_z, ml_1, ml_l, ml_r, ml_b, ml_le, ml_0, ml_0k, Nat.one_ne_zero, List.all_cons, List.all_nil, eg, b1, List.length_map, ewh, emh]
                refine q2m (kp := kpX 3) (fun b hb => absurd hb (Nat.not_lt_zero b)) (hDq.mono ?_)
                rintro _ _ ⟨rfl, rfl⟩
                try simp (maxSteps := 1000000) only [seval, mm_0, mm_1, mm_2, mm_0n, mm_1n, mm_2n, q0b, q0a, q0c, q0d, q0e, mm_s0, mm_s1, mm_s2, mm_s3, q09, q06, q08, q07, q0f, q04, q02, q05, q03, Nat.add_assoc, AB.calm, kpX, kpM, ml_z, ml_1, ml_l, ml_r, ml_b, ml_le, ml_0, ml_0k, Nat.one_ne_zero, List.all_cons, List.all_nil, Rp.av, slO, Option.map, ep]
                refine q0u tyOk (by rfl) (by simp only [q07, List.length_cons, List.length_nil, mlen]; omega) (by kernel_rfl) rfl ?_
                try simp (maxSteps := 1000000) only [seval, mm_0, mm_1, mm_2, mm_0n, mm_1n, mm_2n, q0b, q0a, q0c, q0d, q0e, mm_s0, mm_s1, mm_s2, mm_s3, q09, q06, q08, q07, q0f, q04, q02, q05, q03, Nat.add_assoc, AB.calm, kpX, kpM, ml_z, ml_1, ml_l, ml_r, ml_b, ml_le, ml_0, ml_0k, Nat.one_ne_zero, List.all_cons, List.all_nil, ep, z1, Int.toNat_zero, Nat.zero_lt_one, Nat.zero_lt_succ, prs_len, List.length_map, b1, pa, eg, bne_self_eq_false]
                refine q3j (Presence_in (pad := pad) hw.ok us[i] (by omega) _) (by rfl) ?_
                try simp (maxSteps := 1000000) only [seval, mm_0, mm_1, mm_2, mm_0n, mm_1n, mm_2n, q0b, q0a, q0c, q0d, q0e, mm_s0, mm_s1, mm_s2, mm_s3, q09, q06, q08, q07, q0f, q04, q02, q05, q03, Nat.add_assoc, AB.calm, kpX, kpM, ml_z, ml_1, ml_l, ml_r, ml_b, ml_le, ml_0, ml_0k, Nat.one_ne_zero, List.all_cons, List.all_nil, Pr.av, prs_len, List.length_map, b1, pa, bne_self_eq_false]
                refine ⟨by kernel_rfl, ?_⟩
                try simp (maxSteps := 1000000) only [seval, mm_0, mm_1, mm_2, mm_0n, mm_1n, mm_2n, q0b, q0a, q0c, q0d, q0e, mm_s0, mm_s1, mm_s2, mm_s3, q09, q06, q08, q07, q0f, q04, q02, q05, q03, Nat.add_assoc, AB.calm, kpX, kpM, ml_z, ml_1, ml_l, ml_r, ml_b, ml_le, ml_0, ml_0k, Nat.one_ne_zero, List.all_cons, List.all_nil, ew]
                simp only [q0n, St.trunc, St.keep, q00, q01, AB.trunc, keepV, ml_k0, ml_kl, mm_rn2, Nat.reduceLeDiff, List.drop_zero, List.elem_cons, List.elem_nil, List.take_succ_cons, List.take_zero, List.map_cons, List.map_nil, Nat.reduceAdd, Nat.reduceBEq, Nat.le_refl, Nat.zero_add, Bool.false_eq_true, ↓reduceIte]
                exact ⟨i + 1, hlt, by omega, rfl⟩
              · apply hK
                simp only [Tryz.results6, retK, ares, Bool.and_true, Bool.true_and, AV.ofResults, St.trunc, q00, q01, List.getD_cons_zero, List.getD_cons_succ, List.take_zero, List.map_nil, true_and, and_true, List.cons.injEq, exists_eq_left']
                try rfl
            · try simp (maxSteps := 1000000) only [seval, mm_0, mm_1, mm_2, mm_0n, mm_1n, mm_2n, q0b, q0a, q0c, q0d, q0e, mm_s0, mm_s1, mm_s2, mm_s3, q09, q06, q08, q07, q0f, q04, q02, q05, q03, Nat.add_assoc, AB.calm, kpX, kpM, ml_z, ml_1, ml_l, ml_r, ml_b, ml_le, ml_0, ml_0k, Nat.one_ne_zero, List.all_cons, List.all_nil, q23, hcl]
              apply hK
              simp only [Tryz.results6, retK, ares, Bool.and_true, Bool.true_and, AV.ofResults, St.trunc, q00, q01, List.getD_cons_zero, List.getD_cons_succ, List.take_zero, List.map_nil, true_and, and_true, List.cons.injEq, exists_eq_left']
              try rfl
          · have hb' := hb
            simp only [opB] at hb'
            try simp (maxSteps := 1000000) only [seval, mm_0, mm_1, mm_2, mm_0n, mm_1n, mm_2n, q0b, q0a, q0c, q0d, q0e, mm_s0, mm_s1, mm_s2, mm_s3, q09, q06, q08, q07, q0f, q04, q02, q05, q03, Nat.add_assoc, AB.calm, kpX, kpM, ml_z, ml_1, ml_l, ml_r, ml_b, ml_le, ml_0, ml_0k, Nat.one_ne_zero, List.all_cons, List.all_nil, hb']
            apply hK
            simp only [Tryz.results6, retK, ares, Bool.and_true, Bool.true_and, AV.ofResults, St.trunc, q00, q01, List.getD_cons_zero, List.getD_cons_succ, List.take_zero, List.map_nil, true_and, and_true, List.cons.injEq, exists_eq_left']
            try rfl
  · try simp (maxSteps := 1000000) only [seval]
    (refine q0g law_awake rfl ?_; rintro _ rfl)
    try simp (maxSteps := 1000000) only [seval]
    apply hK
    simp only [Tryz.results6, retK, ares, List.take_nil, Bool.and_true, Bool.true_and, AV.ofResults, St.trunc, q00, q01, List.getD_cons_zero, List.getD_cons_succ, List.map_nil, true_and, and_true, List.cons.injEq, exists_eq_left']
    try rfl
def shapesModelBatch : List (Bool × List Lf) := [(false, [.sl 10 true [.int .u8, .int .i64, .int .i64, .str, .int .i64, .int .i64, .int .i64, .int .u64, .sl 1 false [.str], .int .u64]]), (false, [.sl 1 false [.str]]), (false, [.int .u8])]
theorem shapesModelBatch_ok : argShapes T 6 [29, 23, 5] = some shapesModelBatch := by kernel_rfl
theorem law_ModelBatch (xs : List AV) (h : argsFit shapesModelBatch xs) : PCall P 6 xs (fun x => x = .v (.bool true)) := by
  obtain ⟨_, _, rfl, ⟨_, _, rfl, ⟨ys, rfl, hlen, hys⟩, rfl⟩, _, _, rfl, ⟨_, _, rfl, ⟨zs, rfl, hlen2, hzs⟩, rfl⟩, _, _, rfl, ⟨_, _, rfl, ⟨who, rfl, hw⟩, rfl⟩, rfl⟩ := h
  obtain ⟨l, rfl, hl, hu⟩ := fits_acts hys
  obtain ⟨us, rfl⟩ := fits_strs hzs
  have hw' : 0 ≤ who ∧ who ≤ 255 := by simpa [Lit.wf, IntKind.min, IntKind.max, IntKind.signed, IntKind.bits] using hw
  obtain ⟨who, rfl⟩ : ∃ m : Nat, who = m := ⟨who.toNat, by omega⟩
  rw [q38] at hlen
  rw [List.length_map] at hlen2
  exact law_batch l us who hlen hu hlen2 (by omega)
end Go.Proofs.YtdkcpcflfnakdaaGreat
namespace Go.Proofs.YtdkcpcflfnakdaaGreat.modelBatch
open Go.ChangeShapes Go.WideShapes Go.ChangeAt Go.RowKit Go.Proofs.YtdkcpcflfnakdaaGreat.Sym
open Go.ChangeMaps (open_string shut_string)
set_option linter.unusedVariables false
theorem own : ownKnob Tryz.prog.godebug = none := by kernel_rfl
theorem laidOut : laidOutB Tryz.prog = true := by kernel_rfl
set_option maxRecDepth 100000 in
theorem lifted (os : Os) (started : os.Started) (H : Type) (enc : TypeId × Value → H) :
    ReturnsInHanded {} Tryz.checked os 6 .any (Rows.modelBatchSpec.pre6 enc Tryz.prog Tryz.f6 Rows.modelBatchRow.domain false) (Rows.modelBatchSpec.post enc Tryz.prog Tryz.f6 false true false false) := by
  refine returnsInHanded_of_change_sized (C := Tryz.checked) own started (by kernel_rfl) Tryz.func6
    (ChangeSpec.witness6 (enc := enc) (C := Tryz.checked) false ⟨#[], #[.slice none 0 0, .slice none 0 0, .int .u8 0], []⟩ 8 (by kernel_rfl) (by kernel_rfl) (by kernel_rfl) (by kernel_rfl)) ?_
  intro W base args ds gs before hval0 hW hcnd hsz0 _
  have hval : ∀ (j : Nat) t v, Tryz.f6.params[j]? = some t → args[j]? = some v → Value.okWide Tryz.prog W .any base t v := hval0
  have hW' := hW
  obtain ⟨p, q, hA0, hV, rfl, hfz, hnd⟩ := hW
  have hA : DataW.TrodAll enc Tryz.prog W 0 (fun _ => true) true Tryz.f6.params.toList args.toList ds p := hA0
  have hval2 : ∀ (j : Nat) t v, Tryz.f6.params.toList[j]? = some t → args.toList[j]? = some v → Value.okWide Tryz.prog W .any base t v := fun j t v h1 h2 => hval j t v (by simpa using h1) (by simpa using h2)
  rw [Tryz.params6] at hA hval2
  obtain ⟨xs, hfit, hrel⟩ := open_args tyOk _ _ _ _ _ shapesModelBatch_ok hval2 hA
  obtain ⟨v0, vs0, d0, ds0, p0, q0, hargs, rfl, rfl, h0, r0⟩ := trodAll_cons hA
  obtain ⟨v1, vs1, d1, ds1, p1, q1, rfl, rfl, rfl, h1, r1⟩ := trodAll_cons r0
  obtain ⟨v2, vs2, d2, ds2, p2, q2, rfl, rfl, rfl, h2, r2⟩ := trodAll_cons r1
  obtain ⟨rfl, rfl, rfl⟩ := trodAll_nil r2
  obtain rfl : args = #[v0, v1, v2] := by cases args; simp_all
  obtain ⟨rfl, rfl⟩ := trodVars_none hV
  have k0 := h0
  have lt0 : ∀ x ∈ p0, x.block < W.heap.size := by obtain ⟨m, hm⟩ := k0; exact DataW.trod_lt m _ _ _ hm
  have k1 := h1
  have lt1 : ∀ x ∈ p1, x.block < W.heap.size := by obtain ⟨m, hm⟩ := k1; exact DataW.trod_lt m _ _ _ hm
  have k2 := h2
  have lt2 : ∀ x ∈ p2, x.block < W.heap.size := by obtain ⟨m, hm⟩ := k2; exact DataW.trod_lt m _ _ _ hm
  clear hA0 hval0 hsz0 hval hval2
  refine (PCall.calls (law_ModelBatch xs hfit) hrel (GlobOk.none (fun _ => rfl) (fun _ => rfl) (fun _ => rfl))).mono ?_
  rintro e W' ⟨y, x, rfl, rfl, hy, bel⟩
  obtain rfl := hy _ rfl
  exact ⟨_, rfl, _, _, _, [], _, [], hW', trodAll_mk1 (shut_bool Tryz.underlying4 _), (trodAll_cons_mk (Below.trod laidOut (by kernel_rfl) (of_decide_eq_true (by kernel_rfl)) k0 bel lt0) (trodAll_cons_mk (Below.trod laidOut (by kernel_rfl) (of_decide_eq_true (by kernel_rfl)) k1 bel lt1) (trodAll_cons_mk (Below.trod laidOut (by kernel_rfl) (of_decide_eq_true (by kernel_rfl)) k2 bel lt2) trodAll_mk0))), rfl, bel.frame _, fun h => by cases h⟩
theorem over : Rows.modelBatchRow.holds Tryz.pinned (OpenSpec.ofChange Rows.modelBatchSpec) :=
  OpenClaim.holds_of_wide 6 Tryz.f6 rfl rfl rfl rfl rfl rfl rfl ⟨rfl, rfl, rfl, rfl, rfl⟩ rfl rfl rfl rfl rfl (by kernel_rfl) Tryz.func6 (by kernel_rfl)
    (of_decide_eq_true (by kernel_rfl)) (by unfold Func.isWrapper; first | (rw [if_pos (by decide +kernel)]; kernel_rfl) | (rw [if_neg (by decide +kernel)]; exact ⟨rfl, rfl⟩))
    (fun os started H enc _ => lifted os started H enc)
theorem proved : Rows.ModelBatchSaid := over
#print axioms proved
end Go.Proofs.YtdkcpcflfnakdaaGreat.modelBatch
namespace Go.Proofs.YtdkcpcflfnakdaaGreat
theorem modelBatch_holds : Rows.ModelBatchSaid := modelBatch.proved
end Go.Proofs.YtdkcpcflfnakdaaGreat
