/- The law ModelClosed and its row. -/
import Derived.Test.YtdkcpcflfnakdaaGreatMh
import Derived.Test.YtdkcpcflfnakdaaGreatRows
import Derived.Test.YtdkcpcflfnakdaaGreatSymU
namespace Go.Proofs.YtdkcpcflfnakdaaGreat
open Go Go.Proofs.YtdkcpcflfnakdaaGreat.Sym
attribute [-sevalprocAttr] Int.reduceToNat Int.reduceNatCast Int.reduceNatCast' Nat.reduceSubDiff
set_option maxRecDepth 100000
set_option maxHeartbeats 1000000
set_option maxHeartbeats 2000000
set_option linter.unusedSimpArgs false
set_option linter.unusedVariables false

theorem cl_do {n : Nat} {M : Md} (h : M.t.cl = true) (who : Int) (o : Opb) (u : ByteArray) : (doM n M who o).t.cl = true ∧ presOf n (doM n M who o) u = presOf n M u := by
  unfold doM
  split
  · exact ⟨h, rfl⟩
  split
  · unfold Md.write; rw [if_pos h]; exact ⟨h, rfl⟩
  split
  · exact ⟨h, rfl⟩
  · exact ⟨h, rfl⟩
theorem cl_bef {B : Nat} {M : Md} (hw : WOk 3 B M) (h : M.t.cl = true) (a : Ac) (u : ByteArray) : (befM 3 M a).t.cl = true ∧ (a.d % 3 ≠ 1 → presOf 3 (befM 3 M a) u = presOf 3 M u) := by
  unfold befM
  split
  · rename_i e; exact ⟨h, fun hh => absurd e hh⟩
  split
  · refine ⟨?_, fun _ => pres_sweep hw.ok _ u⟩
    unfold Md.sweep; split <;> exact h
  · have := cl_do (n := 3) h a.who a.op u
    exact ⟨this.1, fun _ => this.2⟩
def wantC (who : Int) (o : Opb) : Int := if (badO o || !inB who 0 7) = true then 1 else if (o.kind == 8) = true then 0 else 5
theorem cl_rep {n : Nat} {M : Md} (h : M.t.cl = true) (who : Int) (o : Opb) : ∃ ev lo, doR n M who o = ⟨wantC who o, none, ev, lo⟩ := by
  unfold doR wantC
  split
  · exact ⟨_, _, rfl⟩
  split
  · rename_i h1 h2
    have h8 : (o.kind == 8) = false := by
      simp only [Bool.or_eq_true, beq_iff_eq] at h2
      rw [beq_eq_false_iff_ne]; omega
    rw [h8]
    unfold writeR; rw [if_pos h]; exact ⟨_, _, rfl⟩
  split
  · exact ⟨_, _, rfl⟩
  · exact ⟨_, _, rfl⟩
def opC : Opb := ⟨9, ⟨#[]⟩, 0, 0, 0, 0, []⟩
theorem badC : badO opC = false := by simp [badO, opC]
theorem closed_cl (n : Nat) (M : Md) : (doM n M 0 opC).t.cl = true := by
  have hi : inB 0 0 7 = true := by decide
  have e : doM n M 0 opC = if M.t.cl = true then M else M.shut := by
    unfold doM
    rw [badC, hi]
    rfl
  rw [e]
  split
  · assumption
  · rfl
theorem law_closed (l more : List Ac) (user : ByteArray) (hl : l.length ≤ maxLen) (hu : ∀ a ∈ l, a.op.us.length ≤ maxLen) (hl2 : more.length ≤ maxLen) (hu2 : ∀ a ∈ more, a.op.us.length ≤ maxLen) :
    PCall P 5 [.sl 10 (acts l), .sl 10 (acts more), str user] (fun x => x = bool true) := by
  have hL := law_long l hl hu
  have hL2 := law_long more hl2 hu2
  refine q0r tyOk Tryz.func5 rfl rfl ?_
  intro K hK
  simp only [Tryz.ntmps5, List.length_cons, List.length_nil, Nat.reduceAdd, Nat.reduceSub, List.replicate, List.cons_append, List.nil_append]
  try simp (maxSteps := 1000000) only [seval]
  (refine q0g law_awake rfl ?_; rintro _ rfl)
  try simp (maxSteps := 1000000) only [seval]
  (refine q0g hL rfl ?_; rintro _ rfl)
  cases hlg : (decide (120 < l.length) || longA l)
  · rw [Bool.or_eq_false_iff] at hlg
    have hl120 : l.length ≤ 120 := by have := of_decide_eq_false hlg.1; omega
    have hsh : ∀ a ∈ l, shortO a.op = true := fun a ha => by
      have := List.any_eq_false.1 hlg.2 a ha
      cases h : shortO a.op with | true => rfl | false => rw [h] at this; exact absurd rfl this
    try simp (maxSteps := 1000000) only [seval]
    (refine q0g hL2 rfl ?_; rintro _ rfl)
    cases hlg2 : (decide (120 < more.length) || longA more)
    · rw [Bool.or_eq_false_iff] at hlg2
      have hm120 : more.length ≤ 120 := by have := of_decide_eq_false hlg2.1; omega
      have hsh2 : ∀ a ∈ more, shortO a.op = true := fun a ha => by
        have := List.any_eq_false.1 hlg2.2 a ha
        cases h : shortO a.op with | true => rfl | false => rw [h] at this; exact absurd rfl this
      by_cases h40 : 40 < user.size
      · have c1 : decide ((40 : Int) < (user.size : Int)) = true := decide_eq_true (by omega)
        have c1' : decide ((user.size : Int) > (40 : Int)) = true := decide_eq_true (by omega)
        try simp (maxSteps := 1000000) only [seval, c1, c1']
        (refine q0g law_awake rfl ?_; rintro _ rfl)
        try simp (maxSteps := 1000000) only [seval]
        apply hK
        simp only [Tryz.results5, retK, ares, List.take_nil, Bool.and_true, Bool.true_and, AV.ofResults, St.trunc, q00, q01, List.getD_cons_zero, List.getD_cons_succ, List.map_nil, true_and, and_true, List.cons.injEq, exists_eq_left']
        try rfl
      · have c1 : decide ((40 : Int) < (user.size : Int)) = false := decide_eq_false (by omega)
        have c1' : decide ((user.size : Int) > (40 : Int)) = false := decide_eq_false (by omega)
        try simp (maxSteps := 1000000) only [seval, c1, c1']
        (refine q0g law_Small rfl ?_; rintro _ rfl)
        try simp (maxSteps := 1000000) only [seval]
        have h0 : WOk 3 0 (fresh sm) := wok_fresh rfl (by decide) (by decide) (by decide)
        refine q15 ((model_New sm 3 rfl (by decide) (by decide) (by rfl)).mono ?_)
        rintro _ _ ⟨rfl, pad, rfl⟩
        try simp (maxSteps := 1000000) only [seval, mm_0, mm_1, mm_2, mm_0n, mm_1n, mm_2n, q0b, q0a, q0c, q0d, q0e, mm_s0, mm_s1, mm_s2, mm_s3, q09, q06, q08, q07, q0f, q04, q02, q05, q03, Nat.add_assoc, AB.calm, kpX, kpM, ml_z, ml_1, ml_l, ml_r, ml_b, ml_le, ml_0, ml_0k, Nat.one_ne_zero, List.all_cons, List.all_nil]
        refine q1f tyOk (α := Nat) (mlen 3) [0, 1, 2, 7, 9] (fun i => i ≤ l.length)
          (fun i => ⟨[.sl 10 (acts l), .sl 10 (acts more), str user, .any, .any, .any, .any, .ptr 0 0, .any, i64 i, .any, .any, .any, .any, .any, .any, .any, .any, .any, .any, .any, .any, .any, .any, .any, .any, .any, .any, .any, .any, .any, .any, .any, .any, .any, .any, .any, .any, .any, .any, .any, .any, .any, .any, .any, .any, .any, .any, .any, .any, .any, .any, .any, .any, .any, .any, .any, .any, .any, .any, .any, .any, .any, .any, .any, .any, .any, .any, .any, .any, .any, .any, .any, .any, .any, .any, .any, .any, .any, .any, .any, .any, .any, .any, .any, .any, .any, .any, .any, .any, .any, .any, .any, .any, .any, .any, .any, .any, .any, .any, .any, .any, .any, .any, .any, .any, .any, .any, .any, .any, .any, .any, .any, .any, .any, .any, .any, .any], modM 3 pad (runM (fresh sm) (l.take i))⟩)
          (fun i => l.length - i) 0 (by simp) (Nat.zero_le _) ?_ ?_
        · simp only [St.trunc, St.keep, q00, q01, keepV, ml_n0, q32, List.elem_cons, List.elem_nil, List.take_zero, Nat.reduceAdd, Nat.reduceBEq, Nat.zero_add, Bool.false_eq_true, ↓reduceIte]
          rfl
        intro i hi
        try simp (maxSteps := 1000000) only [seval, mm_0, mm_1, mm_2, mm_0n, mm_1n, mm_2n, q0b, q0a, q0c, q0d, q0e, mm_s0, mm_s1, mm_s2, mm_s3, q09, q06, q08, q07, q0f, q04, q02, q05, q03, Nat.add_assoc, AB.calm, kpX, kpM, ml_z, ml_1, ml_l, ml_r, ml_b, ml_le, ml_0, ml_0k, Nat.one_ne_zero, List.all_cons, List.all_nil, q38]
        (first | refine q0j ?_ ?_ | refine q0k ?_ ?_ | refine q0l ?_ ?_ | refine q0m ?_ ?_ | refine q0i ?_ ?_) <;> intro hf <;> try simp (maxSteps := 1000000) only [seval, mm_0, mm_1, mm_2, mm_0n, mm_1n, mm_2n, q0b, q0a, q0c, q0d, q0e, mm_s0, mm_s1, mm_s2, mm_s3, q09, q06, q08, q07, q0f, q04, q02, q05, q03, Nat.add_assoc, AB.calm, kpX, kpM, ml_z, ml_1, ml_l, ml_r, ml_b, ml_le, ml_0, ml_0k, Nat.one_ne_zero, List.all_cons, List.all_nil]
        · have hlt : i < l.length := by simpa using hf
          have eg := acts_get hlt
          have ew : IntKind.i64.wrap ((i : Int) + 1) = ((i + 1 : Nat) : Int) := by rw [wrap_i64 (by omega) (by omega)]; rfl
          have b1 : (0 : Int) ≤ (i : Int) ∧ Int.toNat (i : Int) < l.length := by omega
          have hw := wok_run h0 l (by omega) i hi
          have hnx := runM_next (M := fresh sm) hlt
          have hbf := law_befalls (pad := pad) hw (by omega) l[i] (short_ok (hsh _ (List.getElem_mem hlt)))
          unfold Ac.av at hbf
          try simp (maxSteps := 1000000) only [seval, mm_0, mm_1, mm_2, mm_0n, mm_1n, mm_2n, q0b, q0a, q0c, q0d, q0e, mm_s0, mm_s1, mm_s2, mm_s3, q09, q06, q08, q07, q0f, q04, q02, q05, q03, Nat.add_assoc, AB.calm, kpX, kpM, ml_z, ml_1, ml_l, ml_r, ml_b, ml_le, ml_0, ml_0k, Nat.one_ne_zero, List.all_cons, List.all_nil, q38, eg, b1]
          rw [← List.append_nil (modM 3 pad (runM (fresh sm) (l.take i)))]
          refine q2m (kp := kpX 3) (fun b hb => absurd hb (Nat.not_lt_zero b)) (mod_inX hbf rfl ?_ ?_)
          · rfl
          rintro _ _ ⟨rfl, rfl⟩
          refine ⟨rp_bks _, _, rfl, ?_⟩
          try simp (maxSteps := 1000000) only [seval, mm_0, mm_1, mm_2, mm_0n, mm_1n, mm_2n, q0b, q0a, q0c, q0d, q0e, mm_s0, mm_s1, mm_s2, mm_s3, q09, q06, q08, q07, q0f, q04, q02, q05, q03, Nat.add_assoc, AB.calm, kpX, kpM, ml_z, ml_1, ml_l, ml_r, ml_b, ml_le, ml_0, ml_0k, Nat.one_ne_zero, List.all_cons, List.all_nil, ew]
          simp only [q0n, St.trunc, St.keep, q00, q01, keepV, ml_n0, q32, List.elem_cons, List.elem_nil, Nat.reduceAdd, Nat.reduceBEq, Nat.zero_add, Bool.false_eq_true, ↓reduceIte]
          exact ⟨i + 1, hlt, by omega, by rw [hnx]⟩
        · obtain rfl : i = l.length := by have := of_decide_eq_false hf; omega
          rw [List.take_length]
          have hw0 := wok_run h0 l (by omega) l.length (Nat.le_refl _)
          rw [List.take_length] at hw0
          generalize runM (fresh sm) l = M0 at *
          rw [← List.append_nil (modM 3 pad M0)]
          refine q2m (kp := kpX 3) (fun b hb => absurd hb (Nat.not_lt_zero b)) ((Do_nil hw0 (by omega) 0 opC (by constructor <;> first | decide | simp [opC]) rfl [] rfl).mono ?_)
          rintro _ _ ⟨rfl, rfl⟩
          have hcl := closed_cl 3 M0
          have hw1 := wok_do hw0 (by omega) 0 opC
          obtain ⟨M1, hM1⟩ : ∃ M1, doM 3 M0 0 opC = M1 := ⟨_, rfl⟩
          rw [hM1] at hcl hw1 ⊢
          try simp (maxSteps := 1000000) only [seval, mm_0, mm_1, mm_2, mm_0n, mm_1n, mm_2n, q0b, q0a, q0c, q0d, q0e, mm_s0, mm_s1, mm_s2, mm_s3, q09, q06, q08, q07, q0f, q04, q02, q05, q03, Nat.add_assoc, AB.calm, kpX, kpM, ml_z, ml_1, ml_l, ml_r, ml_b, ml_le, ml_0, ml_0k, Nat.one_ne_zero, List.all_cons, List.all_nil]
          refine q1f tyOk (α := Nat) (mlen 3) [1, 2, 7, 10] (fun i => i ≤ more.length ∧ (runM M1 (more.take i)).t.cl = true)
            (fun i => ⟨[.any, .sl 10 (acts more), str user, .any, .any, .any, .any, .ptr 0 0, .any, .any, i64 i, .any, .any, .any, .any, .any, .any, .any, .any, .any, .any, .any, .any, .any, .any, .any, .any, .any, .any, .any, .any, .any, .any, .any, .any, .any, .any, .any, .any, .any, .any, .any, .any, .any, .any, .any, .any, .any, .any, .any, .any, .any, .any, .any, .any, .any, .any, .any, .any, .any, .any, .any, .any, .any, .any, .any, .any, .any, .any, .any, .any, .any, .any, .any, .any, .any, .any, .any, .any, .any, .any, .any, .any, .any, .any, .any, .any, .any, .any, .any, .any, .any, .any, .any, .any, .any, .any, .any, .any, .any, .any, .any, .any, .any, .any, .any, .any, .any, .any, .any, .any, .any, .any, .any, .any, .any, .any, .any], modM 3 pad (runM M1 (more.take i))⟩)
            (fun i => more.length - i) 0 (by simp) ⟨Nat.zero_le _, hcl⟩ ?_ ?_
          · simp only [St.trunc, St.keep, q00, q01, keepV, ml_n0, q32, List.elem_cons, List.elem_nil, List.take_zero, Nat.reduceAdd, Nat.reduceBEq, Nat.zero_add, Bool.false_eq_true, ↓reduceIte]
            rfl
          rintro i ⟨hi, hcl0⟩
          try simp (maxSteps := 1000000) only [seval, mm_0, mm_1, mm_2, mm_0n, mm_1n, mm_2n, q0b, q0a, q0c, q0d, q0e, mm_s0, mm_s1, mm_s2, mm_s3, q09, q06, q08, q07, q0f, q04, q02, q05, q03, Nat.add_assoc, AB.calm, kpX, kpM, ml_z, ml_1, ml_l, ml_r, ml_b, ml_le, ml_0, ml_0k, Nat.one_ne_zero, List.all_cons, List.all_nil, q38]
          (first | refine q0j ?_ ?_ | refine q0k ?_ ?_ | refine q0l ?_ ?_ | refine q0m ?_ ?_ | refine q0i ?_ ?_) <;> intro hf <;> try simp (maxSteps := 1000000) only [seval, mm_0, mm_1, mm_2, mm_0n, mm_1n, mm_2n, q0b, q0a, q0c, q0d, q0e, mm_s0, mm_s1, mm_s2, mm_s3, q09, q06, q08, q07, q0f, q04, q02, q05, q03, Nat.add_assoc, AB.calm, kpX, kpM, ml_z, ml_1, ml_l, ml_r, ml_b, ml_le, ml_0, ml_0k, Nat.one_ne_zero, List.all_cons, List.all_nil]
          · have hlt : i < more.length := by simpa using hf
            have eg := acts_get hlt
            have ew : IntKind.i64.wrap ((i : Int) + 1) = ((i + 1 : Nat) : Int) := by rw [wrap_i64 (by omega) (by omega)]; rfl
            have b1 : (0 : Int) ≤ (i : Int) ∧ Int.toNat (i : Int) < more.length := by omega
            have hw := wok_run hw1 more (by omega) i hi
            have hnx := runM_next (M := M1) hlt
            have hok := short_ok (hsh2 _ (List.getElem_mem hlt))
            generalize runM M1 (more.take i) = M at *
            generalize more[i] = a at *
            have hbf := law_befalls (pad := pad) hw (by omega) a hok
            have hw' := wok_bef hw (by omega) a
            obtain ⟨hcl', hp⟩ := cl_bef hw hcl0 a user
            obtain ⟨M', hM'⟩ : ∃ M', befM 3 M a = M' := ⟨_, rfl⟩
            rw [hM'] at hbf hw' hcl' hp hnx
            rw [← hnx] at hcl'
            unfold Ac.av at hbf
            try simp (maxSteps := 1000000) only [seval, mm_0, mm_1, mm_2, mm_0n, mm_1n, mm_2n, q0b, q0a, q0c, q0d, q0e, mm_s0, mm_s1, mm_s2, mm_s3, q09, q06, q08, q07, q0f, q04, q02, q05, q03, Nat.add_assoc, AB.calm, kpX, kpM, ml_z, ml_1, ml_l, ml_r, ml_b, ml_le, ml_0, ml_0k, Nat.one_ne_zero, List.all_cons, List.all_nil, q38, eg, b1]
            refine q15 (Sym.ACall.mono (Presence_in (pad := pad) hw.ok user (by omega) [.box a.cs]) ?_)
            rintro _ _ ⟨rfl, rfl⟩
            try simp (maxSteps := 1000000) only [seval, mm_0, mm_1, mm_2, mm_0n, mm_1n, mm_2n, q0b, q0a, q0c, q0d, q0e, mm_s0, mm_s1, mm_s2, mm_s3, q09, q06, q08, q07, q0f, q04, q02, q05, q03, Nat.add_assoc, AB.calm, kpX, kpM, ml_z, ml_1, ml_l, ml_r, ml_b, ml_le, ml_0, ml_0k, Nat.one_ne_zero, List.all_cons, List.all_nil, Pr.av]
            refine q2m (kp := kpX 3) (fun b hb => absurd hb (Nat.not_lt_zero b)) (mod_inX hbf rfl ?_ ?_)
            · rfl
            rintro _ _ ⟨rfl, rfl⟩
            refine ⟨rp_bks _, _, rfl, ?_⟩
            have em : Int.tmod (a.d : Int) 3 = ((a.d % 3 : Nat) : Int) := rfl
            obtain ⟨q, hq⟩ : ∃ q, a.d % 3 = q := ⟨_, rfl⟩
            have hq3 : q < 3 := by omega
            rw [hq] at em hp
            rcases (show q = 1 ∨ q = 2 ∨ q = 0 by omega) with rfl | rfl | rfl
            · have n1 : ((((1 : Nat) : Int)) != 1) = false := rfl
              have n0 : ((((1 : Nat) : Int)) != 0) = true := rfl
              rw [show befR 3 M a = errR 0 by unfold befR; rw [if_pos hq]]
              try simp (maxSteps := 1000000) only [seval, mm_0, mm_1, mm_2, mm_0n, mm_1n, mm_2n, q0b, q0a, q0c, q0d, q0e, mm_s0, mm_s1, mm_s2, mm_s3, q09, q06, q08, q07, q0f, q04, q02, q05, q03, Nat.add_assoc, AB.calm, kpX, kpM, ml_z, ml_1, ml_l, ml_r, ml_b, ml_le, ml_0, ml_0k, Nat.one_ne_zero, List.all_cons, List.all_nil, errR, Rp.av, slO, Option.map]
              refine q0u tyOk (by rfl) (by simp only [q07, List.length_cons, List.length_nil, mlen]; omega) (by kernel_rfl) rfl ?_
              try simp (maxSteps := 1000000) only [seval, mm_0, mm_1, mm_2, mm_0n, mm_1n, mm_2n, q0b, q0a, q0c, q0d, q0e, mm_s0, mm_s1, mm_s2, mm_s3, q09, q06, q08, q07, q0f, q04, q02, q05, q03, Nat.add_assoc, AB.calm, kpX, kpM, ml_z, ml_1, ml_l, ml_r, ml_b, ml_le, ml_0, ml_0k, Nat.one_ne_zero, List.all_cons, List.all_nil, em, n1]
              refine ⟨by kernel_rfl, ?_⟩
              try simp (maxSteps := 1000000) only [seval, mm_0, mm_1, mm_2, mm_0n, mm_1n, mm_2n, q0b, q0a, q0c, q0d, q0e, mm_s0, mm_s1, mm_s2, mm_s3, q09, q06, q08, q07, q0f, q04, q02, q05, q03, Nat.add_assoc, AB.calm, kpX, kpM, ml_z, ml_1, ml_l, ml_r, ml_b, ml_le, ml_0, ml_0k, Nat.one_ne_zero, List.all_cons, List.all_nil, em, n0]
              try simp (maxSteps := 1000000) only [seval, mm_0, mm_1, mm_2, mm_0n, mm_1n, mm_2n, q0b, q0a, q0c, q0d, q0e, mm_s0, mm_s1, mm_s2, mm_s3, q09, q06, q08, q07, q0f, q04, q02, q05, q03, Nat.add_assoc, AB.calm, kpX, kpM, ml_z, ml_1, ml_l, ml_r, ml_b, ml_le, ml_0, ml_0k, Nat.one_ne_zero, List.all_cons, List.all_nil, ew]
              simp only [q0n, St.trunc, St.keep, q00, q01, keepV, ml_n0, ml_le, q1j, List.drop_zero, List.elem_cons, List.elem_nil, Nat.reduceAdd, Nat.reduceBEq, Nat.le_refl, Nat.zero_add, Bool.false_eq_true, ↓reduceIte]
              exact ⟨i + 1, ⟨hlt, hcl'⟩, by omega, by rw [hnx]⟩
            · have n1 : ((((2 : Nat) : Int)) != 1) = true := rfl
              have n0 : ((((2 : Nat) : Int)) != 0) = true := rfl
              have hp' := hp (by omega)
              rw [show befR 3 M a = errR 0 by unfold befR; rw [if_neg (by omega), if_pos hq]]
              try simp (maxSteps := 1000000) only [seval, mm_0, mm_1, mm_2, mm_0n, mm_1n, mm_2n, q0b, q0a, q0c, q0d, q0e, mm_s0, mm_s1, mm_s2, mm_s3, q09, q06, q08, q07, q0f, q04, q02, q05, q03, Nat.add_assoc, AB.calm, kpX, kpM, ml_z, ml_1, ml_l, ml_r, ml_b, ml_le, ml_0, ml_0k, Nat.one_ne_zero, List.all_cons, List.all_nil, errR, Rp.av, slO, Option.map]
              refine q0u tyOk (by rfl) (by simp only [q07, List.length_cons, List.length_nil, mlen]; omega) (by kernel_rfl) rfl ?_
              try simp (maxSteps := 1000000) only [seval, mm_0, mm_1, mm_2, mm_0n, mm_1n, mm_2n, q0b, q0a, q0c, q0d, q0e, mm_s0, mm_s1, mm_s2, mm_s3, q09, q06, q08, q07, q0f, q04, q02, q05, q03, Nat.add_assoc, AB.calm, kpX, kpM, ml_z, ml_1, ml_l, ml_r, ml_b, ml_le, ml_0, ml_0k, Nat.one_ne_zero, List.all_cons, List.all_nil, em, n1]
              refine q3j (Presence_in (pad := pad) hw'.ok user (by omega) _) (by rfl) ?_
              try simp (maxSteps := 1000000) only [seval, mm_0, mm_1, mm_2, mm_0n, mm_1n, mm_2n, q0b, q0a, q0c, q0d, q0e, mm_s0, mm_s1, mm_s2, mm_s3, q09, q06, q08, q07, q0f, q04, q02, q05, q03, Nat.add_assoc, AB.calm, kpX, kpM, ml_z, ml_1, ml_l, ml_r, ml_b, ml_le, ml_0, ml_0k, Nat.one_ne_zero, List.all_cons, List.all_nil, Pr.av, hp', bne_self_eq_false]
              refine ⟨by kernel_rfl, ?_⟩
              try simp (maxSteps := 1000000) only [seval, mm_0, mm_1, mm_2, mm_0n, mm_1n, mm_2n, q0b, q0a, q0c, q0d, q0e, mm_s0, mm_s1, mm_s2, mm_s3, q09, q06, q08, q07, q0f, q04, q02, q05, q03, Nat.add_assoc, AB.calm, kpX, kpM, ml_z, ml_1, ml_l, ml_r, ml_b, ml_le, ml_0, ml_0k, Nat.one_ne_zero, List.all_cons, List.all_nil, em, n0]
              try simp (maxSteps := 1000000) only [seval, mm_0, mm_1, mm_2, mm_0n, mm_1n, mm_2n, q0b, q0a, q0c, q0d, q0e, mm_s0, mm_s1, mm_s2, mm_s3, q09, q06, q08, q07, q0f, q04, q02, q05, q03, Nat.add_assoc, AB.calm, kpX, kpM, ml_z, ml_1, ml_l, ml_r, ml_b, ml_le, ml_0, ml_0k, Nat.one_ne_zero, List.all_cons, List.all_nil, ew]
              simp only [q0n, St.trunc, St.keep, q00, q01, keepV, ml_n0, ml_le, q1j, List.drop_zero, List.elem_cons, List.elem_nil, Nat.reduceAdd, Nat.reduceBEq, Nat.le_refl, Nat.zero_add, Bool.false_eq_true, ↓reduceIte]
              exact ⟨i + 1, ⟨hlt, hcl'⟩, by omega, by rw [hnx]⟩
            · have n1 : ((((0 : Nat) : Int)) != 1) = true := rfl
              have n0 : ((((0 : Nat) : Int)) != 0) = false := rfl
              have hp' := hp (by omega)
              obtain ⟨ev, lo, hR⟩ := cl_rep (n := 3) hcl0 a.who a.op
              have hB := model_Bad a.op hok.l
              unfold Opb.av at hB
              rw [show befR 3 M a = ⟨wantC a.who a.op, none, ev, lo⟩ by unfold befR; rw [if_neg (by omega), if_neg (by omega), hR]]
              obtain ⟨w, hwC⟩ : ∃ w, wantC a.who a.op = w := ⟨_, rfl⟩
              rw [hwC]
              unfold wantC inB at hwC
              cases ev
              all_goals
                try simp (maxSteps := 1000000) only [seval, mm_0, mm_1, mm_2, mm_0n, mm_1n, mm_2n, q0b, q0a, q0c, q0d, q0e, mm_s0, mm_s1, mm_s2, mm_s3, q09, q06, q08, q07, q0f, q04, q02, q05, q03, Nat.add_assoc, AB.calm, kpX, kpM, ml_z, ml_1, ml_l, ml_r, ml_b, ml_le, ml_0, ml_0k, Nat.one_ne_zero, List.all_cons, List.all_nil, Rp.av, slO, Option.map]
                refine q0u tyOk (by rfl) (by simp only [q07, List.length_cons, List.length_nil, mlen]; omega) (by kernel_rfl) rfl ?_
                try simp (maxSteps := 1000000) only [seval, mm_0, mm_1, mm_2, mm_0n, mm_1n, mm_2n, q0b, q0a, q0c, q0d, q0e, mm_s0, mm_s1, mm_s2, mm_s3, q09, q06, q08, q07, q0f, q04, q02, q05, q03, Nat.add_assoc, AB.calm, kpX, kpM, ml_z, ml_1, ml_l, ml_r, ml_b, ml_le, ml_0, ml_0k, Nat.one_ne_zero, List.all_cons, List.all_nil, em, n1]
                refine q3j (Presence_in (pad := pad) hw'.ok user (by omega) _) (by rfl) ?_
                try simp (maxSteps := 1000000) only [seval, mm_0, mm_1, mm_2, mm_0n, mm_1n, mm_2n, q0b, q0a, q0c, q0d, q0e, mm_s0, mm_s1, mm_s2, mm_s3, q09, q06, q08, q07, q0f, q04, q02, q05, q03, Nat.add_assoc, AB.calm, kpX, kpM, ml_z, ml_1, ml_l, ml_r, ml_b, ml_le, ml_0, ml_0k, Nat.one_ne_zero, List.all_cons, List.all_nil, Pr.av, hp', bne_self_eq_false]
                refine ⟨by kernel_rfl, ?_⟩
                try simp (maxSteps := 1000000) only [seval, mm_0, mm_1, mm_2, mm_0n, mm_1n, mm_2n, q0b, q0a, q0c, q0d, q0e, mm_s0, mm_s1, mm_s2, mm_s3, q09, q06, q08, q07, q0f, q04, q02, q05, q03, Nat.add_assoc, AB.calm, kpX, kpM, ml_z, ml_1, ml_l, ml_r, ml_b, ml_le, ml_0, ml_0k, Nat.one_ne_zero, List.all_cons, List.all_nil, em, n0]
                (refine q0g hB rfl ?_; rintro _ rfl)
                cases hb : badO a.op
                · by_cases h1 : a.who < 0
                  · have d1 : decide (a.who < 0) = true := decide_eq_true h1
                    have d1' : decide (0 ≤ a.who) = false := decide_eq_false (by omega)
                    have hv : w = 1 := by rw [← hwC, hb, d1']; rfl
                    try simp (maxSteps := 1000000) only [seval, mm_0, mm_1, mm_2, mm_0n, mm_1n, mm_2n, q0b, q0a, q0c, q0d, q0e, mm_s0, mm_s1, mm_s2, mm_s3, q09, q06, q08, q07, q0f, q04, q02, q05, q03, Nat.add_assoc, AB.calm, kpX, kpM, ml_z, ml_1, ml_l, ml_r, ml_b, ml_le, ml_0, ml_0k, Nat.one_ne_zero, List.all_cons, List.all_nil, d1, d1', hb]
                    try simp (maxSteps := 1000000) only [seval, mm_0, mm_1, mm_2, mm_0n, mm_1n, mm_2n, q0b, q0a, q0c, q0d, q0e, mm_s0, mm_s1, mm_s2, mm_s3, q09, q06, q08, q07, q0f, q04, q02, q05, q03, Nat.add_assoc, AB.calm, kpX, kpM, ml_z, ml_1, ml_l, ml_r, ml_b, ml_le, ml_0, ml_0k, Nat.one_ne_zero, List.all_cons, List.all_nil, Option.map, hv, n0, bne_self_eq_false]
                    try simp (maxSteps := 1000000) only [seval, mm_0, mm_1, mm_2, mm_0n, mm_1n, mm_2n, q0b, q0a, q0c, q0d, q0e, mm_s0, mm_s1, mm_s2, mm_s3, q09, q06, q08, q07, q0f, q04, q02, q05, q03, Nat.add_assoc, AB.calm, kpX, kpM, ml_z, ml_1, ml_l, ml_r, ml_b, ml_le, ml_0, ml_0k, Nat.one_ne_zero, List.all_cons, List.all_nil, ew]
                    simp only [q0n, St.trunc, St.keep, q00, q01, keepV, ml_n0, ml_le, q1j, List.drop_zero, List.elem_cons, List.elem_nil, Nat.reduceAdd, Nat.reduceBEq, Nat.le_refl, Nat.zero_add, Bool.false_eq_true, ↓reduceIte]
                    exact ⟨i + 1, ⟨hlt, hcl'⟩, by omega, by rw [hnx]⟩
                  · have d1 : decide (a.who < 0) = false := decide_eq_false h1
                    have d1' : decide (0 ≤ a.who) = true := decide_eq_true (by omega)
                    by_cases h2 : 7 < a.who
                    · have d2 : decide (7 < a.who) = true := decide_eq_true h2
                      have d2' : decide (a.who > 7) = true := decide_eq_true h2
                      have d2'' : decide (a.who ≤ 7) = false := decide_eq_false (by omega)
                      have hv : w = 1 := by rw [← hwC, hb, d1', d2'']; rfl
                      try simp (maxSteps := 1000000) only [seval, mm_0, mm_1, mm_2, mm_0n, mm_1n, mm_2n, q0b, q0a, q0c, q0d, q0e, mm_s0, mm_s1, mm_s2, mm_s3, q09, q06, q08, q07, q0f, q04, q02, q05, q03, Nat.add_assoc, AB.calm, kpX, kpM, ml_z, ml_1, ml_l, ml_r, ml_b, ml_le, ml_0, ml_0k, Nat.one_ne_zero, List.all_cons, List.all_nil, d1, d1', d2, d2', d2'', hb]
                      try simp (maxSteps := 1000000) only [seval, mm_0, mm_1, mm_2, mm_0n, mm_1n, mm_2n, q0b, q0a, q0c, q0d, q0e, mm_s0, mm_s1, mm_s2, mm_s3, q09, q06, q08, q07, q0f, q04, q02, q05, q03, Nat.add_assoc, AB.calm, kpX, kpM, ml_z, ml_1, ml_l, ml_r, ml_b, ml_le, ml_0, ml_0k, Nat.one_ne_zero, List.all_cons, List.all_nil, Option.map, hv, n0, bne_self_eq_false]
                      try simp (maxSteps := 1000000) only [seval, mm_0, mm_1, mm_2, mm_0n, mm_1n, mm_2n, q0b, q0a, q0c, q0d, q0e, mm_s0, mm_s1, mm_s2, mm_s3, q09, q06, q08, q07, q0f, q04, q02, q05, q03, Nat.add_assoc, AB.calm, kpX, kpM, ml_z, ml_1, ml_l, ml_r, ml_b, ml_le, ml_0, ml_0k, Nat.one_ne_zero, List.all_cons, List.all_nil, ew]
                      simp only [q0n, St.trunc, St.keep, q00, q01, keepV, ml_n0, ml_le, q1j, List.drop_zero, List.elem_cons, List.elem_nil, Nat.reduceAdd, Nat.reduceBEq, Nat.le_refl, Nat.zero_add, Bool.false_eq_true, ↓reduceIte]
                      exact ⟨i + 1, ⟨hlt, hcl'⟩, by omega, by rw [hnx]⟩
                    · have d2 : decide (7 < a.who) = false := decide_eq_false h2
                      have d2' : decide (a.who > 7) = false := decide_eq_false h2
                      have d2'' : decide (a.who ≤ 7) = true := decide_eq_true (by omega)
                      cases h8 : (a.op.kind == 8)
                      · have hv : w = 5 := by rw [← hwC, hb, d1', d2'', h8]; rfl
                        try simp (maxSteps := 1000000) only [seval, mm_0, mm_1, mm_2, mm_0n, mm_1n, mm_2n, q0b, q0a, q0c, q0d, q0e, mm_s0, mm_s1, mm_s2, mm_s3, q09, q06, q08, q07, q0f, q04, q02, q05, q03, Nat.add_assoc, AB.calm, kpX, kpM, ml_z, ml_1, ml_l, ml_r, ml_b, ml_le, ml_0, ml_0k, Nat.one_ne_zero, List.all_cons, List.all_nil, d1, d1', d2, d2', d2'', hb, h8]
                        try simp (maxSteps := 1000000) only [seval, mm_0, mm_1, mm_2, mm_0n, mm_1n, mm_2n, q0b, q0a, q0c, q0d, q0e, mm_s0, mm_s1, mm_s2, mm_s3, q09, q06, q08, q07, q0f, q04, q02, q05, q03, Nat.add_assoc, AB.calm, kpX, kpM, ml_z, ml_1, ml_l, ml_r, ml_b, ml_le, ml_0, ml_0k, Nat.one_ne_zero, List.all_cons, List.all_nil, Option.map, hv, n0, bne_self_eq_false]
                        try simp (maxSteps := 1000000) only [seval, mm_0, mm_1, mm_2, mm_0n, mm_1n, mm_2n, q0b, q0a, q0c, q0d, q0e, mm_s0, mm_s1, mm_s2, mm_s3, q09, q06, q08, q07, q0f, q04, q02, q05, q03, Nat.add_assoc, AB.calm, kpX, kpM, ml_z, ml_1, ml_l, ml_r, ml_b, ml_le, ml_0, ml_0k, Nat.one_ne_zero, List.all_cons, List.all_nil, ew]
                        simp only [q0n, St.trunc, St.keep, q00, q01, keepV, ml_n0, ml_le, q1j, List.drop_zero, List.elem_cons, List.elem_nil, Nat.reduceAdd, Nat.reduceBEq, Nat.le_refl, Nat.zero_add, Bool.false_eq_true, ↓reduceIte]
                        exact ⟨i + 1, ⟨hlt, hcl'⟩, by omega, by rw [hnx]⟩
                      · have hv : w = 0 := by rw [← hwC, hb, d1', d2'', h8]; rfl
                        try simp (maxSteps := 1000000) only [seval, mm_0, mm_1, mm_2, mm_0n, mm_1n, mm_2n, q0b, q0a, q0c, q0d, q0e, mm_s0, mm_s1, mm_s2, mm_s3, q09, q06, q08, q07, q0f, q04, q02, q05, q03, Nat.add_assoc, AB.calm, kpX, kpM, ml_z, ml_1, ml_l, ml_r, ml_b, ml_le, ml_0, ml_0k, Nat.one_ne_zero, List.all_cons, List.all_nil, d1, d1', d2, d2', d2'', hb, h8]
                        try simp (maxSteps := 1000000) only [seval, mm_0, mm_1, mm_2, mm_0n, mm_1n, mm_2n, q0b, q0a, q0c, q0d, q0e, mm_s0, mm_s1, mm_s2, mm_s3, q09, q06, q08, q07, q0f, q04, q02, q05, q03, Nat.add_assoc, AB.calm, kpX, kpM, ml_z, ml_1, ml_l, ml_r, ml_b, ml_le, ml_0, ml_0k, Nat.one_ne_zero, List.all_cons, List.all_nil, Option.map, hv, n0, bne_self_eq_false]
                        try simp (maxSteps := 1000000) only [seval, mm_0, mm_1, mm_2, mm_0n, mm_1n, mm_2n, q0b, q0a, q0c, q0d, q0e, mm_s0, mm_s1, mm_s2, mm_s3, q09, q06, q08, q07, q0f, q04, q02, q05, q03, Nat.add_assoc, AB.calm, kpX, kpM, ml_z, ml_1, ml_l, ml_r, ml_b, ml_le, ml_0, ml_0k, Nat.one_ne_zero, List.all_cons, List.all_nil, ew]
                        simp only [q0n, St.trunc, St.keep, q00, q01, keepV, ml_n0, ml_le, q1j, List.drop_zero, List.elem_cons, List.elem_nil, Nat.reduceAdd, Nat.reduceBEq, Nat.le_refl, Nat.zero_add, Bool.false_eq_true, ↓reduceIte]
                        exact ⟨i + 1, ⟨hlt, hcl'⟩, by omega, by rw [hnx]⟩
                · have hv : w = 1 := by rw [← hwC, hb]; rfl
                  try simp (maxSteps := 1000000) only [seval, mm_0, mm_1, mm_2, mm_0n, mm_1n, mm_2n, q0b, q0a, q0c, q0d, q0e, mm_s0, mm_s1, mm_s2, mm_s3, q09, q06, q08, q07, q0f, q04, q02, q05, q03, Nat.add_assoc, AB.calm, kpX, kpM, ml_z, ml_1, ml_l, ml_r, ml_b, ml_le, ml_0, ml_0k, Nat.one_ne_zero, List.all_cons, List.all_nil, hb]
                  try simp (maxSteps := 1000000) only [seval, mm_0, mm_1, mm_2, mm_0n, mm_1n, mm_2n, q0b, q0a, q0c, q0d, q0e, mm_s0, mm_s1, mm_s2, mm_s3, q09, q06, q08, q07, q0f, q04, q02, q05, q03, Nat.add_assoc, AB.calm, kpX, kpM, ml_z, ml_1, ml_l, ml_r, ml_b, ml_le, ml_0, ml_0k, Nat.one_ne_zero, List.all_cons, List.all_nil, Option.map, hv, n0, bne_self_eq_false]
                  try simp (maxSteps := 1000000) only [seval, mm_0, mm_1, mm_2, mm_0n, mm_1n, mm_2n, q0b, q0a, q0c, q0d, q0e, mm_s0, mm_s1, mm_s2, mm_s3, q09, q06, q08, q07, q0f, q04, q02, q05, q03, Nat.add_assoc, AB.calm, kpX, kpM, ml_z, ml_1, ml_l, ml_r, ml_b, ml_le, ml_0, ml_0k, Nat.one_ne_zero, List.all_cons, List.all_nil, ew]
                  simp only [q0n, St.trunc, St.keep, q00, q01, keepV, ml_n0, ml_le, q1j, List.drop_zero, List.elem_cons, List.elem_nil, Nat.reduceAdd, Nat.reduceBEq, Nat.le_refl, Nat.zero_add, Bool.false_eq_true, ↓reduceIte]
                  exact ⟨i + 1, ⟨hlt, hcl'⟩, by omega, by rw [hnx]⟩
          · obtain rfl : i = more.length := by have := of_decide_eq_false hf; omega
            rw [List.take_length] at hcl0
            rw [List.take_length]
            refine q15 (q1v (q1b 3 pad (runM M1 more)) rfl ?_)
            rintro _ _ ⟨rfl, rfl⟩
            refine ⟨rfl, _, rfl, ?_⟩
            try simp (maxSteps := 1000000) only [seval, mm_0, mm_1, mm_2, mm_0n, mm_1n, mm_2n, q0b, q0a, q0c, q0d, q0e, mm_s0, mm_s1, mm_s2, mm_s3, q09, q06, q08, q07, q0f, q04, q02, q05, q03, Nat.add_assoc, AB.calm, kpX, kpM, ml_z, ml_1, ml_l, ml_r, ml_b, ml_le, ml_0, ml_0k, Nat.one_ne_zero, List.all_cons, List.all_nil, q23, hcl0]
            apply hK
            simp only [Tryz.results5, retK, ares, Bool.and_true, Bool.true_and, AV.ofResults, St.trunc, q00, q01, List.getD_cons_zero, List.getD_cons_succ, List.take_zero, List.map_nil, true_and, and_true, List.cons.injEq, exists_eq_left']
            try rfl
    · try simp (maxSteps := 1000000) only [seval]
      (refine q0g law_awake rfl ?_; rintro _ rfl)
      try simp (maxSteps := 1000000) only [seval]
      apply hK
      simp only [Tryz.results5, retK, ares, List.take_nil, Bool.and_true, Bool.true_and, AV.ofResults, St.trunc, q00, q01, List.getD_cons_zero, List.getD_cons_succ, List.map_nil, true_and, and_true, List.cons.injEq, exists_eq_left']
      try rfl
  · try simp (maxSteps := 1000000) only [seval]
    (refine q0g law_awake rfl ?_; rintro _ rfl)
    try simp (maxSteps := 1000000) only [seval]
    apply hK
    simp only [Tryz.results5, retK, ares, List.take_nil, Bool.and_true, Bool.true_and, AV.ofResults, St.trunc, q00, q01, List.getD_cons_zero, List.getD_cons_succ, List.map_nil, true_and, and_true, List.cons.injEq, exists_eq_left']
    try rfl
def shapesModelClosed : List (Bool × List Lf) := [(false, [.sl 10 true [.int .u8, .int .i64, .int .i64, .str, .int .i64, .int .i64, .int .i64, .int .u64, .sl 1 false [.str], .int .u64]]), (false, [.sl 10 true [.int .u8, .int .i64, .int .i64, .str, .int .i64, .int .i64, .int .i64, .int .u64, .sl 1 false [.str], .int .u64]]), (false, [.str])]
theorem shapesModelClosed_ok : argShapes T 6 [29, 29, 9] = some shapesModelClosed := by kernel_rfl
theorem law_ModelClosed (xs : List AV) (h : argsFit shapesModelClosed xs) : PCall P 5 xs (fun x => x = .v (.bool true)) := by
  obtain ⟨_, _, rfl, ⟨_, _, rfl, ⟨ys, rfl, hlen, hys⟩, rfl⟩, _, _, rfl, ⟨_, _, rfl, ⟨zs, rfl, hlen2, hzs⟩, rfl⟩, _, _, rfl, ⟨_, _, rfl, ⟨user, rfl, _⟩, rfl⟩, rfl⟩ := h
  obtain ⟨l, rfl, hl, hu⟩ := fits_acts hys
  obtain ⟨more, rfl, hl2, hu2⟩ := fits_acts hzs
  rw [q38] at hlen hlen2
  exact law_closed l more user hlen hu hlen2 hu2
end Go.Proofs.YtdkcpcflfnakdaaGreat
namespace Go.Proofs.YtdkcpcflfnakdaaGreat.modelClosed
open Go.ChangeShapes Go.WideShapes Go.ChangeAt Go.RowKit Go.Proofs.YtdkcpcflfnakdaaGreat.Sym
open Go.ChangeMaps (open_string shut_string)
set_option linter.unusedVariables false
theorem own : ownKnob Tryz.prog.godebug = none := by kernel_rfl
theorem laidOut : laidOutB Tryz.prog = true := by kernel_rfl
set_option maxRecDepth 100000 in
theorem lifted (os : Os) (started : os.Started) (H : Type) (enc : TypeId × Value → H) :
    ReturnsInHanded {} Tryz.checked os 5 .any (Rows.modelClosedSpec.pre6 enc Tryz.prog Tryz.f5 Rows.modelClosedRow.domain false) (Rows.modelClosedSpec.post enc Tryz.prog Tryz.f5 false true false false) := by
  refine returnsInHanded_of_change_sized (C := Tryz.checked) own started (by kernel_rfl) Tryz.func5
    (ChangeSpec.witness6 (enc := enc) (C := Tryz.checked) false ⟨#[], #[.slice none 0 0, .slice none 0 0, .string .empty], []⟩ 8 (by kernel_rfl) (by kernel_rfl) (by kernel_rfl) (by kernel_rfl)) ?_
  intro W base args ds gs before hval0 hW hcnd hsz0 _
  have hval : ∀ (j : Nat) t v, Tryz.f5.params[j]? = some t → args[j]? = some v → Value.okWide Tryz.prog W .any base t v := hval0
  have hW' := hW
  obtain ⟨p, q, hA0, hV, rfl, hfz, hnd⟩ := hW
  have hA : DataW.TrodAll enc Tryz.prog W 0 (fun _ => true) true Tryz.f5.params.toList args.toList ds p := hA0
  have hval2 : ∀ (j : Nat) t v, Tryz.f5.params.toList[j]? = some t → args.toList[j]? = some v → Value.okWide Tryz.prog W .any base t v := fun j t v h1 h2 => hval j t v (by simpa using h1) (by simpa using h2)
  rw [Tryz.params5] at hA hval2
  obtain ⟨xs, hfit, hrel⟩ := open_args tyOk _ _ _ _ _ shapesModelClosed_ok hval2 hA
  obtain ⟨v0, vs0, d0, ds0, p0, q0, hargs, rfl, rfl, h0, r0⟩ := trodAll_cons hA
  obtain ⟨v1, vs1, d1, ds1, p1, q1, rfl, rfl, rfl, h1, r1⟩ := trodAll_cons r0
  obtain ⟨v2, vs2, d2, ds2, p2, q2, rfl, rfl, rfl, h2, r2⟩ := trodAll_cons r1
  obtain ⟨rfl, rfl, rfl⟩ := trodAll_nil r2
  obtain rfl : args = #[v0, v1, v2] := by cases args; simp_all
  obtain ⟨rfl, rfl⟩ := trodVars_none hV
  have k0 := h0
  have lt0 : ∀ x ∈ p0, x.block < W.heap.size := by obtain ⟨m, hm⟩ := k0; exact DataW.trod_lt m _ _ _ hm
  have k1 := h1
  have lt1 : ∀ x ∈ p1, x.block < W.heap.size := by obtain ⟨m, hm⟩ := k1; exact DataW.trod_lt m _ _ _ hm
  have k2 := h2
  have lt2 : ∀ x ∈ p2, x.block < W.heap.size := by obtain ⟨m, hm⟩ := k2; exact DataW.trod_lt m _ _ _ hm
  clear hA0 hval0 hsz0 hval hval2
  refine (PCall.calls (law_ModelClosed xs hfit) hrel (GlobOk.none (fun _ => rfl) (fun _ => rfl) (fun _ => rfl))).mono ?_
  rintro e W' ⟨y, x, rfl, rfl, hy, bel⟩
  obtain rfl := hy _ rfl
  exact ⟨_, rfl, _, _, _, [], _, [], hW', trodAll_mk1 (shut_bool Tryz.underlying4 _), (trodAll_cons_mk (Below.trod laidOut (by kernel_rfl) (of_decide_eq_true (by kernel_rfl)) k0 bel lt0) (trodAll_cons_mk (Below.trod laidOut (by kernel_rfl) (of_decide_eq_true (by kernel_rfl)) k1 bel lt1) (trodAll_cons_mk (Below.trod laidOut (by kernel_rfl) (of_decide_eq_true (by kernel_rfl)) k2 bel lt2) trodAll_mk0))), rfl, bel.frame _, fun h => by cases h⟩
theorem over : Rows.modelClosedRow.holds Tryz.pinned (OpenSpec.ofChange Rows.modelClosedSpec) :=
  OpenClaim.holds_of_wide 5 Tryz.f5 rfl rfl rfl rfl rfl rfl rfl ⟨rfl, rfl, rfl, rfl, rfl⟩ rfl rfl rfl rfl rfl (by kernel_rfl) Tryz.func5 (by kernel_rfl)
    (of_decide_eq_true (by kernel_rfl)) (by unfold Func.isWrapper; first | (rw [if_pos (by decide +kernel)]; kernel_rfl) | (rw [if_neg (by decide +kernel)]; exact ⟨rfl, rfl⟩))
    (fun os started H enc _ => lifted os started H enc)
theorem proved : Rows.ModelClosedSaid := over
#print axioms proved
end Go.Proofs.YtdkcpcflfnakdaaGreat.modelClosed
namespace Go.Proofs.YtdkcpcflfnakdaaGreat
theorem modelClosed_holds : Rows.ModelClosedSaid := modelClosed.proved
end Go.Proofs.YtdkcpcflfnakdaaGreat
