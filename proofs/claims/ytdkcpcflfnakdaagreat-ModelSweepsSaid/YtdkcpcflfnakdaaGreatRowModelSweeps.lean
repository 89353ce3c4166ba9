/- A text of the walk that proves a law of this seat; joined by a program. -/
import Derived.Test.YtdkcpcflfnakdaaGreatMf
import Derived.Test.YtdkcpcflfnakdaaGreatRows
import Derived.Test.YtdkcpcflfnakdaaGreatSymU
set_option linter.unusedSimpArgs false
set_option linter.unusedVariables false
namespace Go.Proofs.YtdkcpcflfnakdaaGreat
open Go Go.Proofs.YtdkcpcflfnakdaaGreat.Sym
set_option maxRecDepth 100000
set_option maxHeartbeats 1000000
set_option maxHeartbeats 4000000
def u8s (l : List Nat) : List AV := l.map fun b : Nat => .v (.int .u8 b)
theorem u8s_len (l : List Nat) : (u8s l).length = l.length := by simp [u8s]
theorem u8s_get {l : List Nat} {i : Nat} (h : i < l.length) : (u8s l).getD (Int.toNat (i : Int)) .any = .v (.int .u8 l[i]) := by
  rw [Int.toNat_natCast]; simp [u8s, List.getD, h]
theorem fits_u8s {ys : List AV} (h : ∀ y ∈ ys, ∃ zs, q21 [.int .u8] zs ∧ y = pack false zs) : ∃ l : List Nat, ys = u8s l ∧ ∀ b ∈ l, b ≤ 255 := by
  induction ys with
  | nil => exact ⟨[], rfl, fun b hb => by cases hb⟩
  | cons y ys ih =>
    obtain ⟨l, rfl, hl⟩ := ih (fun z hz => h z (List.mem_cons_of_mem _ hz))
    obtain ⟨zs, ⟨x, r, rfl, ⟨d, rfl, hd⟩, rfl⟩, rfl⟩ := h y List.mem_cons_self
    have hd' : 0 ≤ d ∧ d ≤ 255 := by simpa [Lit.wf, IntKind.min, IntKind.max, IntKind.signed, IntKind.bits] using hd
    obtain ⟨d, rfl⟩ : ∃ m : Nat, d = m := ⟨d.toNat, by omega⟩
    refine ⟨d :: l, rfl, fun b hb => ?_⟩
    rcases List.mem_cons.1 hb with rfl | hb
    · omega
    · exact hl b hb
theorem law_sweeps (l : List Ac) (wh : List Nat) (hl : l.length ≤ maxLen) (hu : ∀ a ∈ l, a.op.us.length ≤ maxLen) (hby : ∀ a ∈ l, a.by_ ≤ 18446744073709551615) (hwl : wh.length ≤ maxLen) (hwb : ∀ b ∈ wh, b ≤ 255) :
    PCall P 10 [.sl 10 (acts l), .sl 1 (u8s wh)] (fun x => x = bool true) := by
  have hL := law_long l hl hu
  have hwl' : wh.length ≤ 9223372036854775807 := hwl
  refine q0d tyOk Tryz.func10 rfl rfl ?_
  intro K hK
  simp only [Tryz.ntmps10, List.length_cons, List.length_nil, Nat.reduceAdd, Nat.reduceSub, List.replicate, List.cons_append, List.nil_append]
  try simp only [seval, go_sem]
  (refine q02 law_awake rfl ?_; rintro _ rfl)
  try simp only [seval, go_sem]
  (refine q02 hL rfl ?_; rintro _ rfl)
  cases hlg : (decide (120 < l.length) || longA l)
  · rw [Bool.or_eq_false_iff] at hlg
    have hl120 : l.length ≤ 120 := by have := of_decide_eq_false hlg.1; omega
    have hsh : ∀ a ∈ l, shortO a.op = true := fun a ha => by
      have := List.any_eq_false.1 hlg.2 a ha
      cases h : shortO a.op with | true => rfl | false => rw [h] at this; exact absurd rfl this
    try simp only [seval, go_sem]
    (refine q02 law_Small rfl ?_; rintro _ rfl)
    try simp only [seval, go_sem]
    have h0 : WOk 3 0 (fresh sm) := wok_fresh rfl (by decide) (by decide) (by decide)
    refine q0t ((model_New sm 3 rfl (by decide) (by decide) (by rfl)).mono ?_)
    rintro _ _ ⟨rfl, p, rfl⟩
    try simp only [seval, go_sem, Nat.add_assoc, AB.calm, kpX, kpM, Nat.one_ne_zero]
    (refine q02 law_Small rfl ?_; rintro _ rfl)
    try simp only [seval, go_sem, Nat.add_assoc, AB.calm, kpX, kpM, Nat.one_ne_zero]
    refine q0t (ACall.news (model_New sm 3 rfl (by decide) (by decide) (by rfl)) rfl ?_)
    rintro _ _ ⟨rfl, p2, rfl⟩
    rw [q0c, q0c, show renM (List.range' (mlen 3) (mlen 3)) (modM 3 p2 (fresh sm)) = at_ (mlen 3) (modM 3 p2 (fresh sm)) by rw [at_, q0c]]
    have e0 : ren (List.range' (mlen 3) (mlen 3)) (.tup [.ptr 0 0, i64 0]) = .tup [.ptr (mlen 3) 0, i64 0] := by
      simp only [ren, q0e]
      rw [q2w (by decide), Nat.add_zero]
    rw [e0]
    try simp only [seval, go_sem, Nat.add_assoc, AB.calm, kpX, kpM, Nat.one_ne_zero]
    refine q12 tyOk (α := Nat × Md × Md) (mlen 3 + mlen 3) [0, 1, 4, 5, 7, 9] (fun x => x.1 ≤ l.length ∧ WOk 3 x.1 x.2.1 ∧ WOk 3 x.1 x.2.2 ∧ SwR x.2.1 x.2.2)
      (fun x => ⟨[.sl 10 (acts l), .sl 1 (u8s wh), .any, .any, bool false, .ptr 0 0, .any, .ptr (mlen 3) 0, .any, i64 x.1, .any, .any, .any, .any, .any, .any, .any, .any, .any, .any, .any, .any, .any, .any, .any, .any, .any, .any, .any, .any, .any, .any, .any, .any, .any, .any, .any, .any, .any, .any, .any, .any, .any, .any, .any, .any, .any, .any, .any, .any, .any, .any, .any, .any, .any, .any, .any, .any, .any, .any, .any, .any, .any, .any, .any, .any, .any, .any, .any, .any, .any, .any, .any, .any, .any, .any, .any, .any, .any, .any, .any, .any, .any, .any, .any, .any, .any, .any, .any, .any, .any, .any, .any, .any, .any, .any, .any, .any, .any, .any, .any, .any, .any, .any, .any, .any, .any, .any, .any], modM 3 p x.2.1 ++ at_ (mlen 3) (modM 3 p2 x.2.2)⟩)
      (fun x => l.length - x.1) (0, fresh sm, fresh sm) (by simp) ⟨Nat.zero_le _, h0, h0, sw_refl _ ⟨by decide, by decide⟩⟩ ?_ ?_
    · simp only [St.trunc, St.keep, q00, q01, keepV, ml_n0, ml_k0, ml_kl0, tb_retn, List.elem_cons, List.elem_nil, Nat.reduceAdd, Nat.reduceBEq, Nat.zero_add, Bool.false_eq_true, ↓reduceIte]
      rfl
    rintro ⟨i, A, B⟩ ⟨hi, hA, hB, hS⟩
    simp only at hi hA hB hS
    try simp only [seval, go_sem, Nat.add_assoc, AB.calm, kpX, kpM, Nat.one_ne_zero, q1p]
    (first | refine q05 ?_ ?_ | refine q08 ?_ ?_ | refine q09 ?_ ?_ | refine q07 ?_ ?_ | refine q06 ?_ ?_) <;> intro hf
    · have hlt : i < l.length := by simpa using hf
      have eg := acts_get hlt
      have ew : IntKind.i64.wrap ((i : Int) + 1) = ((i + 1 : Nat) : Int) := by rw [wrap_i64 (by omega) (by omega)]; rfl
      have b1 : (0 : Int) ≤ (i : Int) ∧ Int.toNat (i : Int) < l.length := by omega
      have hok := short_ok (hsh _ (List.getElem_mem hlt))
      have hab := hby _ (List.getElem_mem hlt)
      generalize l[i] = a at *
      try simp only [seval, go_sem, Nat.add_assoc, AB.calm, kpX, kpM, Nat.one_ne_zero, u8s_len]
      by_cases hw : i < wh.length
      · have c1 : decide ((i : Int) < (wh.length : Int)) = true := decide_eq_true (by omega)
        have b2 : (0 : Int) ≤ (i : Int) ∧ Int.toNat (i : Int) < wh.length := by omega
        have ewh := u8s_get hw
        have hwr := hwb _ (List.getElem_mem hw)
        generalize wh[i] = b at *
        have w1 : IntKind.i64.wrap (b : Int) = (b : Int) := wrap_i64 (by omega) (by omega)
        have w2 : Int.tmod (b : Int) 4 = ((b % 4 : Nat) : Int) := rfl
        have hSw := second (p := p) (A := A) (r := []) (model_Sweep (pad := p2) hB.ok ((b % 4 : Nat) : Int)).toX (args := [.ptr (mlen 3) 0, i64 ((b % 4 : Nat) : Int)]) (by simp only [q0e]; rw [← ptr2]; rfl) rfl rfl (by rintro x m' ⟨rfl, rfl⟩; exact ⟨rfl, _, rfl, rfl, rfl⟩) (K := fun x m' => x = .tup [] ∧ m' = two 3 p p2 A (B.sweep 3 ((b % 4 : Nat) : Int)) [])
        rw [two, two, List.append_nil, List.append_nil] at hSw
        have hB' := wok_sweep hB ((b % 4 : Nat) : Int)
        have hS' := sw_more hB hS ((b % 4 : Nat) : Int)
        try simp only [seval, go_sem, Nat.add_assoc, AB.calm, kpX, kpM, Nat.one_ne_zero, c1, u8s_len, b2, ewh, w1, w2]
        refine q2u (kp := kpB 3) (fun b hb => absurd hb (Nat.not_lt_zero b)) (hSw.mono ?_)
        rintro _ _ ⟨rfl, rfl⟩
        try simp only [seval, go_sem, Nat.add_assoc, AB.calm, kpX, kpM, Nat.one_ne_zero, kpB_0, kpB_b]
        generalize B.sweep 3 ((b % 4 : Nat) : Int) = B2 at *
        have hbA := befallsW (pad := p) hA (by omega) a hok
        have hbB := befallsW (pad := p2) hB' (by omega) a hok
        obtain ⟨hS2, hRe⟩ := sw_bef hA hB' hS' a hab
        have hA2 := wok_bef hA (by omega) a
        have hB2 := wok_bef hB' (by omega) a
        obtain ⟨hq1, hq2⟩ := bef_len hA a hok
        obtain ⟨hq3, hq4⟩ := bef_len hB' a hok
        obtain ⟨RA, hRA⟩ : ∃ R, befR 3 A a = R := ⟨_, rfl⟩
        obtain ⟨RB, hRB⟩ : ∃ R, befR 3 B2 a = R := ⟨_, rfl⟩
        rw [hRA] at hbA hRe hq1 hq2
        rw [hRB] at hbB hRe hq3 hq4
        obtain ⟨A3, hA3⟩ : ∃ M, befM 3 A a = M := ⟨_, rfl⟩
        obtain ⟨B3, hB3⟩ : ∃ M, befM 3 B2 a = M := ⟨_, rfl⟩
        rw [hA3] at hbA hS2 hA2
        rw [hB3] at hbB hS2 hB2
        refine xdraw_ruleN tyOk (by rfl) 14 (by rfl) (by simp only [mm_alen, mlen]; omega) (by kernel_rfl) rfl (by kernel_rfl) ?_
        simp only [List.take, List.drop]
        try simp only [seval, go_sem, Nat.add_assoc, AB.calm, kpX, kpM, Nat.one_ne_zero, q1p, eg, b1, tb_len, tb_add]
        refine q4q tyOk (bs := List.range' 0 (mlen 3)) (M0 := modM 3 p A) (M1 := modM 3 p A3) (kd := List.range' 3 (mlen 3 - 3)) (kp' := kpX 3) (xR := []) (args0 := [.ptr 0 0, a.av]) (x0 := RA.avw) hbA rfl rfl rfl rfl rfl
          (by rw [mm_ren]; exact mm_atAll 3 p A _) List.nodup_range' (q3a [.ptr 0 0, a.av] (ac_lt a)).symm rfl (by rw [List.length_range']; exact mm_inR 3 p A) (by rw [List.length_range']; exact mm_inR 3 p A3) (by rw [q0c, List.length_range'])
          kpA_of (fun b _ => Nat.zero_le b) rfl (fun b hb => by rw [q30 (avw_bks _)] at hb; cases hb) kpA_eq (setW_A (by simp [AB.bks])) ?_
        rw [show ren (List.range' 0 (mlen 3)) RA.avw = RA.avw from q30 rfl]
        try simp only [seval, go_sem, Nat.add_assoc, AB.calm, kpX, kpM, Nat.one_ne_zero, q1p, eg, b1, tb_len, tb_add, kpA_0, kpA_b, kpA_c, bks_avw]
        refine q4q tyOk (bs := List.range' (mlen 3) (mlen 3)) (M0 := modM 3 p2 B2) (M1 := modM 3 p2 B3) (kd := List.range' (mlen 3 + 3) (mlen 3 - 3)) (kp' := kpB 3) (xR := []) (args0 := [.ptr 0 0, a.av]) (x0 := RB.avw) hbB rfl rfl rfl rfl rfl
          (by have := tw_atAll 3 p (mlen 3) A3 (modM 3 p2 B2) [.gone, .gone] (q0c 3 p2 B2); exact this) List.nodup_range' (ac_ren a) rfl (by rw [List.length_range']; exact mm_inR 3 p2 B2) (by rw [List.length_range']; exact mm_inR 3 p2 B3) (by rw [q0c, List.length_range'])
          kpB_of (fun b _ => Nat.zero_le b) rfl (fun b hb => by rw [q30 (avw_bks _)] at hb; cases hb) kpB_eq (setW_B (by simp [AB.bks])) ?_
        rw [show ren (List.range' (mlen 3) (mlen 3)) RB.avw = RB.avw from q30 rfl]
        try simp only [seval, go_sem, Nat.add_assoc, AB.calm, kpX, kpM, Nat.one_ne_zero, q1p, eg, b1, tb_len, tb_add, kpB_0, kpB_b, kpB_c, kpB_c0, bks_avw, cutT0, cutT1, tb_s0, tb_s1]
        refine ⟨by kernel_rfl, ?_⟩
        have eA : RA.avw = .agg [i64 RA.err, .sl 3 (prs (RA.vals.getD [])), .sl 8 (evts (RA.evs.getD [])), bool RA.lost] := rfl
        have eB : RB.avw = .agg [i64 RB.err, .sl 3 (prs (RB.vals.getD [])), .sl 8 (evts (RB.evs.getD [])), bool RB.lost] := rfl
        have em : Int.tmod (a.d : Int) 3 = ((a.d % 3 : Nat) : Int) := rfl
        have hst := sw_stored hA2 hB2 hS2
        have hnow := hS2.now
        have hSA := q5d (pad := p) hA2.ok (by omega)
        have hSB := q5d (pad := p2) hB2.ok (by omega)
        have hTB := q3g 3 p2 B3
        have g1 : decide (((storN 3 B3 3 : Nat) : Int) > ((storN 3 A3 3 : Nat) : Int)) = false := decide_eq_false (by omega)
        have g2 : decide (((storN 3 A3 3 : Nat) : Int) < ((storN 3 B3 3 : Nat) : Int)) = false := decide_eq_false (by omega)
        have g3 : (A3.t.now != B3.t.now) = false := by rw [hnow]; simp
        by_cases hd : a.d % 3 = 0
        · have n1 : ((((a.d % 3 : Nat) : Int)) != 0) = false := by rw [hd]; rfl
          by_cases h8 : a.op.kind = 8
          · have k8 : (a.op.kind != 8) = false := by rw [h8]; rfl
            try simp only [seval, go_sem, Nat.add_assoc, AB.calm, kpX, kpM, Nat.one_ne_zero, eA, eB, q1p, eg, b1, em, n1, k8, tb_at0, tb_at1, tb_s0, tb_s1]
            refine q0t (Sym.ACall.mono (secondA (A := A3) (p := p) (r := [.box [i64 RA.err, .sl 3 (prs (RA.vals.getD [])), .sl 8 (evts (RA.evs.getD [])), bool RA.lost], .box [i64 RB.err, .sl 3 (prs (RB.vals.getD [])), .sl 8 (evts (RB.evs.getD [])), bool RB.lost]]) (K := fun x m' => x = i64 (storN 3 B3 3 : Nat) ∧ m' = two 3 p p2 A3 B3 [.box [i64 RA.err, .sl 3 (prs (RA.vals.getD [])), .sl 8 (evts (RA.evs.getD [])), bool RA.lost], .box [i64 RB.err, .sl 3 (prs (RB.vals.getD [])), .sl 8 (evts (RB.evs.getD [])), bool RB.lost]]) hSB (args := [.ptr (mlen 3) 0]) (by simp only [q0e]; rw [← ptr2]) rfl (by rintro x m' ⟨rfl, rfl⟩; exact ⟨rfl, _, rfl, rfl, rfl⟩)) ?_)
            rintro _ _ ⟨rfl, rfl⟩
            try simp only [seval, go_sem, Nat.add_assoc, AB.calm, kpX, kpM, Nat.one_ne_zero, tb_at0, tb_at1]
            refine q0t (mod_in hSA rfl ?_)
            rintro _ _ ⟨rfl, rfl⟩
            refine ⟨rfl, _, rfl, ?_⟩
            try simp only [seval, go_sem, Nat.add_assoc, AB.calm, kpX, kpM, Nat.one_ne_zero, g1, g2]
            refine q0t (mod_in (q3g 3 p A3) rfl ?_)
            rintro _ _ ⟨rfl, rfl⟩
            refine ⟨rfl, _, rfl, ?_⟩
            try simp only [seval, go_sem, Nat.add_assoc, AB.calm, kpX, kpM, Nat.one_ne_zero, q2d]
            refine q0t (Sym.ACall.mono (secondA (A := A3) (p := p) (r := [.box [i64 RA.err, .sl 3 (prs (RA.vals.getD [])), .sl 8 (evts (RA.evs.getD [])), bool RA.lost], .box [i64 RB.err, .sl 3 (prs (RB.vals.getD [])), .sl 8 (evts (RB.evs.getD [])), bool RB.lost]]) (K := fun x m' => x = q2d B3.t ∧ m' = two 3 p p2 A3 B3 [.box [i64 RA.err, .sl 3 (prs (RA.vals.getD [])), .sl 8 (evts (RA.evs.getD [])), bool RA.lost], .box [i64 RB.err, .sl 3 (prs (RB.vals.getD [])), .sl 8 (evts (RB.evs.getD [])), bool RB.lost]]) hTB (args := [.ptr (mlen 3) 0]) (by simp only [q0e]; rw [← ptr2]) rfl (by rintro x m' ⟨rfl, rfl⟩; exact ⟨rfl, _, rfl, rfl, rfl⟩)) ?_)
            rintro _ _ ⟨rfl, rfl⟩
            try simp only [seval, go_sem, Nat.add_assoc, AB.calm, kpX, kpM, Nat.one_ne_zero, q2d, g3, ew, tb_at0, tb_at1]
            simp only [q0f, St.trunc, St.keep, q00, q01, keepV, ml_n0, ml_k0, ml_kl, ml_kl0, ml_le, tb_ret, List.drop_zero, List.elem_cons, List.elem_nil, Nat.reduceAdd, Nat.reduceBEq, Nat.le_refl, Nat.zero_add, Bool.false_eq_true, ↓reduceIte]
            exact ⟨(i + 1, A3, B3), ⟨hlt, hA2, hB2, hS2⟩, by simp only; omega, rfl⟩
          · have k8 : (a.op.kind != 8) = true := bne_iff_ne.2 h8
            have hRR := hRe (.inr h8)
            have hsm : sameR ⟨RA.err, some (RA.vals.getD []), some (RA.evs.getD []), RA.lost⟩ ⟨RB.err, some (RB.vals.getD []), some (RB.evs.getD []), RB.lost⟩ = true := by rw [hRR]; exact sameR_refl _
            try simp only [seval, go_sem, Nat.add_assoc, AB.calm, kpX, kpM, Nat.one_ne_zero, eA, eB, q1p, eg, b1, em, n1, k8, tb_at0, tb_at1, tb_s0, tb_s1]
            (refine q02 (ref10_Same0 RA.err RB.err (RA.vals.getD []) (RB.vals.getD []) (RA.evs.getD []) (RB.evs.getD []) RA.lost RB.lost hq1 hq3 hq2 hq4) rfl ?_; rintro _ rfl)
            rw [hsm]
            try simp only [seval, go_sem, Nat.add_assoc, AB.calm, kpX, kpM, Nat.one_ne_zero]
            refine q0t (Sym.ACall.mono (secondA (A := A3) (p := p) (r := [.box [i64 RA.err, .sl 3 (prs (RA.vals.getD [])), .sl 8 (evts (RA.evs.getD [])), bool RA.lost], .box [i64 RB.err, .sl 3 (prs (RB.vals.getD [])), .sl 8 (evts (RB.evs.getD [])), bool RB.lost]]) (K := fun x m' => x = i64 (storN 3 B3 3 : Nat) ∧ m' = two 3 p p2 A3 B3 [.box [i64 RA.err, .sl 3 (prs (RA.vals.getD [])), .sl 8 (evts (RA.evs.getD [])), bool RA.lost], .box [i64 RB.err, .sl 3 (prs (RB.vals.getD [])), .sl 8 (evts (RB.evs.getD [])), bool RB.lost]]) hSB (args := [.ptr (mlen 3) 0]) (by simp only [q0e]; rw [← ptr2]) rfl (by rintro x m' ⟨rfl, rfl⟩; exact ⟨rfl, _, rfl, rfl, rfl⟩)) ?_)
            rintro _ _ ⟨rfl, rfl⟩
            try simp only [seval, go_sem, Nat.add_assoc, AB.calm, kpX, kpM, Nat.one_ne_zero, tb_at0, tb_at1]
            refine q0t (mod_in hSA rfl ?_)
            rintro _ _ ⟨rfl, rfl⟩
            refine ⟨rfl, _, rfl, ?_⟩
            try simp only [seval, go_sem, Nat.add_assoc, AB.calm, kpX, kpM, Nat.one_ne_zero, g1, g2]
            refine q0t (mod_in (q3g 3 p A3) rfl ?_)
            rintro _ _ ⟨rfl, rfl⟩
            refine ⟨rfl, _, rfl, ?_⟩
            try simp only [seval, go_sem, Nat.add_assoc, AB.calm, kpX, kpM, Nat.one_ne_zero, q2d]
            refine q0t (Sym.ACall.mono (secondA (A := A3) (p := p) (r := [.box [i64 RA.err, .sl 3 (prs (RA.vals.getD [])), .sl 8 (evts (RA.evs.getD [])), bool RA.lost], .box [i64 RB.err, .sl 3 (prs (RB.vals.getD [])), .sl 8 (evts (RB.evs.getD [])), bool RB.lost]]) (K := fun x m' => x = q2d B3.t ∧ m' = two 3 p p2 A3 B3 [.box [i64 RA.err, .sl 3 (prs (RA.vals.getD [])), .sl 8 (evts (RA.evs.getD [])), bool RA.lost], .box [i64 RB.err, .sl 3 (prs (RB.vals.getD [])), .sl 8 (evts (RB.evs.getD [])), bool RB.lost]]) hTB (args := [.ptr (mlen 3) 0]) (by simp only [q0e]; rw [← ptr2]) rfl (by rintro x m' ⟨rfl, rfl⟩; exact ⟨rfl, _, rfl, rfl, rfl⟩)) ?_)
            rintro _ _ ⟨rfl, rfl⟩
            try simp only [seval, go_sem, Nat.add_assoc, AB.calm, kpX, kpM, Nat.one_ne_zero, q2d, g3, ew, tb_at0, tb_at1]
            simp only [q0f, St.trunc, St.keep, q00, q01, keepV, ml_n0, ml_k0, ml_kl, ml_kl0, ml_le, tb_ret, List.drop_zero, List.elem_cons, List.elem_nil, Nat.reduceAdd, Nat.reduceBEq, Nat.le_refl, Nat.zero_add, Bool.false_eq_true, ↓reduceIte]
            exact ⟨(i + 1, A3, B3), ⟨hlt, hA2, hB2, hS2⟩, by simp only; omega, rfl⟩
        · have n1 : ((((a.d % 3 : Nat) : Int)) != 0) = true := by rw [bne_iff_ne]; omega
          have hRR := hRe (.inl hd)
          have hsm : sameR ⟨RA.err, some (RA.vals.getD []), some (RA.evs.getD []), RA.lost⟩ ⟨RB.err, some (RB.vals.getD []), some (RB.evs.getD []), RB.lost⟩ = true := by rw [hRR]; exact sameR_refl _
          try simp only [seval, go_sem, Nat.add_assoc, AB.calm, kpX, kpM, Nat.one_ne_zero, eA, eB, q1p, eg, b1, em, n1, tb_at0, tb_at1, tb_s0, tb_s1]
          (refine q02 (ref10_Same0 RA.err RB.err (RA.vals.getD []) (RB.vals.getD []) (RA.evs.getD []) (RB.evs.getD []) RA.lost RB.lost hq1 hq3 hq2 hq4) rfl ?_; rintro _ rfl)
          rw [hsm]
          try simp only [seval, go_sem, Nat.add_assoc, AB.calm, kpX, kpM, Nat.one_ne_zero]
          refine q0t (Sym.ACall.mono (secondA (A := A3) (p := p) (r := [.box [i64 RA.err, .sl 3 (prs (RA.vals.getD [])), .sl 8 (evts (RA.evs.getD [])), bool RA.lost], .box [i64 RB.err, .sl 3 (prs (RB.vals.getD [])), .sl 8 (evts (RB.evs.getD [])), bool RB.lost]]) (K := fun x m' => x = i64 (storN 3 B3 3 : Nat) ∧ m' = two 3 p p2 A3 B3 [.box [i64 RA.err, .sl 3 (prs (RA.vals.getD [])), .sl 8 (evts (RA.evs.getD [])), bool RA.lost], .box [i64 RB.err, .sl 3 (prs (RB.vals.getD [])), .sl 8 (evts (RB.evs.getD [])), bool RB.lost]]) hSB (args := [.ptr (mlen 3) 0]) (by simp only [q0e]; rw [← ptr2]) rfl (by rintro x m' ⟨rfl, rfl⟩; exact ⟨rfl, _, rfl, rfl, rfl⟩)) ?_)
          rintro _ _ ⟨rfl, rfl⟩
          try simp only [seval, go_sem, Nat.add_assoc, AB.calm, kpX, kpM, Nat.one_ne_zero, tb_at0, tb_at1]
          refine q0t (mod_in hSA rfl ?_)
          rintro _ _ ⟨rfl, rfl⟩
          refine ⟨rfl, _, rfl, ?_⟩
          try simp only [seval, go_sem, Nat.add_assoc, AB.calm, kpX, kpM, Nat.one_ne_zero, g1, g2]
          refine q0t (mod_in (q3g 3 p A3) rfl ?_)
          rintro _ _ ⟨rfl, rfl⟩
          refine ⟨rfl, _, rfl, ?_⟩
          try simp only [seval, go_sem, Nat.add_assoc, AB.calm, kpX, kpM, Nat.one_ne_zero, q2d]
          refine q0t (Sym.ACall.mono (secondA (A := A3) (p := p) (r := [.box [i64 RA.err, .sl 3 (prs (RA.vals.getD [])), .sl 8 (evts (RA.evs.getD [])), bool RA.lost], .box [i64 RB.err, .sl 3 (prs (RB.vals.getD [])), .sl 8 (evts (RB.evs.getD [])), bool RB.lost]]) (K := fun x m' => x = q2d B3.t ∧ m' = two 3 p p2 A3 B3 [.box [i64 RA.err, .sl 3 (prs (RA.vals.getD [])), .sl 8 (evts (RA.evs.getD [])), bool RA.lost], .box [i64 RB.err, .sl 3 (prs (RB.vals.getD [])), .sl 8 (evts (RB.evs.getD [])), bool RB.lost]]) hTB (args := [.ptr (mlen 3) 0]) (by simp only [q0e]; rw [← ptr2]) rfl (by rintro x m' ⟨rfl, rfl⟩; exact ⟨rfl, _, rfl, rfl, rfl⟩)) ?_)
          rintro _ _ ⟨rfl, rfl⟩
          try simp only [seval, go_sem, Nat.add_assoc, AB.calm, kpX, kpM, Nat.one_ne_zero, q2d, g3, ew, tb_at0, tb_at1]
          simp only [q0f, St.trunc, St.keep, q00, q01, keepV, ml_n0, ml_k0, ml_kl, ml_kl0, ml_le, tb_ret, List.drop_zero, List.elem_cons, List.elem_nil, Nat.reduceAdd, Nat.reduceBEq, Nat.le_refl, Nat.zero_add, Bool.false_eq_true, ↓reduceIte]
          exact ⟨(i + 1, A3, B3), ⟨hlt, hA2, hB2, hS2⟩, by simp only; omega, rfl⟩
      · have c1 : decide ((i : Int) < (wh.length : Int)) = false := decide_eq_false (by omega)
        have hB' := hB
        have hS' := hS
        try simp only [seval, go_sem, Nat.add_assoc, AB.calm, kpX, kpM, Nat.one_ne_zero, c1]
        obtain ⟨B2, hB2e⟩ : ∃ B2, B = B2 := ⟨_, rfl⟩
        rw [hB2e] at hB' hS' ⊢
        have hbA := befallsW (pad := p) hA (by omega) a hok
        have hbB := befallsW (pad := p2) hB' (by omega) a hok
        obtain ⟨hS2, hRe⟩ := sw_bef hA hB' hS' a hab
        have hA2 := wok_bef hA (by omega) a
        have hB2 := wok_bef hB' (by omega) a
        obtain ⟨hq1, hq2⟩ := bef_len hA a hok
        obtain ⟨hq3, hq4⟩ := bef_len hB' a hok
        obtain ⟨RA, hRA⟩ : ∃ R, befR 3 A a = R := ⟨_, rfl⟩
        obtain ⟨RB, hRB⟩ : ∃ R, befR 3 B2 a = R := ⟨_, rfl⟩
        rw [hRA] at hbA hRe hq1 hq2
        rw [hRB] at hbB hRe hq3 hq4
        obtain ⟨A3, hA3⟩ : ∃ M, befM 3 A a = M := ⟨_, rfl⟩
        obtain ⟨B3, hB3⟩ : ∃ M, befM 3 B2 a = M := ⟨_, rfl⟩
        rw [hA3] at hbA hS2 hA2
        rw [hB3] at hbB hS2 hB2
        refine xdraw_ruleN tyOk (by rfl) 14 (by rfl) (by simp only [mm_alen, mlen]; omega) (by kernel_rfl) rfl (by kernel_rfl) ?_
        simp only [List.take, List.drop]
        try simp only [seval, go_sem, Nat.add_assoc, AB.calm, kpX, kpM, Nat.one_ne_zero, q1p, eg, b1, tb_len, tb_add]
        refine q4q tyOk (bs := List.range' 0 (mlen 3)) (M0 := modM 3 p A) (M1 := modM 3 p A3) (kd := List.range' 3 (mlen 3 - 3)) (kp' := kpX 3) (xR := []) (args0 := [.ptr 0 0, a.av]) (x0 := RA.avw) hbA rfl rfl rfl rfl rfl
          (by rw [mm_ren]; exact mm_atAll 3 p A _) List.nodup_range' (q3a [.ptr 0 0, a.av] (ac_lt a)).symm rfl (by rw [List.length_range']; exact mm_inR 3 p A) (by rw [List.length_range']; exact mm_inR 3 p A3) (by rw [q0c, List.length_range'])
          kpA_of (fun b _ => Nat.zero_le b) rfl (fun b hb => by rw [q30 (avw_bks _)] at hb; cases hb) kpA_eq (setW_A (by simp [AB.bks])) ?_
        rw [show ren (List.range' 0 (mlen 3)) RA.avw = RA.avw from q30 rfl]
        try simp only [seval, go_sem, Nat.add_assoc, AB.calm, kpX, kpM, Nat.one_ne_zero, q1p, eg, b1, tb_len, tb_add, kpA_0, kpA_b, kpA_c, bks_avw]
        refine q4q tyOk (bs := List.range' (mlen 3) (mlen 3)) (M0 := modM 3 p2 B2) (M1 := modM 3 p2 B3) (kd := List.range' (mlen 3 + 3) (mlen 3 - 3)) (kp' := kpB 3) (xR := []) (args0 := [.ptr 0 0, a.av]) (x0 := RB.avw) hbB rfl rfl rfl rfl rfl
          (by have := tw_atAll 3 p (mlen 3) A3 (modM 3 p2 B2) [.gone, .gone] (q0c 3 p2 B2); exact this) List.nodup_range' (ac_ren a) rfl (by rw [List.length_range']; exact mm_inR 3 p2 B2) (by rw [List.length_range']; exact mm_inR 3 p2 B3) (by rw [q0c, List.length_range'])
          kpB_of (fun b _ => Nat.zero_le b) rfl (fun b hb => by rw [q30 (avw_bks _)] at hb; cases hb) kpB_eq (setW_B (by simp [AB.bks])) ?_
        rw [show ren (List.range' (mlen 3) (mlen 3)) RB.avw = RB.avw from q30 rfl]
        try simp only [seval, go_sem, Nat.add_assoc, AB.calm, kpX, kpM, Nat.one_ne_zero, q1p, eg, b1, tb_len, tb_add, kpB_0, kpB_b, kpB_c, kpB_c0, bks_avw, cutT0, cutT1, tb_s0, tb_s1]
        refine ⟨by kernel_rfl, ?_⟩
        have eA : RA.avw = .agg [i64 RA.err, .sl 3 (prs (RA.vals.getD [])), .sl 8 (evts (RA.evs.getD [])), bool RA.lost] := rfl
        have eB : RB.avw = .agg [i64 RB.err, .sl 3 (prs (RB.vals.getD [])), .sl 8 (evts (RB.evs.getD [])), bool RB.lost] := rfl
        have em : Int.tmod (a.d : Int) 3 = ((a.d % 3 : Nat) : Int) := rfl
        have hst := sw_stored hA2 hB2 hS2
        have hnow := hS2.now
        have hSA := q5d (pad := p) hA2.ok (by omega)
        have hSB := q5d (pad := p2) hB2.ok (by omega)
        have hTB := q3g 3 p2 B3
        have g1 : decide (((storN 3 B3 3 : Nat) : Int) > ((storN 3 A3 3 : Nat) : Int)) = false := decide_eq_false (by omega)
        have g2 : decide (((storN 3 A3 3 : Nat) : Int) < ((storN 3 B3 3 : Nat) : Int)) = false := decide_eq_false (by omega)
        have g3 : (A3.t.now != B3.t.now) = false := by rw [hnow]; simp
        by_cases hd : a.d % 3 = 0
        · have n1 : ((((a.d % 3 : Nat) : Int)) != 0) = false := by rw [hd]; rfl
          by_cases h8 : a.op.kind = 8
          · have k8 : (a.op.kind != 8) = false := by rw [h8]; rfl
            try simp only [seval, go_sem, Nat.add_assoc, AB.calm, kpX, kpM, Nat.one_ne_zero, eA, eB, q1p, eg, b1, em, n1, k8, tb_at0, tb_at1, tb_s0, tb_s1]
            refine q0t (Sym.ACall.mono (secondA (A := A3) (p := p) (r := [.box [i64 RA.err, .sl 3 (prs (RA.vals.getD [])), .sl 8 (evts (RA.evs.getD [])), bool RA.lost], .box [i64 RB.err, .sl 3 (prs (RB.vals.getD [])), .sl 8 (evts (RB.evs.getD [])), bool RB.lost]]) (K := fun x m' => x = i64 (storN 3 B3 3 : Nat) ∧ m' = two 3 p p2 A3 B3 [.box [i64 RA.err, .sl 3 (prs (RA.vals.getD [])), .sl 8 (evts (RA.evs.getD [])), bool RA.lost], .box [i64 RB.err, .sl 3 (prs (RB.vals.getD [])), .sl 8 (evts (RB.evs.getD [])), bool RB.lost]]) hSB (args := [.ptr (mlen 3) 0]) (by simp only [q0e]; rw [← ptr2]) rfl (by rintro x m' ⟨rfl, rfl⟩; exact ⟨rfl, _, rfl, rfl, rfl⟩)) ?_)
            rintro _ _ ⟨rfl, rfl⟩
            try simp only [seval, go_sem, Nat.add_assoc, AB.calm, kpX, kpM, Nat.one_ne_zero, tb_at0, tb_at1]
            refine q0t (mod_in hSA rfl ?_)
            rintro _ _ ⟨rfl, rfl⟩
            refine ⟨rfl, _, rfl, ?_⟩
            try simp only [seval, go_sem, Nat.add_assoc, AB.calm, kpX, kpM, Nat.one_ne_zero, g1, g2]
            refine q0t (mod_in (q3g 3 p A3) rfl ?_)
            rintro _ _ ⟨rfl, rfl⟩
            refine ⟨rfl, _, rfl, ?_⟩
            try simp only [seval, go_sem, Nat.add_assoc, AB.calm, kpX, kpM, Nat.one_ne_zero, q2d]
            refine q0t (Sym.ACall.mono (secondA (A := A3) (p := p) (r := [.box [i64 RA.err, .sl 3 (prs (RA.vals.getD [])), .sl 8 (evts (RA.evs.getD [])), bool RA.lost], .box [i64 RB.err, .sl 3 (prs (RB.vals.getD [])), .sl 8 (evts (RB.evs.getD [])), bool RB.lost]]) (K := fun x m' => x = q2d B3.t ∧ m' = two 3 p p2 A3 B3 [.box [i64 RA.err, .sl 3 (prs (RA.vals.getD [])), .sl 8 (evts (RA.evs.getD [])), bool RA.lost], .box [i64 RB.err, .sl 3 (prs (RB.vals.getD [])), .sl 8 (evts (RB.evs.getD [])), bool RB.lost]]) hTB (args := [.ptr (mlen 3) 0]) (by simp only [q0e]; rw [← ptr2]) rfl (by rintro x m' ⟨rfl, rfl⟩; exact ⟨rfl, _, rfl, rfl, rfl⟩)) ?_)
            rintro _ _ ⟨rfl, rfl⟩
            try simp only [seval, go_sem, Nat.add_assoc, AB.calm, kpX, kpM, Nat.one_ne_zero, q2d, g3, ew, tb_at0, tb_at1]
            simp only [q0f, St.trunc, St.keep, q00, q01, keepV, ml_n0, ml_k0, ml_kl, ml_kl0, ml_le, tb_ret, List.drop_zero, List.elem_cons, List.elem_nil, Nat.reduceAdd, Nat.reduceBEq, Nat.le_refl, Nat.zero_add, Bool.false_eq_true, ↓reduceIte]
            exact ⟨(i + 1, A3, B3), ⟨hlt, hA2, hB2, hS2⟩, by simp only; omega, rfl⟩
          · have k8 : (a.op.kind != 8) = true := bne_iff_ne.2 h8
            have hRR := hRe (.inr h8)
            have hsm : sameR ⟨RA.err, some (RA.vals.getD []), some (RA.evs.getD []), RA.lost⟩ ⟨RB.err, some (RB.vals.getD []), some (RB.evs.getD []), RB.lost⟩ = true := by rw [hRR]; exact sameR_refl _
            try simp only [seval, go_sem, Nat.add_assoc, AB.calm, kpX, kpM, Nat.one_ne_zero, eA, eB, q1p, eg, b1, em, n1, k8, tb_at0, tb_at1, tb_s0, tb_s1]
            (refine q02 (ref10_Same0 RA.err RB.err (RA.vals.getD []) (RB.vals.getD []) (RA.evs.getD []) (RB.evs.getD []) RA.lost RB.lost hq1 hq3 hq2 hq4) rfl ?_; rintro _ rfl)
            rw [hsm]
            try simp only [seval, go_sem, Nat.add_assoc, AB.calm, kpX, kpM, Nat.one_ne_zero]
            refine q0t (Sym.ACall.mono (secondA (A := A3) (p := p) (r := [.box [i64 RA.err, .sl 3 (prs (RA.vals.getD [])), .sl 8 (evts (RA.evs.getD [])), bool RA.lost], .box [i64 RB.err, .sl 3 (prs (RB.vals.getD [])), .sl 8 (evts (RB.evs.getD [])), bool RB.lost]]) (K := fun x m' => x = i64 (storN 3 B3 3 : Nat) ∧ m' = two 3 p p2 A3 B3 [.box [i64 RA.err, .sl 3 (prs (RA.vals.getD [])), .sl 8 (evts (RA.evs.getD [])), bool RA.lost], .box [i64 RB.err, .sl 3 (prs (RB.vals.getD [])), .sl 8 (evts (RB.evs.getD [])), bool RB.lost]]) hSB (args := [.ptr (mlen 3) 0]) (by simp only [q0e]; rw [← ptr2]) rfl (by rintro x m' ⟨rfl, rfl⟩; exact ⟨rfl, _, rfl, rfl, rfl⟩)) ?_)
            rintro _ _ ⟨rfl, rfl⟩
            try simp only [seval, go_sem, Nat.add_assoc, AB.calm, kpX, kpM, Nat.one_ne_zero, tb_at0, tb_at1]
            refine q0t (mod_in hSA rfl ?_)
            rintro _ _ ⟨rfl, rfl⟩
            refine ⟨rfl, _, rfl, ?_⟩
            try simp only [seval, go_sem, Nat.add_assoc, AB.calm, kpX, kpM, Nat.one_ne_zero, g1, g2]
            refine q0t (mod_in (q3g 3 p A3) rfl ?_)
            rintro _ _ ⟨rfl, rfl⟩
            refine ⟨rfl, _, rfl, ?_⟩
            try simp only [seval, go_sem, Nat.add_assoc, AB.calm, kpX, kpM, Nat.one_ne_zero, q2d]
            refine q0t (Sym.ACall.mono (secondA (A := A3) (p := p) (r := [.box [i64 RA.err, .sl 3 (prs (RA.vals.getD [])), .sl 8 (evts (RA.evs.getD [])), bool RA.lost], .box [i64 RB.err, .sl 3 (prs (RB.vals.getD [])), .sl 8 (evts (RB.evs.getD [])), bool RB.lost]]) (K := fun x m' => x = q2d B3.t ∧ m' = two 3 p p2 A3 B3 [.box [i64 RA.err, .sl 3 (prs (RA.vals.getD [])), .sl 8 (evts (RA.evs.getD [])), bool RA.lost], .box [i64 RB.err, .sl 3 (prs (RB.vals.getD [])), .sl 8 (evts (RB.evs.getD [])), bool RB.lost]]) hTB (args := [.ptr (mlen 3) 0]) (by simp only [q0e]; rw [← ptr2]) rfl (by rintro x m' ⟨rfl, rfl⟩; exact ⟨rfl, _, rfl, rfl, rfl⟩)) ?_)
            rintro _ _ ⟨rfl, rfl⟩
            try simp only [seval, go_sem, Nat.add_assoc, AB.calm, kpX, kpM, Nat.one_ne_zero, q2d, g3, ew, tb_at0, tb_at1]
            simp only [q0f, St.trunc, St.keep, q00, q01, keepV, ml_n0, ml_k0, ml_kl, ml_kl0, ml_le, tb_ret, List.drop_zero, List.elem_cons, List.elem_nil, Nat.reduceAdd, Nat.reduceBEq, Nat.le_refl, Nat.zero_add, Bool.false_eq_true, ↓reduceIte]
            exact ⟨(i + 1, A3, B3), ⟨hlt, hA2, hB2, hS2⟩, by simp only; omega, rfl⟩
        · have n1 : ((((a.d % 3 : Nat) : Int)) != 0) = true := by rw [bne_iff_ne]; omega
          have hRR := hRe (.inl hd)
          have hsm : sameR ⟨RA.err, some (RA.vals.getD []), some (RA.evs.getD []), RA.lost⟩ ⟨RB.err, some (RB.vals.getD []), some (RB.evs.getD []), RB.lost⟩ = true := by rw [hRR]; exact sameR_refl _
          try simp only [seval, go_sem, Nat.add_assoc, AB.calm, kpX, kpM, Nat.one_ne_zero, eA, eB, q1p, eg, b1, em, n1, tb_at0, tb_at1, tb_s0, tb_s1]
          (refine q02 (ref10_Same0 RA.err RB.err (RA.vals.getD []) (RB.vals.getD []) (RA.evs.getD []) (RB.evs.getD []) RA.lost RB.lost hq1 hq3 hq2 hq4) rfl ?_; rintro _ rfl)
          rw [hsm]
          try simp only [seval, go_sem, Nat.add_assoc, AB.calm, kpX, kpM, Nat.one_ne_zero]
          refine q0t (Sym.ACall.mono (secondA (A := A3) (p := p) (r := [.box [i64 RA.err, .sl 3 (prs (RA.vals.getD [])), .sl 8 (evts (RA.evs.getD [])), bool RA.lost], .box [i64 RB.err, .sl 3 (prs (RB.vals.getD [])), .sl 8 (evts (RB.evs.getD [])), bool RB.lost]]) (K := fun x m' => x = i64 (storN 3 B3 3 : Nat) ∧ m' = two 3 p p2 A3 B3 [.box [i64 RA.err, .sl 3 (prs (RA.vals.getD [])), .sl 8 (evts (RA.evs.getD [])), bool RA.lost], .box [i64 RB.err, .sl 3 (prs (RB.vals.getD [])), .sl 8 (evts (RB.evs.getD [])), bool RB.lost]]) hSB (args := [.ptr (mlen 3) 0]) (by simp only [q0e]; rw [← ptr2]) rfl (by rintro x m' ⟨rfl, rfl⟩; exact ⟨rfl, _, rfl, rfl, rfl⟩)) ?_)
          rintro _ _ ⟨rfl, rfl⟩
          try simp only [seval, go_sem, Nat.add_assoc, AB.calm, kpX, kpM, Nat.one_ne_zero, tb_at0, tb_at1]
          refine q0t (mod_in hSA rfl ?_)
          rintro _ _ ⟨rfl, rfl⟩
          refine ⟨rfl, _, rfl, ?_⟩
          try simp only [seval, go_sem, Nat.add_assoc, AB.calm, kpX, kpM, Nat.one_ne_zero, g1, g2]
          refine q0t (mod_in (q3g 3 p A3) rfl ?_)
          rintro _ _ ⟨rfl, rfl⟩
          refine ⟨rfl, _, rfl, ?_⟩
          try simp only [seval, go_sem, Nat.add_assoc, AB.calm, kpX, kpM, Nat.one_ne_zero, q2d]
          refine q0t (Sym.ACall.mono (secondA (A := A3) (p := p) (r := [.box [i64 RA.err, .sl 3 (prs (RA.vals.getD [])), .sl 8 (evts (RA.evs.getD [])), bool RA.lost], .box [i64 RB.err, .sl 3 (prs (RB.vals.getD [])), .sl 8 (evts (RB.evs.getD [])), bool RB.lost]]) (K := fun x m' => x = q2d B3.t ∧ m' = two 3 p p2 A3 B3 [.box [i64 RA.err, .sl 3 (prs (RA.vals.getD [])), .sl 8 (evts (RA.evs.getD [])), bool RA.lost], .box [i64 RB.err, .sl 3 (prs (RB.vals.getD [])), .sl 8 (evts (RB.evs.getD [])), bool RB.lost]]) hTB (args := [.ptr (mlen 3) 0]) (by simp only [q0e]; rw [← ptr2]) rfl (by rintro x m' ⟨rfl, rfl⟩; exact ⟨rfl, _, rfl, rfl, rfl⟩)) ?_)
          rintro _ _ ⟨rfl, rfl⟩
          try simp only [seval, go_sem, Nat.add_assoc, AB.calm, kpX, kpM, Nat.one_ne_zero, q2d, g3, ew, tb_at0, tb_at1]
          simp only [q0f, St.trunc, St.keep, q00, q01, keepV, ml_n0, ml_k0, ml_kl, ml_kl0, ml_le, tb_ret, List.drop_zero, List.elem_cons, List.elem_nil, Nat.reduceAdd, Nat.reduceBEq, Nat.le_refl, Nat.zero_add, Bool.false_eq_true, ↓reduceIte]
          exact ⟨(i + 1, A3, B3), ⟨hlt, hA2, hB2, hS2⟩, by simp only; omega, rfl⟩
    · try simp only [seval, go_sem, Nat.add_assoc, AB.calm, kpX, kpM, Nat.one_ne_zero]
      apply hK
      simp only [Tryz.results10, retK, ares, Bool.and_true, Bool.true_and, AV.ofResults, St.trunc, q00, q01, List.getD_cons_zero, List.getD_cons_succ, List.take_zero, List.map_nil, true_and, and_true, List.cons.injEq, exists_eq_left']
      try rfl
  · try simp only [seval, go_sem]
    (refine q02 law_awake rfl ?_; rintro _ rfl)
    try simp only [seval, go_sem]
    apply hK
    simp only [Tryz.results10, retK, ares, List.take_nil, Bool.and_true, Bool.true_and, AV.ofResults, St.trunc, q00, q01, List.getD_cons_zero, List.getD_cons_succ, List.map_nil, true_and, and_true, List.cons.injEq, exists_eq_left']
    try rfl
def shapesModelSweeps : List (Bool × List Lf) := [(false, [.sl 10 true [.int .u8, .int .i64, .int .i64, .str, .int .i64, .int .i64, .int .i64, .int .u64, .sl 1 false [.str], .int .u64]]), (false, [.sl 1 false [.int .u8]])]
theorem shapesModelSweeps_ok : argShapes T 6 [29, 68] = some shapesModelSweeps := by kernel_rfl
theorem law_ModelSweeps (xs : List AV) (h : argsFit shapesModelSweeps xs) : PCall P 10 xs (fun x => x = .v (.bool true)) := by
  obtain ⟨_, _, rfl, ⟨_, _, rfl, ⟨ys, rfl, hlen, hys⟩, rfl⟩, _, _, rfl, ⟨_, _, rfl, ⟨zs, rfl, hlen2, hzs⟩, rfl⟩, rfl⟩ := h
  obtain ⟨l, rfl, hl, hu⟩ := fits_acts hys
  obtain ⟨wh, rfl, hwb⟩ := fits_u8s hzs
  rw [q1p] at hlen
  rw [u8s_len] at hlen2
  exact law_sweeps l wh hlen hu hl hlen2 hwb
end Go.Proofs.YtdkcpcflfnakdaaGreat
namespace Go.Proofs.YtdkcpcflfnakdaaGreat.modelSweeps
open Go.ChangeShapes Go.WideShapes Go.ChangeAt Go.RowKit Go.Proofs.YtdkcpcflfnakdaaGreat.Sym
open Go.ChangeMaps (open_string shut_string)
theorem own : ownKnob Tryz.prog.godebug = none := by kernel_rfl
theorem laidOut : laidOutB Tryz.prog = true := by kernel_rfl
set_option maxRecDepth 100000 in
theorem lifted (os : Os) (started : os.Started) (H : Type) (enc : TypeId × Value → H) :
    ReturnsInHanded {} Tryz.checked os 10 .any (Rows.modelSweepsSpec.pre6 enc Tryz.prog Tryz.f10 Rows.modelSweepsRow.domain false) (Rows.modelSweepsSpec.post enc Tryz.prog Tryz.f10 false true false false) := by
  refine returnsInHanded_of_change_sized (C := Tryz.checked) own started (by kernel_rfl) Tryz.func10
    (ChangeSpec.witness6 (enc := enc) (C := Tryz.checked) false ⟨#[], #[.slice none 0 0, .slice none 0 0], []⟩ 8 (by kernel_rfl) (by kernel_rfl) (by kernel_rfl) (by kernel_rfl)) ?_
  intro W base args ds gs before hval0 hW hcnd hsz0 _
  have hval : ∀ (j : Nat) t v, Tryz.f10.params[j]? = some t → args[j]? = some v → Value.okWide Tryz.prog W .any base t v := hval0
  have hW' := hW
  obtain ⟨p, q, hA0, hV, rfl, hfz, hnd⟩ := hW
  have hA : DataW.TrodAll enc Tryz.prog W 0 (fun _ => true) true Tryz.f10.params.toList args.toList ds p := hA0
  have hval2 : ∀ (j : Nat) t v, Tryz.f10.params.toList[j]? = some t → args.toList[j]? = some v → Value.okWide Tryz.prog W .any base t v := fun j t v h1 h2 => hval j t v (by simpa using h1) (by simpa using h2)
  rw [Tryz.params10] at hA hval2
  obtain ⟨xs, hfit, hrel⟩ := open_args tyOk _ _ _ _ _ shapesModelSweeps_ok hval2 hA
  obtain ⟨v0, vs0, d0, ds0, p0, q0, hargs, rfl, rfl, h0, r0⟩ := trodAll_cons hA
  obtain ⟨v1, vs1, d1, ds1, p1, q1, rfl, rfl, rfl, h1, r1⟩ := trodAll_cons r0
  obtain ⟨rfl, rfl, rfl⟩ := trodAll_nil r1
  obtain rfl : args = #[v0, v1] := by cases args; simp_all
  obtain ⟨rfl, rfl⟩ := trodVars_none hV
  have k0 := h0
  have lt0 : ∀ x ∈ p0, x.block < W.heap.size := by obtain ⟨m, hm⟩ := k0; exact DataW.trod_lt m _ _ _ hm
  have k1 := h1
  have lt1 : ∀ x ∈ p1, x.block < W.heap.size := by obtain ⟨m, hm⟩ := k1; exact DataW.trod_lt m _ _ _ hm
  clear hA0 hval0 hsz0 hval hval2
  refine (PCall.calls (law_ModelSweeps xs hfit) hrel (GlobOk.none (fun _ => rfl) (fun _ => rfl) (fun _ => rfl))).mono ?_
  rintro e W' ⟨y, x, rfl, rfl, hy, bel⟩
  obtain rfl := hy _ rfl
  exact ⟨_, rfl, _, _, _, [], _, [], hW', trodAll_mk1 (shut_bool Tryz.underlying4 _), (trodAll_cons_mk (Below.trod laidOut (by kernel_rfl) (of_decide_eq_true (by kernel_rfl)) k0 bel lt0) (trodAll_cons_mk (Below.trod laidOut (by kernel_rfl) (of_decide_eq_true (by kernel_rfl)) k1 bel lt1) trodAll_mk0)), rfl, bel.frame _, fun h => by cases h⟩
theorem over : Rows.modelSweepsRow.holds Tryz.pinned (OpenSpec.ofChange Rows.modelSweepsSpec) :=
  OpenClaim.holds_of_wide 10 Tryz.f10 rfl rfl rfl rfl rfl rfl rfl ⟨rfl, rfl, rfl, rfl, rfl⟩ rfl rfl rfl rfl rfl (by kernel_rfl) Tryz.func10 (by kernel_rfl)
    (of_decide_eq_true (by kernel_rfl)) (by unfold Func.isWrapper; first | (rw [if_pos (by decide +kernel)]; kernel_rfl) | (rw [if_neg (by decide +kernel)]; exact ⟨rfl, rfl⟩))
    (fun os started H enc _ => lifted os started H enc)
theorem proved : Rows.ModelSweepsSaid := over
#print axioms proved
end Go.Proofs.YtdkcpcflfnakdaaGreat.modelSweeps
namespace Go.Proofs.YtdkcpcflfnakdaaGreat
theorem modelSweeps_holds : Rows.ModelSweepsSaid := modelSweeps.proved
end Go.Proofs.YtdkcpcflfnakdaaGreat
