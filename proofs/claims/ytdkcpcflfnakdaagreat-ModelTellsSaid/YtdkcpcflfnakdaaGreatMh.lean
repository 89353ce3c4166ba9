/- The base of the laws of this seat: texts of this session, joined by a program. -/
import Derived.Test.YtdkcpcflfnakdaaGreatMg
import Derived.Test.YtdkcpcflfnakdaaGreatMe
namespace Go.Proofs.YtdkcpcflfnakdaaGreat
open Go Go.Proofs.YtdkcpcflfnakdaaGreat.Sym
attribute [-sevalprocAttr] Int.reduceToNat Int.reduceNatCast Int.reduceNatCast' Nat.reduceSubDiff
set_option maxRecDepth 100000
set_option maxHeartbeats 1000000
set_option maxHeartbeats 2000000
set_option linter.unusedSimpArgs false
set_option linter.unusedVariables false

def usersO (o : Opb) : List ByteArray := if (o.kind == 4) = true then [o.u] else o.us
abbrev strs (l : List ByteArray) : List AV := l.map fun x => str x
theorem strs_len (l : List ByteArray) : (strs l).length = l.length := by simp [strs]
theorem model_Users (o : Opb) (hk : (o.kind == 4 || o.kind == 5) = true) (hl : o.us.length ≤ 1000) : PCall P 13 [o.av] (fun x => x = .sl 1 (strs (usersO o))) := by
  refine q0r tyOk Tryz.func13 rfl rfl ?_
  intro K hK
  simp only [Tryz.ntmps13, List.length_cons, List.length_nil, Nat.reduceAdd, Nat.reduceSub, List.replicate, List.cons_append, List.nil_append]
  unfold usersO at hK
  try simp (maxSteps := 1000000) only [seval, Opb.av]
  cases h4 : (o.kind == 4)
  · rw [h4, Bool.false_or] at hk
    rw [h4, if_neg (by decide)] at hK
    try simp (maxSteps := 1000000) only [seval, hk, List.length_map]
    refine ⟨⟨by simp only [maxLen]; omega, by omega⟩, ?_⟩
    apply hK
    simp only [Tryz.results13, retK, ares, Bool.and_true, Bool.true_and, AV.ofResults, St.trunc, q00, q01, List.getD_cons_zero, List.getD_cons_succ, List.take_zero, List.drop_zero, List.map_nil, List.getElem?_cons_zero, List.getElem?_cons_succ, Nat.reduceLeDiff, true_and, and_true, ↓reduceIte, List.cons.injEq, exists_eq_left']
    rw [q2h (by simp)]
  · rw [h4, if_pos rfl] at hK
    try simp (maxSteps := 1000000) only [seval]
    apply hK
    simp only [Tryz.results13, retK, ares, List.take_nil, Bool.and_true, Bool.true_and, AV.ofResults, St.trunc, q00, q01, List.getD_cons_zero, List.getD_cons_succ, List.take_zero, List.take_succ_cons, List.drop_zero, List.map_nil, List.map_cons, List.getElem?_cons_zero, List.getElem?_cons_succ, List.length_cons, List.length_nil, Nat.reduceAdd, Nat.reduceLeDiff, Nat.le_refl, true_and, and_true, ↓reduceIte, List.cons.injEq, exists_eq_left']
    try rfl

def doR (n : Nat) (M : Md) (who : Int) (o : Opb) : Rp :=
  if (badO o || !inB who 0 7) = true then errR 1
  else if (o.kind == 1 || (o.kind == 2 || o.kind == 3)) = true then writeR n M o
  else if (o.kind == 8) = true then ⟨0, none, some (mergeF (rowsW M who n)), lostW M who n⟩
  else if M.t.cl = true then errR 5
  else if (o.kind == 6) = true then errR (if fullW n M who o.u = true then 4 else 0)
  else if (o.kind == 7) = true then errR 0
  else if (o.kind == 9) = true then errR 0
  else ⟨0, some ((usersO o).map (presOf n M)), none, false⟩
def doM (n : Nat) (M : Md) (who : Int) (o : Opb) : Md :=
  if (badO o || !inB who 0 7) = true then M
  else if (o.kind == 1 || (o.kind == 2 || o.kind == 3)) = true then M.write n o
  else if (o.kind == 8) = true then M.drains who n
  else if M.t.cl = true then M
  else if (o.kind == 6) = true then (if fullW n M who o.u = true then M else M.watchF (stN n o.u) who o.u)
  else if (o.kind == 7) = true then M.unwatchF (stN n o.u) who o.u
  else if (o.kind == 9) = true then M.shut
  else M
structure OpOk (o : Opb) : Prop where
  u : o.u.size ≤ 1000
  l : o.us.length ≤ 1000
  us : ∀ u ∈ o.us, u.size ≤ 1000
theorem kinds {o : Opb} (h : badO o = false) (h1 : (o.kind == 1 || (o.kind == 2 || o.kind == 3)) = false) (h8 : (o.kind == 8) = false) (h6 : (o.kind == 6) = false) (h7 : (o.kind == 7) = false) (h9 : (o.kind == 9) = false) : (o.kind == 4 || o.kind == 5) = true := by
  simp only [Bool.or_eq_false_iff] at h1
  unfold badO at h
  rw [h1.1, h1.2.1, h1.2.2, h6, h7, h8, h9] at h
  cases h4 : (o.kind == 4) with
  | true => rfl
  | false =>
    cases h5 : (o.kind == 5) with
    | true => rfl
    | false => rw [h4, h5] at h; simp at h
theorem in_cli {who : Int} (h : inB who 0 7 = true) : cli who = true := by
  simp only [inB, cli, Bool.and_eq_true, decide_eq_true_eq] at h ⊢
  omega
theorem draw_lastD {P : Program} {T : TypeId → Option TI} {L : Nat} (hT : TyOk P T) (hm : P.follows .mixedOrders = true) {ops : Array Oper} {id : Nat} {k : List Fr} {s : St} {K : AExit → St → Prop} {c : Nat} {last : Oper}
    (hops : ops.toList.getLast? = some last) (hg : last.guard = none) (hnl : isNew last.op = false) (hL : L ≤ s.mem.length) (hb : backOk ops.toList 0 = true) (hc : q11 ops.toList.dropLast = c) (hla : lateAll (masks ops.toList []) ops.toList.dropLast.length = true)
    (h : drawR P T L ops ops.toList.dropLast 0 s.mem.length [] (.ops ops [last] :: k) { s with mem := s.mem ++ List.replicate c .gone } K) : restK P T L (.region id ops true) k s K :=
  draw_last hT hm (by obtain ⟨ys, e⟩ := List.getLast?_eq_some_iff.1 hops; rw [e, List.dropLast_concat]) hg hnl hL hb hc hla h
theorem Presence_in {n pad B : Nat} {M : Md} (h : MOk n B M) (u : ByteArray) (hl : u.size ≤ 1000000) (r : List AB) : ACall P 21 (modM n pad M ++ r) [.ptr 0 0, str u] (fun x m' => x = (presOf n M u).av ∧ m' = modM n pad M ++ r) :=
  mod_in (model_Presence h u hl) rfl (by rintro x m' ⟨rfl, rfl⟩; exact ⟨rfl, M, rfl, rfl, rfl⟩)
def wrE (n : Nat) (M : Md) (o : Opb) : Int := if M.t.cl = true then 5 else (q2s (M.b (stN n o.u)) o M.t.now M.c.k).2
theorem wr_av (n : Nat) (M : Md) (o : Opb) : (writeR n M o).av = .agg [i64 (wrE n M o), .v (.slice none 0 0), .v (.slice none 0 0), bool false] := by
  unfold writeR wrE
  split <;> rfl
theorem wr_bks (n : Nat) (M : Md) (o : Opb) : bks (writeR n M o).av = [] := by rw [wr_av]; rfl
theorem model_Do {n pad B : Nat} {M : Md} (h : MOk n B M) (hB : B + 1 ≤ 900) (who : Int) (o : Opb) (ho : OpOk o) : q0s P 3 19 (modM n pad M) [.ptr 0 0, i64 who, o.av]
    (fun x m' => x = (doR n M who o).av ∧ m' = modM n pad (doM n M who o)) := by
  refine q2y tyOk Tryz.func19 rfl rfl (by rw [q08, mlen]; omega) ?_
  intro K hK
  rw [q08] at hK
  simp only [Tryz.ntmps19, List.length_cons, List.length_nil, Nat.reduceAdd, Nat.reduceSub, List.replicate, List.cons_append, List.nil_append]
  unfold doR doM at hK
  have hBad := model_Bad o ho.l
  unfold Opb.av at hBad
  try simp (maxSteps := 1000000) only [seval, mm_0, mm_1, mm_2, mm_0n, mm_1n, mm_2n, q0d, q0b, q0e, q0f, q0i, mm_s0, mm_s1, mm_s2, mm_s3, q0a, q06, q08, q09, q0j, q04, q02, q05, q03, Nat.add_assoc, AB.calm, kpX, kpM, ml_z, ml_1, ml_l, ml_r, ml_b, ml_le, ml_0, ml_0k, Nat.one_ne_zero, List.all_cons, List.all_nil, Opb.av]
  (refine q07 hBad rfl ?_; rintro _ rfl)
  cases hb : badO o with
  | true =>
    simp only [hb, Bool.true_or, ↓reduceIte] at hK
    try simp (maxSteps := 1000000) only [seval, mm_0, mm_1, mm_2, mm_0n, mm_1n, mm_2n, q0d, q0b, q0e, q0f, q0i, mm_s0, mm_s1, mm_s2, mm_s3, q0a, q06, q08, q09, q0j, q04, q02, q05, q03, Nat.add_assoc, AB.calm, kpX, kpM, ml_z, ml_1, ml_l, ml_r, ml_b, ml_le, ml_0, ml_0k, Nat.one_ne_zero, List.all_cons, List.all_nil]
    apply hK
    simp only [Tryz.results19, retK, ares, Bool.and_true, AV.ofResults, St.trunc, q00, q01, aload, acell, T, TI.isAgg, List.getD_cons_zero, List.getD_cons_succ, List.drop_zero, and_true, ↓reduceIte, List.cons.injEq, exists_eq_left']
    simp only [q0b, List.getElem?_cons_zero, List.getElem?_cons_succ, List.take_succ_cons, List.take_zero, q2n, and_true, true_and, List.length_cons, List.length_nil, q00, q01, Nat.reduceAdd, Nat.le_refl]
    first | rfl | exact ⟨rfl, rfl⟩
  | false =>
  try simp (maxSteps := 1000000) only [seval, mm_0, mm_1, mm_2, mm_0n, mm_1n, mm_2n, q0d, q0b, q0e, q0f, q0i, mm_s0, mm_s1, mm_s2, mm_s3, q0a, q06, q08, q09, q0j, q04, q02, q05, q03, Nat.add_assoc, AB.calm, kpX, kpM, ml_z, ml_1, ml_l, ml_r, ml_b, ml_le, ml_0, ml_0k, Nat.one_ne_zero, List.all_cons, List.all_nil]
  (refine q07 (q2t who 0 7) rfl ?_; rintro _ rfl)
  cases hw : inB who 0 7 with
  | false =>
    simp only [hb, hw, Bool.or_true, Bool.not_false, ↓reduceIte] at hK
    try simp (maxSteps := 1000000) only [seval, mm_0, mm_1, mm_2, mm_0n, mm_1n, mm_2n, q0d, q0b, q0e, q0f, q0i, mm_s0, mm_s1, mm_s2, mm_s3, q0a, q06, q08, q09, q0j, q04, q02, q05, q03, Nat.add_assoc, AB.calm, kpX, kpM, ml_z, ml_1, ml_l, ml_r, ml_b, ml_le, ml_0, ml_0k, Nat.one_ne_zero, List.all_cons, List.all_nil]
    apply hK
    simp only [Tryz.results19, retK, ares, Bool.and_true, AV.ofResults, St.trunc, q00, q01, aload, acell, T, TI.isAgg, List.getD_cons_zero, List.getD_cons_succ, List.drop_zero, and_true, ↓reduceIte, List.cons.injEq, exists_eq_left']
    simp only [q0b, List.getElem?_cons_zero, List.getElem?_cons_succ, List.take_succ_cons, List.take_zero, q2n, and_true, true_and, List.length_cons, List.length_nil, q00, q01, Nat.reduceAdd, Nat.le_refl]
    first | rfl | exact ⟨rfl, rfl⟩
  | true =>
  simp only [hb, hw, Bool.not_true, Bool.or_self, Bool.false_eq_true, ↓reduceIte] at hK
  have hWr := model_write (pad := pad) h hB o (by have := ho.u; omega)
  unfold Opb.av at hWr
  have hcl := in_cli hw
  cases h1 : (o.kind == 1 || (o.kind == 2 || o.kind == 3)) with
  | true =>
    simp only [h1, ↓reduceIte] at hK
    have key : (P : Prop) → (K2 : Prop) → K2 → K2 := fun _ _ h => h
    cases k1 : (o.kind == 1) with
    | true =>
      try simp (maxSteps := 1000000) only [seval, mm_0, mm_1, mm_2, mm_0n, mm_1n, mm_2n, q0d, q0b, q0e, q0f, q0i, mm_s0, mm_s1, mm_s2, mm_s3, q0a, q06, q08, q09, q0j, q04, q02, q05, q03, Nat.add_assoc, AB.calm, kpX, kpM, ml_z, ml_1, ml_l, ml_r, ml_b, ml_le, ml_0, ml_0k, Nat.one_ne_zero, List.all_cons, List.all_nil, k1]
      refine q2i (kp := kpX n) (fun b hb => by simp [kpX, show b < 3 by omega]) (mod_inX hWr rfl ?_ ?_)
      · rfl
      rintro x m' ⟨rfl, rfl⟩
      refine ⟨wr_bks n M o, _, rfl, ?_⟩
      rw [wr_av n M o]
      try simp (maxSteps := 1000000) only [seval, mm_0, mm_1, mm_2, mm_0n, mm_1n, mm_2n, q0d, q0b, q0e, q0f, q0i, mm_s0, mm_s1, mm_s2, mm_s3, q0a, q06, q08, q09, q0j, q04, q02, q05, q03, Nat.add_assoc, AB.calm, kpX, kpM, ml_z, ml_1, ml_l, ml_r, ml_b, ml_le, ml_0, ml_0k, Nat.one_ne_zero, List.all_cons, List.all_nil]
      apply hK
      simp only [Tryz.results19, retK, ares, Bool.and_true, AV.ofResults, St.trunc, q00, q01, aload, acell, T, TI.isAgg, List.getD_cons_zero, List.getD_cons_succ, List.drop_zero, and_true, ↓reduceIte, List.cons.injEq, exists_eq_left']
      simp only [q0b, List.getElem?_cons_zero, List.getElem?_cons_succ, List.take_succ_cons, List.take_zero, q2n, and_true, true_and, List.length_cons, List.length_nil, q00, q01, Nat.reduceAdd, Nat.le_refl]
      first | exact (wr_av n M o).symm | exact ⟨(wr_av n M o).symm, rfl⟩
    | false =>
      rw [k1, Bool.false_or] at h1
      cases k2 : (o.kind == 2) with
      | true =>
        try simp (maxSteps := 1000000) only [seval, mm_0, mm_1, mm_2, mm_0n, mm_1n, mm_2n, q0d, q0b, q0e, q0f, q0i, mm_s0, mm_s1, mm_s2, mm_s3, q0a, q06, q08, q09, q0j, q04, q02, q05, q03, Nat.add_assoc, AB.calm, kpX, kpM, ml_z, ml_1, ml_l, ml_r, ml_b, ml_le, ml_0, ml_0k, Nat.one_ne_zero, List.all_cons, List.all_nil, k1, k2]
        refine q2i (kp := kpX n) (fun b hb => by simp [kpX, show b < 3 by omega]) (mod_inX hWr rfl ?_ ?_)
        · rfl
        rintro x m' ⟨rfl, rfl⟩
        refine ⟨wr_bks n M o, _, rfl, ?_⟩
        rw [wr_av n M o]
        try simp (maxSteps := 1000000) only [seval, mm_0, mm_1, mm_2, mm_0n, mm_1n, mm_2n, q0d, q0b, q0e, q0f, q0i, mm_s0, mm_s1, mm_s2, mm_s3, q0a, q06, q08, q09, q0j, q04, q02, q05, q03, Nat.add_assoc, AB.calm, kpX, kpM, ml_z, ml_1, ml_l, ml_r, ml_b, ml_le, ml_0, ml_0k, Nat.one_ne_zero, List.all_cons, List.all_nil]
        apply hK
        simp only [Tryz.results19, retK, ares, Bool.and_true, AV.ofResults, St.trunc, q00, q01, aload, acell, T, TI.isAgg, List.getD_cons_zero, List.getD_cons_succ, List.drop_zero, and_true, ↓reduceIte, List.cons.injEq, exists_eq_left']
        simp only [q0b, List.getElem?_cons_zero, List.getElem?_cons_succ, List.take_succ_cons, List.take_zero, q2n, and_true, true_and, List.length_cons, List.length_nil, q00, q01, Nat.reduceAdd, Nat.le_refl]
        first | exact (wr_av n M o).symm | exact ⟨(wr_av n M o).symm, rfl⟩
      | false =>
        rw [k2, Bool.false_or] at h1
        try simp (maxSteps := 1000000) only [seval, mm_0, mm_1, mm_2, mm_0n, mm_1n, mm_2n, q0d, q0b, q0e, q0f, q0i, mm_s0, mm_s1, mm_s2, mm_s3, q0a, q06, q08, q09, q0j, q04, q02, q05, q03, Nat.add_assoc, AB.calm, kpX, kpM, ml_z, ml_1, ml_l, ml_r, ml_b, ml_le, ml_0, ml_0k, Nat.one_ne_zero, List.all_cons, List.all_nil, k1, k2, h1]
        refine q2i (kp := kpX n) (fun b hb => by simp [kpX, show b < 3 by omega]) (mod_inX hWr rfl ?_ ?_)
        · rfl
        rintro x m' ⟨rfl, rfl⟩
        refine ⟨wr_bks n M o, _, rfl, ?_⟩
        rw [wr_av n M o]
        try simp (maxSteps := 1000000) only [seval, mm_0, mm_1, mm_2, mm_0n, mm_1n, mm_2n, q0d, q0b, q0e, q0f, q0i, mm_s0, mm_s1, mm_s2, mm_s3, q0a, q06, q08, q09, q0j, q04, q02, q05, q03, Nat.add_assoc, AB.calm, kpX, kpM, ml_z, ml_1, ml_l, ml_r, ml_b, ml_le, ml_0, ml_0k, Nat.one_ne_zero, List.all_cons, List.all_nil]
        apply hK
        simp only [Tryz.results19, retK, ares, Bool.and_true, AV.ofResults, St.trunc, q00, q01, aload, acell, T, TI.isAgg, List.getD_cons_zero, List.getD_cons_succ, List.drop_zero, and_true, ↓reduceIte, List.cons.injEq, exists_eq_left']
        simp only [q0b, List.getElem?_cons_zero, List.getElem?_cons_succ, List.take_succ_cons, List.take_zero, q2n, and_true, true_and, List.length_cons, List.length_nil, q00, q01, Nat.reduceAdd, Nat.le_refl]
        first | exact (wr_av n M o).symm | exact ⟨(wr_av n M o).symm, rfl⟩
  | false =>
  have k1 : (o.kind == 1) = false := by simp only [Bool.or_eq_false_iff] at h1; exact h1.1
  have k2 : (o.kind == 2) = false := by simp only [Bool.or_eq_false_iff] at h1; exact h1.2.1
  have k3 : (o.kind == 3) = false := by simp only [Bool.or_eq_false_iff] at h1; exact h1.2.2
  simp only [h1, Bool.false_eq_true, ↓reduceIte] at hK
  cases h8 : (o.kind == 8) with
  | true =>
    simp only [h8, ↓reduceIte] at hK
    have hPo := model_poll (pad := pad) h who hcl
    try simp (maxSteps := 1000000) only [seval, mm_0, mm_1, mm_2, mm_0n, mm_1n, mm_2n, q0d, q0b, q0e, q0f, q0i, mm_s0, mm_s1, mm_s2, mm_s3, q0a, q06, q08, q09, q0j, q04, q02, q05, q03, Nat.add_assoc, AB.calm, kpX, kpM, ml_z, ml_1, ml_l, ml_r, ml_b, ml_le, ml_0, ml_0k, Nat.one_ne_zero, List.all_cons, List.all_nil, k1, k2, k3, h8]
    refine q2i (kp := kpX n) (fun b hb => by simp [kpX, show b < 3 by omega]) (mod_inX hPo rfl ?_ ?_)
    · rfl
    rintro x m' ⟨rfl, rfl⟩
    refine ⟨by rfl, _, rfl, ?_⟩
    try simp (maxSteps := 1000000) only [seval, mm_0, mm_1, mm_2, mm_0n, mm_1n, mm_2n, q0d, q0b, q0e, q0f, q0i, mm_s0, mm_s1, mm_s2, mm_s3, q0a, q06, q08, q09, q0j, q04, q02, q05, q03, Nat.add_assoc, AB.calm, kpX, kpM, ml_z, ml_1, ml_l, ml_r, ml_b, ml_le, ml_0, ml_0k, Nat.one_ne_zero, List.all_cons, List.all_nil, Rp.av, Option.map_none, Option.map_some, slO]
    apply hK
    simp only [Tryz.results19, retK, ares, Bool.and_true, AV.ofResults, St.trunc, q00, q01, aload, acell, T, TI.isAgg, List.getD_cons_zero, List.getD_cons_succ, List.drop_zero, and_true, ↓reduceIte, List.cons.injEq, exists_eq_left']
    simp only [q0b, List.getElem?_cons_zero, List.getElem?_cons_succ, List.take_succ_cons, List.take_zero, q2n, and_true, true_and, List.length_cons, List.length_nil, q00, q01, Nat.reduceAdd, Nat.le_refl]
    first | rfl | exact ⟨rfl, rfl⟩
  | false =>
  simp only [h8, Bool.false_eq_true, ↓reduceIte] at hK
  cases hc : M.t.cl with
  | true =>
    simp only [hc, ↓reduceIte] at hK
    try simp (maxSteps := 1000000) only [seval, mm_0, mm_1, mm_2, mm_0n, mm_1n, mm_2n, q0d, q0b, q0e, q0f, q0i, mm_s0, mm_s1, mm_s2, mm_s3, q0a, q06, q08, q09, q0j, q04, q02, q05, q03, Nat.add_assoc, AB.calm, kpX, kpM, ml_z, ml_1, ml_l, ml_r, ml_b, ml_le, ml_0, ml_0k, Nat.one_ne_zero, List.all_cons, List.all_nil, k1, k2, k3, h8, hc]
    apply hK
    simp only [Tryz.results19, retK, ares, Bool.and_true, AV.ofResults, St.trunc, q00, q01, aload, acell, T, TI.isAgg, List.getD_cons_zero, List.getD_cons_succ, List.drop_zero, and_true, ↓reduceIte, List.cons.injEq, exists_eq_left']
    simp only [q0b, List.getElem?_cons_zero, List.getElem?_cons_succ, List.take_succ_cons, List.take_zero, q2n, and_true, true_and, List.length_cons, List.length_nil, q00, q01, Nat.reduceAdd, Nat.le_refl]
    first | rfl | exact ⟨rfl, rfl⟩
  | false =>
  simp only [hc, Bool.false_eq_true, ↓reduceIte] at hK
  cases h6 : (o.kind == 6) with
  | true =>
    simp only [h6, ↓reduceIte] at hK
    try simp (maxSteps := 1000000) only [seval, mm_0, mm_1, mm_2, mm_0n, mm_1n, mm_2n, q0d, q0b, q0e, q0f, q0i, mm_s0, mm_s1, mm_s2, mm_s3, q0a, q06, q08, q09, q0j, q04, q02, q05, q03, Nat.add_assoc, AB.calm, kpX, kpM, ml_z, ml_1, ml_l, ml_r, ml_b, ml_le, ml_0, ml_0k, Nat.one_ne_zero, List.all_cons, List.all_nil, k1, k2, k3, h8, hc, h6]
    refine q30 (mod_in (model_watch h who o.u (by have := ho.u; omega)) rfl ?_)
    rintro _ _ ⟨rfl, rfl⟩
    refine ⟨rfl, _, rfl, ?_⟩
    try simp (maxSteps := 1000000) only [seval, mm_0, mm_1, mm_2, mm_0n, mm_1n, mm_2n, q0d, q0b, q0e, q0f, q0i, mm_s0, mm_s1, mm_s2, mm_s3, q0a, q06, q08, q09, q0j, q04, q02, q05, q03, Nat.add_assoc, AB.calm, kpX, kpM, ml_z, ml_1, ml_l, ml_r, ml_b, ml_le, ml_0, ml_0k, Nat.one_ne_zero, List.all_cons, List.all_nil]
    apply hK
    simp only [Tryz.results19, retK, ares, Bool.and_true, AV.ofResults, St.trunc, q00, q01, aload, acell, T, TI.isAgg, List.getD_cons_zero, List.getD_cons_succ, List.drop_zero, and_true, ↓reduceIte, List.cons.injEq, exists_eq_left']
    simp only [q0b, List.getElem?_cons_zero, List.getElem?_cons_succ, List.take_succ_cons, List.take_zero, q2n, and_true, true_and, List.length_cons, List.length_nil, q00, q01, Nat.reduceAdd, Nat.le_refl]
    first | rfl | exact ⟨rfl, rfl⟩
  | false =>
  simp only [h6, Bool.false_eq_true, ↓reduceIte] at hK
  cases h7 : (o.kind == 7) with
  | true =>
    simp only [h7, ↓reduceIte] at hK
    try simp (maxSteps := 1000000) only [seval, mm_0, mm_1, mm_2, mm_0n, mm_1n, mm_2n, q0d, q0b, q0e, q0f, q0i, mm_s0, mm_s1, mm_s2, mm_s3, q0a, q06, q08, q09, q0j, q04, q02, q05, q03, Nat.add_assoc, AB.calm, kpX, kpM, ml_z, ml_1, ml_l, ml_r, ml_b, ml_le, ml_0, ml_0k, Nat.one_ne_zero, List.all_cons, List.all_nil, k1, k2, k3, h8, hc, h6, h7]
    have hs := (stN_lt h.n1 h.n8 o.u).1
    have hstr := stripe_in (pad := pad) h o.u (by have := ho.u; omega)
    generalize stN n o.u = k at *
    have c1 : (0 : Int) ≤ ((k : Nat) : Int) ∧ Int.toNat ((k : Nat) : Int) < n := by omega
    obtain ⟨hp1, hp2⟩ := ptr_load (pad := pad) hs
    refine draw_lastD tyOk (by rfl) rfl rfl rfl (by simp only [q09, List.length_cons, List.length_nil, mlen]; omega) (by kernel_rfl) rfl (by kernel_rfl) ?_
    simp only [List.dropLast, List.getLast]
    try simp (maxSteps := 1000000) only [seval, mm_0, mm_1, mm_2, mm_0n, mm_1n, mm_2n, q0d, q0b, q0e, q0f, q0i, mm_s0, mm_s1, mm_s2, mm_s3, q0a, q06, q08, q09, q0j, q04, q02, q05, q03, Nat.add_assoc, AB.calm, kpX, kpM, ml_z, ml_1, ml_l, ml_r, ml_b, ml_le, ml_0, ml_0k, Nat.one_ne_zero, List.all_cons, List.all_nil]
    refine q5c (hstr _) (by rfl) ?_
    try simp (maxSteps := 1000000) only [seval, mm_0, mm_1, mm_2, mm_0n, mm_1n, mm_2n, q0d, q0b, q0e, q0f, q0i, mm_s0, mm_s1, mm_s2, mm_s3, q0a, q06, q08, q09, q0j, q04, q02, q05, q03, Nat.add_assoc, AB.calm, kpX, kpM, ml_z, ml_1, ml_l, ml_r, ml_b, ml_le, ml_0, ml_0k, Nat.one_ne_zero, List.all_cons, List.all_nil, c1, hp1, hp2]
    refine ⟨by kernel_rfl, ?_⟩
    try simp (maxSteps := 1000000) only [seval, mm_0, mm_1, mm_2, mm_0n, mm_1n, mm_2n, q0d, q0b, q0e, q0f, q0i, mm_s0, mm_s1, mm_s2, mm_s3, q0a, q06, q08, q09, q0j, q04, q02, q05, q03, Nat.add_assoc, AB.calm, kpX, kpM, ml_z, ml_1, ml_l, ml_r, ml_b, ml_le, ml_0, ml_0k, Nat.one_ne_zero, List.all_cons, List.all_nil]
    refine q30 ((Unwatch_in h _ hs who o.u).mono ?_)
    rintro _ _ rfl
    try simp (maxSteps := 1000000) only [seval, mm_0, mm_1, mm_2, mm_0n, mm_1n, mm_2n, q0d, q0b, q0e, q0f, q0i, mm_s0, mm_s1, mm_s2, mm_s3, q0a, q06, q08, q09, q0j, q04, q02, q05, q03, Nat.add_assoc, AB.calm, kpX, kpM, ml_z, ml_1, ml_l, ml_r, ml_b, ml_le, ml_0, ml_0k, Nat.one_ne_zero, List.all_cons, List.all_nil]
    apply hK
    simp only [Tryz.results19, retK, ares, Bool.and_true, AV.ofResults, St.trunc, q00, q01, aload, acell, T, TI.isAgg, List.getD_cons_zero, List.getD_cons_succ, List.drop_zero, and_true, ↓reduceIte, List.cons.injEq, exists_eq_left']
    simp only [q0b, List.getElem?_cons_zero, List.getElem?_cons_succ, List.take_succ_cons, List.take_zero, q2n, and_true, true_and, List.length_cons, List.length_nil, q00, q01, Nat.reduceAdd, Nat.le_refl]
    first | rfl | exact ⟨rfl, rfl⟩
  | false =>
  simp only [h7, Bool.false_eq_true, ↓reduceIte] at hK
  cases h9 : (o.kind == 9) with
  | true =>
    simp only [h9, ↓reduceIte] at hK
    try simp (maxSteps := 1000000) only [seval, mm_0, mm_1, mm_2, mm_0n, mm_1n, mm_2n, q0d, q0b, q0e, q0f, q0i, mm_s0, mm_s1, mm_s2, mm_s3, q0a, q06, q08, q09, q0j, q04, q02, q05, q03, Nat.add_assoc, AB.calm, kpX, kpM, ml_z, ml_1, ml_l, ml_r, ml_b, ml_le, ml_0, ml_0k, Nat.one_ne_zero, List.all_cons, List.all_nil, k1, k2, k3, h8, hc, h6, h7, h9]
    have hSh := tick_Shut M.t
    rw [hc] at hSh
    (refine q07 hSh rfl ?_; rintro _ rfl)
    try simp (maxSteps := 1000000) only [seval, mm_0, mm_1, mm_2, mm_0n, mm_1n, mm_2n, q0d, q0b, q0e, q0f, q0i, mm_s0, mm_s1, mm_s2, mm_s3, q0a, q06, q08, q09, q0j, q04, q02, q05, q03, Nat.add_assoc, AB.calm, kpX, kpM, ml_z, ml_1, ml_l, ml_r, ml_b, ml_le, ml_0, ml_0k, Nat.one_ne_zero, List.all_cons, List.all_nil]
    apply hK
    simp only [Tryz.results19, retK, ares, Bool.and_true, AV.ofResults, St.trunc, q00, q01, aload, acell, T, TI.isAgg, List.getD_cons_zero, List.getD_cons_succ, List.drop_zero, and_true, ↓reduceIte, List.cons.injEq, exists_eq_left']
    simp only [q0b, List.getElem?_cons_zero, List.getElem?_cons_succ, List.take_succ_cons, List.take_zero, q2n, true_and, List.length_cons, List.length_nil, q00, q01, Nat.reduceAdd, Nat.le_refl]
    first | rfl | exact ⟨rfl, rfl⟩
  | false =>
  simp only [h9, Bool.false_eq_true, ↓reduceIte] at hK
  have hk := kinds hb h1 h8 h6 h7 h9
  have hU := model_Users o hk ho.l
  unfold Opb.av at hU
  try simp (maxSteps := 1000000) only [seval, mm_0, mm_1, mm_2, mm_0n, mm_1n, mm_2n, q0d, q0b, q0e, q0f, q0i, mm_s0, mm_s1, mm_s2, mm_s3, q0a, q06, q08, q09, q0j, q04, q02, q05, q03, Nat.add_assoc, AB.calm, kpX, kpM, ml_z, ml_1, ml_l, ml_r, ml_b, ml_le, ml_0, ml_0k, Nat.one_ne_zero, List.all_cons, List.all_nil, k1, k2, k3, h8, hc, h6, h7, h9]
  (refine q07 hU rfl ?_; rintro _ rfl)
  try simp (maxSteps := 1000000) only [seval, mm_0, mm_1, mm_2, mm_0n, mm_1n, mm_2n, q0d, q0b, q0e, q0f, q0i, mm_s0, mm_s1, mm_s2, mm_s3, q0a, q06, q08, q09, q0j, q04, q02, q05, q03, Nat.add_assoc, AB.calm, kpX, kpM, ml_z, ml_1, ml_l, ml_r, ml_b, ml_le, ml_0, ml_0k, Nat.one_ne_zero, List.all_cons, List.all_nil, strs_len]
  refine loopK_turn (Turns.adoptIn (b := mlen n + 2) (c := 1) 44 3 (q0e _ _ _ _) rfl) ?_
  have hus : (usersO o).length ≤ 1000 := by
    unfold usersO
    split
    · simp
    · exact ho.l
  have husz : ∀ u ∈ usersO o, u.size ≤ 1000 := by
    unfold usersO
    split
    · intro u hu; rw [List.mem_singleton.1 hu]; exact ho.u
    · exact ho.us
  generalize usersO o = us at *
  try simp (maxSteps := 1000000) only [seval, mm_0, mm_1, mm_2, mm_0n, mm_1n, mm_2n, q0d, q0b, q0e, q0f, q0i, mm_s0, mm_s1, mm_s2, mm_s3, q0a, q06, q08, q09, q0j, q04, q02, q05, q03, Nat.add_assoc, AB.calm, kpX, kpM, ml_z, ml_1, ml_l, ml_r, ml_b, ml_le, ml_0, ml_0k, Nat.one_ne_zero, List.all_cons, List.all_nil, strs_len]
  refine q1h tyOk (α := Nat) (mlen n + 4) [0, 5, 6, 7, 41, 42, 43] (fun i => i ≤ us.length)
    (fun i => ⟨[.ptr 0 0, .any, .any, .any, .any, .ptr (mlen n) 0, .ptr (mlen n + 1) 0, .ptr (mlen n + 2) 0, .any, .any, .any, .any, .any, .any, .any, .any, .any, .any, .any, .any, .any, .any, .any, .any, .any, .any, .any, .any, .any, .any, .any, .any, .any, .any, .any, .any, .any, .any, .any, .any, .any, .sl 1 (strs us), i64 us.length, i64 i, .any, .any, .any, .any, .any, .any, .any, .any, .any, .any, .any, .any, .any, .any, .any, .any, .any, .any, .any, .any, .any, .any, .any, .any, .any, .any, .any, .any, .any, .any, .any, .any, .any, .any, .any, .any, .any, .any, .any, .any, .any, .any, .any, .any, .any, .any, .any], modM n pad M ++ [.box [i64 o.kind, str o.u, i64 o.id, i64 o.st, i64 o.pr, u64 o.ttl, .sl 1 (o.us.map fun x => str x)], .box [i64 0, .v (.slice none 0 0), .v (.slice none 0 0), bool false], .box [i64 0, .own (mlen n + 3) 3 0 i, .v (.slice none 0 0), bool false], .row 44 3 (prs ((us.take i).map (presOf n M)))]⟩)
    (fun i => us.length - i) 0 (by omega) (Nat.zero_le _) ?_ ?_
  · simp only [St.trunc, St.keep, q00, q01, AB.trunc, keepV, ml_k0, ml_kl, ml_kl0, mm_rn4, Nat.reduceLeDiff, List.elem_cons, List.elem_nil, List.take_succ_cons, List.take_zero, List.map_cons, List.map_nil, Nat.reduceAdd, Nat.reduceBEq, Nat.zero_add, Bool.false_eq_true, ↓reduceIte]
    rfl
  intro i hi
  try simp (maxSteps := 1000000) only [seval, mm_0, mm_1, mm_2, mm_0n, mm_1n, mm_2n, q0d, q0b, q0e, q0f, q0i, mm_s0, mm_s1, mm_s2, mm_s3, q0a, q06, q08, q09, q0j, q04, q02, q05, q03, Nat.add_assoc, AB.calm, kpX, kpM, ml_z, ml_1, ml_l, ml_r, ml_b, ml_le, ml_0, ml_0k, Nat.one_ne_zero, List.all_cons, List.all_nil, strs_len]
  (first | refine q0g ?_ ?_ | refine q0k ?_ ?_ | refine q0l ?_ ?_ | refine q0m ?_ ?_ | refine q0h ?_ ?_) <;> intro hcc
  · have hlt : i < us.length := by simpa using hcc
    have c1 : (0 : Int) ≤ (i : Int) ∧ Int.toNat (i : Int) < us.length := by omega
    have eg : (strs us).getD (Int.toNat (i : Int)) .any = str us[i] := by
      simp [strs, List.getD_eq_getElem?_getD, hlt]
    have ew : IntKind.i64.wrap ((i : Int) + 1) = ((i + 1 : Nat) : Int) := by rw [wrap_i64 (by omega) (by omega)]; rfl
    have hPr := Presence_in (pad := pad) h us[i] (by have := husz _ (List.getElem_mem hlt); omega)
    have hpl : (prs ((us.take i).map (presOf n M))).length = i := by simp [prs]; omega
    try simp (maxSteps := 1000000) only [seval, mm_0, mm_1, mm_2, mm_0n, mm_1n, mm_2n, q0d, q0b, q0e, q0f, q0i, mm_s0, mm_s1, mm_s2, mm_s3, q0a, q06, q08, q09, q0j, q04, q02, q05, q03, Nat.add_assoc, AB.calm, kpX, kpM, ml_z, ml_1, ml_l, ml_r, ml_b, ml_le, ml_0, ml_0k, Nat.one_ne_zero, List.all_cons, List.all_nil, c1, eg, strs_len]
    refine q0w tyOk (by rfl) (by simp only [q09, List.length_cons, List.length_nil, mlen]; omega) (by kernel_rfl) rfl ?_
    try simp (maxSteps := 1000000) only [seval, mm_0, mm_1, mm_2, mm_0n, mm_1n, mm_2n, q0d, q0b, q0e, q0f, q0i, mm_s0, mm_s1, mm_s2, mm_s3, q0a, q06, q08, q09, q0j, q04, q02, q05, q03, Nat.add_assoc, AB.calm, kpX, kpM, ml_z, ml_1, ml_l, ml_r, ml_b, ml_le, ml_0, ml_0k, Nat.one_ne_zero, List.all_cons, List.all_nil]
    refine q5c (hPr _) (by rfl) ?_
    try simp (maxSteps := 1000000) only [seval, mm_0, mm_1, mm_2, mm_0n, mm_1n, mm_2n, q0d, q0b, q0e, q0f, q0i, mm_s0, mm_s1, mm_s2, mm_s3, q0a, q06, q08, q09, q0j, q04, q02, q05, q03, Nat.add_assoc, AB.calm, kpX, kpM, ml_z, ml_1, ml_l, ml_r, ml_b, ml_le, ml_0, ml_0k, Nat.one_ne_zero, List.all_cons, List.all_nil, Pr.av, hpl]
    refine ⟨⟨by simp only [maxLen]; omega, by omega⟩, ?_⟩
    have er : prs ((us.take i).map (presOf n M)) ++ [.agg [i64 (presOf n M us[i]).st, i64 (presOf n M us[i]).pr, i64 (presOf n M us[i]).n]] = prs ((us.take (i + 1)).map (presOf n M)) := by
      rw [q23 hlt, List.map_append, prs, prs, List.map_append]; rfl
    refine ⟨by (rcases n_cases h.n1 h.n8 with rfl | rfl | rfl | rfl | rfl | rfl | rfl | rfl <;> kernel_rfl), ?_⟩
    try simp (maxSteps := 1000000) only [seval, mm_0, mm_1, mm_2, mm_0n, mm_1n, mm_2n, q0d, q0b, q0e, q0f, q0i, mm_s0, mm_s1, mm_s2, mm_s3, q0a, q06, q08, q09, q0j, q04, q02, q05, q03, Nat.add_assoc, AB.calm, kpX, kpM, ml_z, ml_1, ml_l, ml_r, ml_b, ml_le, ml_0, ml_0k, Nat.one_ne_zero, List.all_cons, List.all_nil, ew]
    simp only [q0p, St.trunc, St.keep, q00, q01, AB.trunc, keepV, ml_k0, ml_kl, ml_kl0, mm_rn4, Nat.reduceLeDiff, er, List.elem_cons, List.elem_nil, List.take_succ_cons, List.take_zero, List.map_cons, List.map_nil, Nat.reduceAdd, Nat.reduceBEq, Nat.zero_add, Bool.false_eq_true, ↓reduceIte]
    exact ⟨i + 1, hlt, by omega, by rfl⟩
  · have hge : i = us.length := by have : ¬ ((i : Int) < (us.length : Int)) := by simpa using hcc
                                   omega
    subst hge
    rw [List.take_length]
    try simp (maxSteps := 1000000) only [seval, mm_0, mm_1, mm_2, mm_0n, mm_1n, mm_2n, q0d, q0b, q0e, q0f, q0i, mm_s0, mm_s1, mm_s2, mm_s3, q0a, q06, q08, q09, q0j, q04, q02, q05, q03, Nat.add_assoc, AB.calm, kpX, kpM, ml_z, ml_1, ml_l, ml_r, ml_b, ml_le, ml_0, ml_0k, Nat.one_ne_zero, List.all_cons, List.all_nil]
    apply hK
    simp only [Tryz.results19, retK, ares, Bool.and_true, AV.ofResults, St.trunc, q00, q01, aload, acell, T, TI.isAgg, List.getD_cons_zero, List.getD_cons_succ, List.drop_zero, and_true, ↓reduceIte, List.cons.injEq, exists_eq_left']
    simp only [q0b, q0f, List.getElem?_cons_zero, List.getElem?_cons_succ, List.take_succ_cons, List.take_zero, q2n, and_true, true_and, List.length_cons, List.length_nil, q00, q01, Nat.reduceAdd, Nat.le_refl]
    have hpl : (prs (us.map (presOf n M))).length = us.length := by simp [prs]
    simp only [ml_le, if_true, Nat.zero_add, hpl, Nat.le_refl, List.drop_zero]
    rw [List.take_of_length_le (by omega)]
    rfl
end Go.Proofs.YtdkcpcflfnakdaaGreat
namespace Go.Proofs.YtdkcpcflfnakdaaGreat
open Go Go.Proofs.YtdkcpcflfnakdaaGreat.Sym
attribute [-sevalprocAttr] Int.reduceToNat Int.reduceNatCast Int.reduceNatCast' Nat.reduceSubDiff
set_option maxRecDepth 100000
set_option maxHeartbeats 1000000
set_option maxHeartbeats 2000000
set_option linter.unusedSimpArgs false
set_option linter.unusedVariables false

def nextG (P : Program) (T : TypeId → Option TI) (L : Nat) (ops : Array Oper) (j : Nat) (s : St) (Kn : St → Prop) : Prop :=
  match ops[j]? with
  | some o => o.guard = none ∧ go P T L [.ops ops [o]] s (fun _ s' => Kn s')
  | none => False
theorem q1y {P : Program} {T : TypeId → Option TI} {L : Nat} (hT : TyOk P T) {ops : Array Oper} {j : Nat} {s : St} {Kn : St → Prop} (h : nextG P T L ops j s Kn) : nextOp P T L ops j s Kn := by
  unfold nextG at h
  split at h
  · rename_i o ho
    obtain ⟨hg, h⟩ := h
    have h1 := q4a hT [o] s _ h
    simp only [vcOps, hg] at h1
    exact ⟨o, ho, hg, h1⟩
  · exact h.elim
theorem any_ruleO {P : Program} {T : TypeId → Option TI} {L : Nat} (hT : TyOk P T) (hm : P.follows .mixedOrders = true) {id : Nat} {ops : Array Oper} {k : List Fr} {s : St} {K : AExit → St → Prop}
    (h : ∀ o : Array Oper, o = ops → ∃ Inv : Nat → Array Bool → St → Prop, Inv o.size (Array.replicate o.size false) s ∧ (∀ listed s, Inv 0 listed s → Region.ready .any o listed = [] ∧ go P T L k s K) ∧
      (∀ n listed s, Inv (n + 1) listed s → Region.ready .any o listed ≠ [] ∧ ∀ j ∈ Region.ready .any o listed, nextOp P T L o j s (fun s' => Inv n (listed.setIfInBounds j true) s'))) :
    restK P T L (.region id ops true) k s K := by
  obtain ⟨Inv, h1, h2, h3⟩ := h ops rfl
  exact any_rule hT hm Inv h1 h2 h3
theorem nextG_mono {P : Program} {T : TypeId → Option TI} {L : Nat} {ops : Array Oper} {j : Nat} {s : St} {Kn Kn' : St → Prop} (h : nextG P T L ops j s Kn) (hk : ∀ s', Kn s' → Kn' s') : nextG P T L ops j s Kn' := by
  unfold nextG at h ⊢
  split at h
  · exact ⟨h.1, opsW_mono _ _ _ _ hk h.2⟩
  · exact h.elim
def nextA (T : TypeId → Option TI) (L : Nat) (ops : Array Oper) (j : Nat) (s : St) (Kn : St → Prop) : Prop :=
  match ops[j]? with
  | some o => o.guard = none ∧ aappB T L o.op s (fun x s' => Kn (s'.put o.dst x))
  | none => False
theorem nextA_op {P : Program} {T : TypeId → Option TI} {L : Nat} {ops : Array Oper} {j : Nat} {s : St} {Kn : St → Prop} (h : nextA T L ops j s Kn) : nextOp P T L ops j s Kn := by
  unfold nextA at h
  split at h
  · rename_i o ho
    exact ⟨o, ho, h.1, .inr (.inr (.inr h.2))⟩
  · exact h.elim
theorem ACall.renum {g : FuncId} {args : List AV} {K K' : AV → List AB → Prop} (h : ACall P g [] args K) (hk : ∀ x m', K x m' → ∃ x' m'', TurnsL 0 ⟨[x], m'⟩ ⟨[x'], m''⟩ ∧ K' x' m'') : ACall P g [] args K' := by
  refine ⟨h.1, fun Hd ι w vs hR => (h.2 Hd ι w vs hR).mono ?_⟩
  rintro e w' ⟨y, x, ι', m', rfl, h1, h2, h3⟩
  obtain ⟨x', m'', ht, hk'⟩ := hk x m' h3
  obtain ⟨ι2, h4, h5⟩ := ht Hd 0 ι' _ w' h1
  have hι : ι = [] := List.eq_nil_of_length_eq_zero (by simpa using hR.len)
  subst hι
  have hE := (h2 0).trans h5
  exact ⟨y, x', ι2, m'', rfl, h4, fun L => ⟨hE.os, hE.tape, hE.output, hE.size, hE.imm, hE.shape, fun b o _ ho => by simp at ho⟩, hk'⟩

def nilRow (n : Nat) : List AV := List.replicate n (.agg [.v (.slice none 0 0), .v (.slice none 0 0)])
def cfgC (c : Cf) : List AV := [i64 c.s, i64 c.k, i64 c.q, i64 c.w, i64 c.r, u64 c.e, u64 c.st]
def lst3 (p q r z : Nat) : Array Bool := #[decide (1 ≤ p), decide (1 ≤ q), decide (2 ≤ q), decide (3 ≤ q), decide (1 ≤ r), decide (2 ≤ r), decide (3 ≤ r), decide (1 ≤ z), decide (2 ≤ z), decide (3 ≤ z)]
def rdy3 (p q r z : Nat) : List Nat :=
  (if p = 0 then [0] else []) ++ (if q < 3 then [q + 1] else []) ++ (if r < 3 then [r + 4] else []) ++ (if p = 1 ∧ q = 3 ∧ r = 3 ∧ z < 3 then [z + 7] else [])
abbrev oneT (b : Bool) (x : AV) : AV := if b = true then x else .any
def mod0 (c : Cf) (n : Nat) : List AV := [i64 c.s, i64 c.k, i64 c.q, i64 c.w, i64 c.r, u64 c.e, u64 c.st, u64 c.st, u64 0, bool false, .own 1 2 0 n, .v (.slice none 0 0)]
def S3 (c : Cf) (n p q r z : Nat) : St :=
  ⟨[.agg (cfgC c), .ptr 0 0, .v (.pointer none), .v (.int .i64 0), if 3 ≤ z then .ptr 2 0 else .any, .agg (cfgC c), bool true, .v (.bool false), if 1 ≤ p then .agg (cfgC c) else .any, if 1 ≤ q then .ptr 0 6 else .any, if 2 ≤ q then u64 c.st else .any, if 3 ≤ q then .agg [u64 c.st, u64 0, bool false] else .any, if 1 ≤ r then .ptr 0 0 else .any, if 2 ≤ r then i64 c.s else .any, if 3 ≤ r then .own 1 2 0 n else .any, if 1 ≤ z then .agg (mod0 c n) else .any, if 2 ≤ z then .ptr 2 0 else .any, .any, .any, .any, .any, .any, .any, .any, .any, .any, .any, .any, .any, .any, .any, .any, .any, .any, .any],
    .box (cfgC c) :: ((if 3 ≤ r then [.row 87 2 (nilRow n)] else []) ++ (if 2 ≤ z then [.box (mod0 c n)] else []))⟩
def Inv3 (c : Cf) (n k : Nat) (listed : Array Bool) (s : St) : Prop :=
  ∃ p q r z, p ≤ 1 ∧ q ≤ 3 ∧ r ≤ 3 ∧ z ≤ 3 ∧ (0 < z → p = 1 ∧ q = 3 ∧ r = 3) ∧ k + p + q + r + z = 10 ∧ listed = lst3 p q r z ∧ s = S3 c n p q r z
def lst6 (p q o z : Nat) : Array Bool := #[decide (1 ≤ p), decide (1 ≤ q), decide (2 ≤ q), decide (3 ≤ q), decide (4 ≤ q), decide (1 ≤ o), decide (2 ≤ o), decide (3 ≤ o), decide (4 ≤ o), decide (1 ≤ z), decide (2 ≤ z), decide (3 ≤ z), decide (4 ≤ z)]
def rdy6 (p q o z : Nat) : List Nat :=
  (if p = 0 then [0] else []) ++ (if q < 4 then [q + 1] else []) ++ (if o < 4 then [o + 5] else []) ++ (if q = 4 ∧ o = 4 ∧ (z = 0 ∨ (p = 1 ∧ z < 4)) then [z + 9] else [])
def freshF (c : Cf) : Fd := ⟨[], max c.q 0, fun _ => ([], false)⟩
def fid (i : Nat) : Nat := 4 + 18 * i
def nfs (c : Cf) : Nat → List AB
  | 0 => []
  | i + 1 => nfs c i ++ (fblk (fid i) (freshF c) ++ [.box [.ptr (fid i) 0]])
theorem nfs_len (c : Cf) : ∀ i, (nfs c i).length = 18 * i
  | 0 => rfl
  | i + 1 => by rw [nfs, List.length_append, List.length_append, fblk_len, nfs_len c i, List.length_singleton]; omega
def ptrsI (i : Nat) : List AV := (List.range i).map fun j => .ptr (fid j) 0
def fdB (i pad : Nat) : AB := match i with
  | 0 => .row 76 1 []
  | _ => .box (ptrsI i ++ List.replicate pad .any)
def modI (c : Cf) (n : Nat) (x : AV) : List AV := [i64 c.s, i64 c.k, i64 c.q, i64 c.w, i64 c.r, u64 c.e, u64 c.st, u64 c.st, u64 0, bool false, .own 1 2 0 n, x]
def S6 (c : Cf) (n i pad : Nat) (x20 : AV) (p q o : Nat) : St :=
  ⟨[.any, .ptr 0 0, .any, .any, .ptr 2 0, .any, .any, .any, .any, .any, .any, .any, .any, .any, .any, .any, .any, .any, i64 c.s, i64 i, x20, if 1 ≤ p then .ptr 2 0 else .any, if 1 ≤ q then .ptr 2 0 else .any, if 2 ≤ q then .ptr 2 0 else .any, if 3 ≤ q then .ptr 2 11 else .any, if 4 ≤ q then .own 3 1 0 i else .any, if 1 ≤ o then .ptr 0 2 else .any, if 2 ≤ o then i64 c.q else .any, if 3 ≤ o then .ptr (fid i) 0 else .any, if 4 ≤ o then .own (fid i + 17) 1 0 1 else .any, .any, .any, .any, .any, .any],
    .box (cfgC c) :: .row 87 2 (nilRow n) :: .box (modI c n (.own 3 1 0 i)) :: fdB i pad :: (nfs c i ++ ((if 3 ≤ o then fblk (fid i) (freshF c) else []) ++ (if 4 ≤ o then [.box [.ptr (fid i) 0]] else [])))⟩
def Z6 (c : Cf) (n i kk : Nat) (x20 : AV) (p z : Nat) : St :=
  ⟨[.any, .ptr 0 0, .any, .any, .ptr 2 0, .any, .any, .any, .any, .any, .any, .any, .any, .any, .any, .any, .any, .any, i64 c.s, i64 i, x20, if 1 ≤ p then .ptr 2 0 else .any, .ptr 2 0, .ptr 2 0, .ptr 2 11, .any, .ptr 0 2, i64 c.q, .ptr (fid i) 0, .own (fid i + 17) 1 0 1, .own 3 1 0 (i + 1), if 2 ≤ z then .ptr 2 0 else .any, if 3 ≤ z then .ptr 2 11 else .any, .any, .any],
    .box (cfgC c) :: .row 87 2 (nilRow n) :: .box (modI c n (if 4 ≤ z then .own 3 1 0 (i + 1) else .any)) :: .box (ptrsI (i + 1) ++ List.replicate kk .any) :: nfs c (i + 1)⟩
def Inv6 (c : Cf) (n i pad : Nat) (x20 : AV) (k : Nat) (listed : Array Bool) (s : St) : Prop :=
  ∃ p q o z, p ≤ 1 ∧ q ≤ 4 ∧ o ≤ 4 ∧ z ≤ 4 ∧ (0 < z → q = 4 ∧ o = 4) ∧ (1 < z → p = 1) ∧ k + p + q + o + z = 13 ∧ listed = lst6 p q o z ∧ ((z = 0 ∧ s = S6 c n i pad x20 p q o) ∨ (0 < z ∧ ∃ kk, s = Z6 c n i kk x20 p z))
theorem s6_len (c : Cf) (i pad : Nat) (a b d : AB) : (a :: b :: d :: fdB i pad :: nfs c i).length = fid i := by
  simp only [List.length_cons, nfs_len, fid]; omega
theorem s6_get {a b d e z : AB} {X Y : List AB} {i : Nat} (hX : X.length = 18 * i) (hY : Y.length = 17) : (a :: b :: d :: e :: (X ++ (Y ++ [z])))[fid i + 17]? = some z := by
  rw [show fid i + 17 = (18 * i + 17) + 1 + 1 + 1 + 1 by simp only [fid]; omega]
  simp only [List.getElem?_cons_succ]
  rw [List.getElem?_append_right (by omega), List.getElem?_append_right (by omega), hX, hY]
  rw [show 18 * i + 17 - 18 * i - 17 = 0 by omega]
  rfl
theorem ptrsI_bks (i pad : Nat) : ∀ b ∈ q0n (ptrsI i ++ List.replicate pad AV.any), ∃ j < i, b = fid j := by
  have h1 : ∀ (l : List Nat) b, b ∈ q0n (l.map (fun j => AV.ptr (fid j) 0)) → ∃ j ∈ l, b = fid j := by
    intro l b hb
    induction l with
    | nil => simp [q0n] at hb
    | cons j l ih =>
      simp only [List.map_cons, q0n, bks, List.mem_append, List.mem_singleton] at hb
      rcases hb with rfl | hb
      · exact ⟨j, by simp, rfl⟩
      · obtain ⟨k, hk, e⟩ := ih hb; exact ⟨k, by simp [hk], e⟩
  have h2 : ∀ k, q0n (List.replicate k AV.any) = [] := by
    intro k
    induction k with
    | zero => rfl
    | succ k ih => simp [List.replicate_succ, q0n, bks, ih]
  intro b hb
  rw [q5e, h2, List.append_nil] at hb
  obtain ⟨j, hj, e⟩ := h1 _ b hb
  exact ⟨j, by simpa using hj, e⟩
theorem ptrsI_ok (i : Nat) : boxOk (ptrsI i) := by
  have : ∀ l : List Nat, boxOk (l.map (fun j => AV.ptr (fid j) 0)) := by
    intro l
    induction l with
    | nil => trivial
    | cons j l ih => exact ⟨rfl, rfl, ih⟩
  exact this _
theorem ptrsI_next (i : Nat) : ptrsI i ++ [.ptr (fid i) 0] = ptrsI (i + 1) := by simp [ptrsI, List.range_succ]
theorem refsAll_ptrs (l : List AV) : (∀ x ∈ l, ∃ j, x = .ptr (fid j) 0) → ∀ c ∈ q0c l, c ≠ 3 := by
  intro h
  induction l with
  | nil => intro c hc; simp [q0c] at hc
  | cons x l ih =>
    obtain ⟨j, rfl⟩ := h x (by simp)
    intro c hc
    simp only [q0c, AV.refs, List.mem_append, List.mem_singleton] at hc
    rcases hc with rfl | hc
    · simp only [fid]; omega
    · exact ih (fun y hy => h y (by simp [hy])) c hc
theorem nfs_ids (c : Cf) : ∀ i blk, blk ∈ nfs c i → ∀ cs, blk = .box cs → ∀ b ∈ q0n cs, 4 ≤ b ∧ b < fid i
  | 0, blk, h => by simp [nfs] at h
  | i + 1, blk, h => by
    intro cs e b hb
    rw [nfs, List.mem_append, List.mem_append] at h
    rcases h with h | h | h
    · have := nfs_ids c i blk h cs e b hb
      simp only [fid] at *; omega
    · obtain ⟨k, hk⟩ := List.getElem?_of_mem h
      rw [fblk, q3t] at hk
      cases hg : (feedM (freshF c))[k]? with
      | none => rw [hg] at hk; cases hk
      | some blk0 =>
        rw [hg] at hk
        simp only [Option.map_some, Option.some.injEq] at hk
        subst e
        cases blk0 with
        | box cs0 =>
          simp only [AB.ren, AB.box.injEq] at hk
          subst hk
          obtain ⟨d, hd, rfl, _⟩ := q48 cs0 (feed_box hg) b hb
          simp only [fid]; omega
        | row _ _ _ => simp [AB.ren] at hk
        | rowc _ _ _ _ => simp [AB.ren] at hk
        | gone => simp [AB.ren] at hk
        | tr _ _ => simp [AB.ren] at hk
    · rw [List.mem_singleton] at h
      subst h
      cases e
      simp only [q0n, bks, List.append_nil, List.mem_singleton] at hb
      subst hb
      simp only [fid]; omega
theorem nfs_fix (c : Cf) (i : Nat) {f : AB → AB} (h1 : ∀ cs, (∀ b ∈ q0n cs, 4 ≤ b ∧ b < fid i) → f (.box cs) = .box cs) (h2 : ∀ blk, (∀ cs, blk ≠ .box cs) → f blk = blk) : (nfs c i).map f = nfs c i := by
  refine (List.map_congr_left (g := _root_.id) fun blk hm => ?_).trans (List.map_id _)
  by_cases hb : ∃ cs, blk = .box cs
  · obtain ⟨cs, rfl⟩ := hb
    exact h1 cs (nfs_ids c i _ hm cs rfl)
  · exact h2 blk (fun cs hc => hb ⟨cs, hc⟩)
theorem nfs_kill (c : Cf) (i : Nat) : (nfs c i).map (AB.kill 3) = nfs c i :=
  nfs_fix c i (fun cs hc => by simp only [AB.kill]; rw [killVs_id cs (fun b hb => by have := hc b hb; omega)]) (fun blk hb => by cases blk <;> first | rfl | exact absurd rfl (hb _))
theorem nfs_trunc (c : Cf) (i : Nat) {X : List AB} {N : Nat} (h : fid i ≤ N) : (nfs c i).map (AB.trunc X N) = nfs c i :=
  nfs_fix c i (fun cs hc => by simp only [AB.trunc]; rw [q47 cs (fun b hb => by have := hc b hb; omega)]) (fun blk hb => by cases blk <;> first | rfl | exact absurd rfl (hb _))
def newM6 (c : Cf) (n i pad : Nat) : List AB := .box (cfgC c) :: .row 87 2 (nilRow n) :: .box (modI c n (.own 3 1 0 i)) :: .box (ptrsI i ++ List.replicate pad .any) :: nfs c i
theorem newM6_trunc (c : Cf) (n i pad : Nat) (hi : i ≤ 8) {X : List AB} : ((newM6 c n i pad).take 10000).map (AB.trunc X 10000) = newM6 c n i pad := by
  have hl : (newM6 c n i pad).length ≤ 10000 := by simp only [newM6, List.length_cons, nfs_len]; omega
  rw [List.take_of_length_le hl]
  have hf : ∀ j, j < i → fid j < 10000 := fun j hj => by simp only [fid]; omega
  simp only [newM6, List.map_cons, AB.trunc]
  rw [nfs_trunc c i (by simp only [fid]; omega), q47 (ptrsI i ++ List.replicate pad AV.any) (fun b hb => by obtain ⟨j, hj, rfl⟩ := ptrsI_bks i pad b hb; exact hf j hj)]
  rfl
theorem new_made (c : Cf) (n : Nat) (hn : c.s = n) (h1 : 1 ≤ n) (h8 : n ≤ 8) (hr : c.right = true) : ACall P 17 [] [c.av] (fun x m' => x = .tup [.ptr 2 0, i64 0] ∧ ∃ pad, m' = newM6 c n n pad) := by
  refine q0s.toA (q1z tyOk Tryz.func17 rfl rfl (N := 0) (M := 10000) (Nat.zero_le _) (by simp) ?_)
  intro K hK
  simp only [Tryz.ntmps17, List.length_cons, List.length_nil, Nat.reduceAdd, Nat.reduceSub, List.replicate, List.cons_append, List.nil_append]
  try simp (maxSteps := 1000000) only [seval, Cf.av]
  have hR := model_Right c
  unfold Cf.av at hR
  rw [hr] at hR
  (refine q07 hR rfl ?_; rintro _ rfl)
  try simp (maxSteps := 1000000) only [seval]
  refine any_ruleO tyOk (by rfl) ?_
  intro ops hops
  refine ⟨Inv3 c n, ?_, ?_, ?_⟩
  rotate_left 2
  · rintro k listed s ⟨p, q, r, z, hp, hq, hr3, hz, hzz, hk, rfl, rfl⟩
    have hrd : Region.ready .any ops (lst3 p q r z) = rdy3 p q r z := by
      subst hops
      by_cases hz0 : z = 0
      · subst hz0
        rcases (show p = 0 ∨ p = 1 by omega) with rfl | rfl <;> rcases (show q = 0 ∨ q = 1 ∨ q = 2 ∨ q = 3 by omega) with rfl | rfl | rfl | rfl <;> rcases (show r = 0 ∨ r = 1 ∨ r = 2 ∨ r = 3 by omega) with rfl | rfl | rfl | rfl <;> kernel_rfl
      · obtain ⟨rfl, rfl, rfl⟩ := hzz (by omega)
        rcases (show z = 1 ∨ z = 2 ∨ z = 3 by omega) with rfl | rfl | rfl <;> kernel_rfl
    rw [hrd]
    refine ⟨?_, ?_⟩
    · intro he
      simp only [rdy3, List.append_eq_nil_iff] at he
      obtain ⟨⟨⟨e1, e2⟩, e3⟩, e4⟩ := he
      have g1 : p = 1 := by
        apply Nat.le_antisymm hp
        apply Nat.lt_of_not_le
        intro h
        rw [if_pos (by omega)] at e1; cases e1
      have g2 : q = 3 := by
        apply Nat.le_antisymm hq
        apply Nat.le_of_not_lt
        intro h
        rw [if_pos h] at e2; cases e2
      have g3 : r = 3 := by
        apply Nat.le_antisymm hr3
        apply Nat.le_of_not_lt
        intro h
        rw [if_pos h] at e3; cases e3
      rw [if_pos ⟨g1, g2, g3, by omega⟩] at e4; cases e4
    · intro j hj
      have hj' : (j = 0 ∧ p = 0) ∨ (j = q + 1 ∧ q < 3) ∨ (j = r + 4 ∧ r < 3) ∨ (j = z + 7 ∧ p = 1 ∧ q = 3 ∧ r = 3 ∧ z < 3) := by
        simp only [rdy3, List.mem_append] at hj
        rcases hj with ((hj | hj) | hj) | hj
        · split at hj
          · rename_i h; exact .inl ⟨by simpa using hj, h⟩
          · cases hj
        · split at hj
          · rename_i h; exact .inr (.inl ⟨by simpa using hj, h⟩)
          · cases hj
        · split at hj
          · rename_i h; exact .inr (.inr (.inl ⟨by simpa using hj, h⟩))
          · cases hj
        · split at hj
          · rename_i h; exact .inr (.inr (.inr ⟨by simpa using hj, h⟩))
          · cases hj
      clear hj hrd
      have hn0 : (0 : Int) ≤ (n : Int) := by omega
      rcases hj' with ⟨rfl, rfl⟩ | ⟨rfl, hlt⟩ | ⟨rfl, hlt⟩ | ⟨rfl, rfl, rfl, rfl, hlt⟩
      · refine q1y tyOk ?_
        unfold nextG
        simp only [hops, List.getElem?_toArray, List.getElem?_cons_zero]
        refine ⟨trivial, ?_⟩
        simp only [S3, cfgC, mod0]
        try simp (maxSteps := 1000000) only [seval, cfgC, mod0]
        exact ⟨1, q, r, z, by omega, hq, hr3, hz, by omega, by omega, by simp [lst3], by first | rfl | simp [S3, cfgC, mod0]⟩
      · have hz0 : z = 0 := by omega
        subst hz0
        rcases (show q = 0 ∨ q = 1 ∨ q = 2 by omega) with rfl | rfl | rfl
        · refine q1y tyOk ?_
          unfold nextG
          simp only [hops, List.getElem?_toArray, List.getElem?_cons_zero, List.getElem?_cons_succ, Nat.zero_add]
          refine ⟨trivial, ?_⟩
          simp only [S3, cfgC, mod0]
          try simp (maxSteps := 1000000) only [seval, cfgC, mod0]
          exact ⟨p, 1, r, 0, hp, by omega, hr3, hz, by omega, by omega, by simp [lst3], by first | rfl | simp [S3, cfgC, mod0]⟩
        · refine q1y tyOk ?_
          unfold nextG
          simp only [hops, List.getElem?_toArray, List.getElem?_cons_zero, List.getElem?_cons_succ, Nat.reduceAdd]
          refine ⟨trivial, ?_⟩
          simp only [S3, cfgC, mod0]
          try simp (maxSteps := 1000000) only [seval, cfgC, mod0]
          exact ⟨p, 2, r, 0, hp, by omega, hr3, hz, by omega, by omega, by simp [lst3], by first | rfl | simp [S3, cfgC, mod0]⟩
        · refine q1y tyOk ?_
          unfold nextG
          simp only [hops, List.getElem?_toArray, List.getElem?_cons_zero, List.getElem?_cons_succ, Nat.reduceAdd]
          refine ⟨trivial, ?_⟩
          simp only [S3, cfgC, mod0]
          try simp (maxSteps := 1000000) only [seval, cfgC, mod0]
          exact ⟨p, 3, r, 0, hp, by omega, hr3, hz, by omega, by omega, by simp [lst3], by first | rfl | simp [S3, cfgC, mod0]⟩
      · have hz0 : z = 0 := by omega
        subst hz0
        rcases (show r = 0 ∨ r = 1 ∨ r = 2 by omega) with rfl | rfl | rfl
        · refine q1y tyOk ?_
          unfold nextG
          simp only [hops, List.getElem?_toArray, List.getElem?_cons_zero, List.getElem?_cons_succ, Nat.zero_add]
          refine ⟨trivial, ?_⟩
          simp only [S3, cfgC, mod0]
          try simp (maxSteps := 1000000) only [seval, cfgC, mod0]
          exact ⟨p, q, 1, 0, hp, hq, by omega, hz, by omega, by omega, by simp [lst3], by first | rfl | simp [S3, cfgC, mod0]⟩
        · refine q1y tyOk ?_
          unfold nextG
          simp only [hops, List.getElem?_toArray, List.getElem?_cons_zero, List.getElem?_cons_succ, Nat.reduceAdd]
          refine ⟨trivial, ?_⟩
          simp only [S3, cfgC, mod0]
          try simp (maxSteps := 1000000) only [seval, cfgC, mod0]
          exact ⟨p, q, 2, 0, hp, hq, by omega, hz, by omega, by omega, by simp [lst3], by first | rfl | simp [S3, cfgC, mod0]⟩
        · refine q1y tyOk ?_
          unfold nextG
          simp only [hops, List.getElem?_toArray, List.getElem?_cons_zero, List.getElem?_cons_succ, Nat.reduceAdd]
          refine ⟨trivial, ?_⟩
          simp only [S3, cfgC, mod0]
          try simp (maxSteps := 1000000) only [seval, cfgC, mod0]
          have hcn : c.s.toNat = n := by omega
          refine ⟨⟨by omega, by omega, by omega⟩, p, q, 3, 0, hp, hq, by omega, hz, by omega, by omega, by simp [lst3], ?_⟩
          first | done | simp [S3, cfgC, mod0, nilRow, hcn]
      · rcases (show z = 0 ∨ z = 1 ∨ z = 2 by omega) with rfl | rfl | rfl
        · refine q1y tyOk ?_
          unfold nextG
          simp only [hops, List.getElem?_toArray, List.getElem?_cons_zero, List.getElem?_cons_succ, Nat.zero_add]
          refine ⟨trivial, ?_⟩
          simp only [S3, cfgC, mod0]
          try simp (maxSteps := 1000000) only [seval, cfgC, mod0]
          exact ⟨1, 3, 3, 1, by omega, by omega, by omega, by omega, by omega, by omega, by simp [lst3], by first | rfl | simp [S3, cfgC, mod0]⟩
        · refine q1y tyOk ?_
          unfold nextG
          simp only [hops, List.getElem?_toArray, List.getElem?_cons_zero, List.getElem?_cons_succ, Nat.reduceAdd]
          refine ⟨trivial, ?_⟩
          simp only [S3, cfgC, mod0]
          try simp (maxSteps := 1000000) only [seval, cfgC, mod0]
          exact ⟨1, 3, 3, 2, by omega, by omega, by omega, by omega, by omega, by omega, by simp [lst3], by first | rfl | simp [S3, cfgC, mod0]⟩
        · refine q1y tyOk ?_
          unfold nextG
          simp only [hops, List.getElem?_toArray, List.getElem?_cons_zero, List.getElem?_cons_succ, Nat.reduceAdd]
          refine ⟨trivial, ?_⟩
          simp only [S3, cfgC, mod0]
          try simp (maxSteps := 1000000) only [seval, cfgC, mod0]
          exact ⟨1, 3, 3, 3, by omega, by omega, by omega, by omega, by omega, by omega, by simp [lst3], by first | rfl | simp [S3, cfgC, mod0]⟩
  · rw [show ops.size = 10 by rw [hops]; rfl]
    exact ⟨0, 0, 0, 0, by omega, by omega, by omega, by omega, by omega, by omega, rfl, rfl⟩
  rintro listed s ⟨p, q, r, z, hp, hq, hr3, hz, hzz, hk, rfl, rfl⟩
  obtain rfl : p = 1 := by omega
  obtain rfl : q = 3 := by omega
  obtain rfl : r = 3 := by omega
  obtain rfl : z = 3 := by omega
  refine ⟨by subst hops; kernel_rfl, ?_⟩
  clear hops
  simp only [S3, cfgC, mod0]
  try simp (maxSteps := 1000000) only [seval]
  refine loopK_turn (Turns.adoptIn (b := 2) (c := 11) 76 1 rfl rfl) ?_
  try simp (maxSteps := 1000000) only [seval]
  refine q1h tyOk (α := Nat × Nat) 10000 [1, 4, 18, 19] (fun q => q.1 ≤ n)
    (fun q => ⟨[.any, .ptr 0 0, .any, .any, .ptr 2 0, .any, .any, .any, .any, .any, .any, .any, .any, .any, .any, .any, .any, .any, i64 c.s, i64 q.1, .any, .any, .any, .any, .any, .any, .any, .any, .any, .any, .any, .any, .any, .any, .any], .box (cfgC c) :: .row 87 2 (nilRow n) :: .box (modI c n (.own 3 1 0 q.1)) :: fdB q.1 q.2 :: nfs c q.1⟩)
    (fun q => n - q.1) (0, 0) (Nat.zero_le _) (Nat.zero_le _) ?_ ?_
  · rfl
  rintro ⟨i, pad⟩ hi
  simp only at hi
  try simp (maxSteps := 1000000) only [seval, cfgC, modI]
  (first | refine q0g ?_ ?_ | refine q0k ?_ ?_ | refine q0l ?_ ?_ | refine q0m ?_ ?_ | refine q0h ?_ ?_) <;> intro hc
  · have hlt : i < n := by rw [hn] at hc; simpa using hc
    try simp (maxSteps := 1000000) only [seval]
    refine any_ruleO tyOk (by rfl) ?_
    intro ops hops
    refine ⟨Inv6 c n i pad (.v (.bool (decide ((i : Int) < c.s)))), ?_, ?_, ?_⟩
    rotate_left 2
    · rintro k listed s ⟨p, q, o, z, hp, hq, ho, hz, hzz, hzp, hk, rfl, hs⟩
      have hrd : Region.ready .any ops (lst6 p q o z) = rdy6 p q o z := by
        subst hops
        by_cases hz0 : z = 0
        · subst hz0
          rcases (show p = 0 ∨ p = 1 by omega) with rfl | rfl <;> rcases (show q = 0 ∨ q = 1 ∨ q = 2 ∨ q = 3 ∨ q = 4 by omega) with rfl | rfl | rfl | rfl | rfl <;> rcases (show o = 0 ∨ o = 1 ∨ o = 2 ∨ o = 3 ∨ o = 4 by omega) with rfl | rfl | rfl | rfl | rfl <;> kernel_rfl
        · obtain ⟨rfl, rfl⟩ := hzz (by omega)
          by_cases hz1 : z = 1
          · subst hz1
            rcases (show p = 0 ∨ p = 1 by omega) with rfl | rfl <;> kernel_rfl
          · obtain rfl := hzp (by omega)
            rcases (show z = 2 ∨ z = 3 ∨ z = 4 by omega) with rfl | rfl | rfl <;> kernel_rfl
      rw [hrd]
      refine ⟨?_, ?_⟩
      · intro he
        simp only [rdy6, List.append_eq_nil_iff] at he
        obtain ⟨⟨⟨e1, e2⟩, e3⟩, e4⟩ := he
        have g1 : p = 1 := by
          apply Nat.le_antisymm hp
          apply Nat.lt_of_not_le
          intro h
          rw [if_pos (by omega)] at e1; cases e1
        have g2 : q = 4 := by
          apply Nat.le_antisymm hq
          apply Nat.le_of_not_lt
          intro h
          rw [if_pos h] at e2; cases e2
        have g3 : o = 4 := by
          apply Nat.le_antisymm ho
          apply Nat.le_of_not_lt
          intro h
          rw [if_pos h] at e3; cases e3
        rw [if_pos ⟨g2, g3, .inr ⟨g1, by omega⟩⟩] at e4; cases e4
      · intro j hj
        have hj' : (j = 0 ∧ p = 0) ∨ (j = q + 1 ∧ q < 4) ∨ (j = o + 5 ∧ o < 4) ∨ (j = z + 9 ∧ q = 4 ∧ o = 4 ∧ (z = 0 ∨ (p = 1 ∧ z < 4))) := by
          simp only [rdy6, List.mem_append] at hj
          rcases hj with ((hj | hj) | hj) | hj
          · split at hj
            · rename_i h; exact .inl ⟨by simpa using hj, h⟩
            · cases hj
          · split at hj
            · rename_i h; exact .inr (.inl ⟨by simpa using hj, h⟩)
            · cases hj
          · split at hj
            · rename_i h; exact .inr (.inr (.inl ⟨by simpa using hj, h⟩))
            · cases hj
          · split at hj
            · rename_i h; exact .inr (.inr (.inr ⟨by simpa using hj, h⟩))
            · cases hj
        clear hj hrd
        rcases hj' with ⟨rfl, rfl⟩ | ⟨rfl, hlq⟩ | ⟨rfl, hlo⟩ | ⟨rfl, rfl, rfl, hlz⟩
        · by_cases hz0 : z = 0
          · subst hz0
            obtain rfl : s = S6 c n i pad _ 0 q o := by rcases hs with ⟨_, h⟩ | ⟨h, _⟩; exact h; omega
            refine q1y tyOk ?_
            unfold nextG
            simp only [hops, List.getElem?_toArray, List.getElem?_cons_zero]
            refine ⟨trivial, ?_⟩
            simp only [S6, cfgC, modI]
            try simp (maxSteps := 1000000) only [seval]
            exact ⟨1, q, o, 0, by omega, hq, ho, hz, by omega, by omega, by omega, by simp [lst6], .inl ⟨rfl, by first | rfl | simp [S6, cfgC, modI]⟩⟩
          · obtain ⟨rfl, rfl⟩ := hzz (by omega)
            obtain rfl : z = 1 := by omega
            obtain ⟨kk, rfl⟩ : ∃ kk, s = Z6 c n i kk _ 0 1 := by rcases hs with ⟨h, _⟩ | ⟨_, h⟩; omega; exact h
            refine q1y tyOk ?_
            unfold nextG
            simp only [hops, List.getElem?_toArray, List.getElem?_cons_zero]
            refine ⟨trivial, ?_⟩
            simp only [Z6, cfgC, modI]
            try simp (maxSteps := 1000000) only [seval]
            exact ⟨1, 4, 4, 1, by omega, by omega, by omega, by omega, by omega, by omega, by omega, by simp [lst6], .inr ⟨by omega, kk, by first | rfl | simp [Z6, cfgC, modI]⟩⟩
        · have hz0 : z = 0 := by omega
          subst hz0
          obtain rfl : s = S6 c n i pad _ p q o := by rcases hs with ⟨_, h⟩ | ⟨h, _⟩; exact h; omega
          rcases (show q = 0 ∨ q = 1 ∨ q = 2 ∨ q = 3 by omega) with rfl | rfl | rfl | rfl
          · refine q1y tyOk ?_
            unfold nextG
            simp only [hops, List.getElem?_toArray, List.getElem?_cons_zero, List.getElem?_cons_succ, Nat.zero_add]
            refine ⟨trivial, ?_⟩
            simp only [S6, cfgC, modI]
            try simp (maxSteps := 1000000) only [seval]
            exact ⟨p, 1, o, 0, by omega, by omega, ho, hz, by omega, by omega, by omega, by simp [lst6], .inl ⟨rfl, by first | rfl | simp [S6, cfgC, modI]⟩⟩
          · refine q1y tyOk ?_
            unfold nextG
            simp only [hops, List.getElem?_toArray, List.getElem?_cons_zero, List.getElem?_cons_succ, Nat.reduceAdd]
            refine ⟨trivial, ?_⟩
            simp only [S6, cfgC, modI]
            try simp (maxSteps := 1000000) only [seval]
            exact ⟨p, 2, o, 0, by omega, by omega, ho, hz, by omega, by omega, by omega, by simp [lst6], .inl ⟨rfl, by first | rfl | simp [S6, cfgC, modI]⟩⟩
          · refine q1y tyOk ?_
            unfold nextG
            simp only [hops, List.getElem?_toArray, List.getElem?_cons_zero, List.getElem?_cons_succ, Nat.reduceAdd]
            refine ⟨trivial, ?_⟩
            simp only [S6, cfgC, modI]
            try simp (maxSteps := 1000000) only [seval]
            exact ⟨p, 3, o, 0, by omega, by omega, ho, hz, by omega, by omega, by omega, by simp [lst6], .inl ⟨rfl, by first | rfl | simp [S6, cfgC, modI]⟩⟩
          · refine q1y tyOk ?_
            unfold nextG
            simp only [hops, List.getElem?_toArray, List.getElem?_cons_zero, List.getElem?_cons_succ, Nat.reduceAdd]
            refine ⟨trivial, ?_⟩
            simp only [S6, cfgC, modI]
            try simp (maxSteps := 1000000) only [seval]
            exact ⟨p, 4, o, 0, by omega, by omega, ho, hz, by omega, by omega, by omega, by simp [lst6], .inl ⟨rfl, by first | rfl | simp [S6, cfgC, modI]⟩⟩
        · have hz0 : z = 0 := by omega
          subst hz0
          obtain rfl : s = S6 c n i pad _ p q o := by rcases hs with ⟨_, h⟩ | ⟨h, _⟩; exact h; omega
          rcases (show o = 0 ∨ o = 1 ∨ o = 2 ∨ o = 3 by omega) with rfl | rfl | rfl | rfl
          · refine q1y tyOk ?_
            unfold nextG
            simp only [hops, List.getElem?_toArray, List.getElem?_cons_zero, List.getElem?_cons_succ, Nat.zero_add]
            refine ⟨trivial, ?_⟩
            simp only [S6, cfgC, modI]
            try simp (maxSteps := 1000000) only [seval]
            exact ⟨p, q, 1, 0, by omega, by omega, by omega, hz, by omega, by omega, by omega, by simp [lst6], .inl ⟨rfl, by first | rfl | simp [S6, cfgC, modI]⟩⟩
          · refine q1y tyOk ?_
            unfold nextG
            simp only [hops, List.getElem?_toArray, List.getElem?_cons_zero, List.getElem?_cons_succ, Nat.reduceAdd]
            refine ⟨trivial, ?_⟩
            simp only [S6, cfgC, modI]
            try simp (maxSteps := 1000000) only [seval]
            exact ⟨p, q, 2, 0, by omega, by omega, by omega, hz, by omega, by omega, by omega, by simp [lst6], .inl ⟨rfl, by first | rfl | simp [S6, cfgC, modI]⟩⟩
          · refine q1y tyOk ?_
            unfold nextG
            simp only [hops, List.getElem?_toArray, List.getElem?_cons_zero, List.getElem?_cons_succ, Nat.reduceAdd]
            refine ⟨trivial, ?_⟩
            simp only [S6, cfgC, modI]
            try simp (maxSteps := 1000000) only [seval]
            refine q30 (ACall.news (feed_New c.q) rfl ?_)
            rintro x M ⟨rfl, rfl⟩
            rw [q0u, s6_len]
            try simp (maxSteps := 1000000) only [seval]
            exact ⟨p, q, 3, 0, by omega, by omega, by omega, hz, by omega, by omega, by omega, by simp [lst6], .inl ⟨rfl, by first | rfl | (simp [S6, cfgC, modI, fblk, freshF]; done) | (simp [S6, cfgC, modI, fblk, freshF]; rfl)⟩⟩
          · refine q1y tyOk ?_
            unfold nextG
            simp only [hops, List.getElem?_toArray, List.getElem?_cons_zero, List.getElem?_cons_succ, Nat.reduceAdd]
            refine ⟨trivial, ?_⟩
            simp only [S6, cfgC, modI]
            try simp (maxSteps := 1000000) only [seval]
            have hl17 : (nfs c i).length + (fblk (fid i) (freshF c)).length + 1 + 1 + 1 + 1 = fid i + 17 := by rw [nfs_len, fblk_len, fid]; omega
            exact ⟨p, q, 4, 0, by omega, by omega, by omega, hz, by omega, by omega, by omega, by simp [lst6], .inl ⟨rfl, by first | (simp only [hl17, S6, cfgC, modI, List.append_assoc, Nat.reduceLeDiff, ↓reduceIte]; done) | (simp only [hl17]; rfl) | rfl | (simp [S6, cfgC, modI]; done) | (simp [S6, cfgC, modI, freshF]; done) | (simp [S6, cfgC, modI, freshF]; rfl)⟩⟩
        · rcases (show z = 0 ∨ (p = 1 ∧ (z = 1 ∨ z = 2 ∨ z = 3)) by omega) with rfl | ⟨rfl, rfl | rfl | rfl⟩
          · obtain rfl : s = S6 c n i pad _ p 4 4 := by rcases hs with ⟨_, h⟩ | ⟨h, _⟩; exact h; omega
            refine nextA_op ?_
            unfold nextA
            simp only [hops, List.getElem?_toArray, List.getElem?_cons_zero, List.getElem?_cons_succ, Nat.zero_add]
            refine ⟨trivial, ?_⟩
            unfold aappB
            simp only [S6, cfgC, modI]
            have hcs : ∃ cs, (fdB i pad = .box cs ∨ (fdB i pad = .row 76 1 [] ∧ cs = [])) ∧ i ≤ cs.length ∧ cs.take i = ptrsI i := by
              cases i with
              | zero => exact ⟨[], .inr ⟨rfl, rfl⟩, Nat.le_refl _, rfl⟩
              | succ i => exact ⟨_, .inl rfl, by simp [ptrsI], by rw [List.take_append_of_le_length (by simp [ptrsI]), List.take_of_length_le (by simp [ptrsI])]⟩
            obtain ⟨cs, hcs1, hcs2, hcs3⟩ := hcs
            refine ⟨73, 76, _, _, 3, i, fid i + 17, cs, [], .ptr (fid i) 0, rfl, rfl, rfl, rfl, rfl, by rfl, by decide, rfl, rfl, Nat.zero_le _, ?_, hcs2, ?_, ?_, rfl, ?_, by omega, ?_⟩
            · exact hcs1.imp (fun h => by rw [h]; rfl) (fun ⟨h, e⟩ => ⟨by rw [h]; rfl, e⟩)
            · exact s6_get (nfs_len c i) (fblk_len _ _)
            · rw [hcs3]; exact ptrsI_ok i
            · rw [hcs3, ptrsI_next]
              exact refsAll_ptrs _ (fun x hx => by simp only [ptrsI, List.mem_map] at hx; obtain ⟨j, _, rfl⟩ := hx; exact ⟨j, rfl⟩)
            · intro kk
              rw [hcs3, ptrsI_next]
              refine ⟨p, 4, 4, 1, hp, by omega, by omega, by omega, by omega, by omega, by omega, by simp [lst6], .inr ⟨by omega, kk, ?_⟩⟩
              have hkn : (nfs c i ++ (fblk (fid i) (freshF c) ++ [AB.box [.ptr (fid i) 0]])).map (AB.kill 3) = nfs c (i + 1) := nfs_kill c (i + 1)
              have hf3 : (fid i = 3) = False := by simp [fid]; omega
              have hf4 : (fid i + 17 = 3) = False := by simp [fid]
              simp only [St.rehome, St.put, List.map_cons, Nat.reduceLeDiff, ↓reduceIte]
              rw [hkn]
              rcases (show p = 0 ∨ p = 1 by omega) with rfl | rfl
              · simp only [q1u, killV, AB.kill, hf3, hf4, List.set_cons_zero, List.set_cons_succ, Z6, cfgC, modI, Nat.reduceLeDiff, Nat.reduceEqDiff, ↓reduceIte]
              · simp only [q1u, killV, AB.kill, hf3, hf4, List.set_cons_zero, List.set_cons_succ, Z6, cfgC, modI, Nat.reduceLeDiff, Nat.reduceEqDiff, ↓reduceIte]
          · obtain ⟨kk, rfl⟩ : ∃ kk, s = Z6 c n i kk _ 1 1 := by rcases hs with ⟨h, _⟩ | ⟨_, h⟩; omega; exact h
            refine q1y tyOk ?_
            unfold nextG
            simp only [hops, List.getElem?_toArray, List.getElem?_cons_zero, List.getElem?_cons_succ, Nat.reduceAdd]
            refine ⟨trivial, ?_⟩
            simp only [Z6, cfgC, modI]
            try simp (maxSteps := 1000000) only [seval]
            exact ⟨1, 4, 4, 2, by omega, by omega, by omega, by omega, by omega, by omega, by omega, by simp [lst6], .inr ⟨by omega, kk, by first | rfl | simp [Z6, cfgC, modI]⟩⟩
          · obtain ⟨kk, rfl⟩ : ∃ kk, s = Z6 c n i kk _ 1 2 := by rcases hs with ⟨h, _⟩ | ⟨_, h⟩; omega; exact h
            refine q1y tyOk ?_
            unfold nextG
            simp only [hops, List.getElem?_toArray, List.getElem?_cons_zero, List.getElem?_cons_succ, Nat.reduceAdd]
            refine ⟨trivial, ?_⟩
            simp only [Z6, cfgC, modI]
            try simp (maxSteps := 1000000) only [seval]
            exact ⟨1, 4, 4, 3, by omega, by omega, by omega, by omega, by omega, by omega, by omega, by simp [lst6], .inr ⟨by omega, kk, by first | rfl | simp [Z6, cfgC, modI]⟩⟩
          · obtain ⟨kk, rfl⟩ : ∃ kk, s = Z6 c n i kk _ 1 3 := by rcases hs with ⟨h, _⟩ | ⟨_, h⟩; omega; exact h
            refine q1y tyOk ?_
            unfold nextG
            simp only [hops, List.getElem?_toArray, List.getElem?_cons_zero, List.getElem?_cons_succ, Nat.reduceAdd]
            refine ⟨trivial, ?_⟩
            simp only [Z6, cfgC, modI]
            try simp (maxSteps := 1000000) only [seval]
            exact ⟨1, 4, 4, 4, by omega, by omega, by omega, by omega, by omega, by omega, by omega, by simp [lst6], .inr ⟨by omega, kk, by first | rfl | simp [Z6, cfgC, modI]⟩⟩
    · rw [show ops.size = 13 by rw [hops]; rfl]
      exact ⟨0, 0, 0, 0, by omega, by omega, by omega, by omega, by omega, by omega, by omega, rfl, .inl ⟨rfl, by first | rfl | simp [S6, cfgC, modI]⟩⟩
    rintro listed s ⟨p, q, o, z, hp, hq, ho, hz, hzz, hzp, hk, rfl, hs⟩
    obtain rfl : p = 1 := by omega
    obtain rfl : q = 4 := by omega
    obtain rfl : o = 4 := by omega
    obtain rfl : z = 4 := by omega
    obtain ⟨kk, rfl⟩ : ∃ kk, s = Z6 c n i kk _ 1 4 := by rcases hs with ⟨h, _⟩ | ⟨_, h⟩; omega; exact h
    refine ⟨by subst hops; kernel_rfl, ?_⟩
    clear hops
    simp only [Z6, cfgC, modI]
    have ew : IntKind.i64.wrap ((i : Int) + 1) = ((i + 1 : Nat) : Int) := by rw [wrap_i64 (by omega) (by omega)]; rfl
    try simp (maxSteps := 1000000) only [seval, ew]
    refine ⟨(i + 1, kk), hlt, by simp only; omega, ?_⟩
    have htr := fun X => newM6_trunc c n (i + 1) kk (by omega) (X := X)
    simp only [newM6, cfgC, modI] at htr
    simp only [St.trunc, htr]
    rfl
  · have hge : i = n := by have : ¬ ((i : Int) < (n : Int)) := by rw [hn] at hc; simpa using hc
                           omega
    subst hge
    try simp (maxSteps := 1000000) only [seval]
    apply hK
    simp only [Tryz.results17, retK, ares, Bool.and_true, Bool.true_and, AV.ofResults, St.trunc, q00, q01, AB.trunc, List.getD_cons_zero, List.getD_cons_succ, List.take_succ_cons, List.map_cons, Nat.reduceLeDiff, true_and, and_true, ↓reduceIte, List.cons.injEq, exists_eq_left']
    cases i with
    | zero => omega
    | succ i =>
      refine ⟨pad, ?_⟩
      exact newM6_trunc c (i + 1) (i + 1) pad (by omega)

theorem Turns.weakRow {tm : List AV} {m : List AB} {b : Nat} {t : TypeId} {sz : Nat} {xs ys : List AV} (hb : m[b]? = some (.row t sz xs)) (hw : weaks xs ys) (hp : q0c ys = []) (hl : xs = [] → ys = []) : Turns ⟨tm, m⟩ ⟨tm, m.set b (.row t sz ys)⟩ := by
  intro Hd B ι a w h
  refine ⟨ι, ⟨by simpa using h.len, h.lt, h.inj, h.tmps, ?_, h.marks, h.hid, h.glob⟩, fun L => Ext.refl _ _⟩
  intro i blk hi
  have hi : (m.set b (.row t sz ys))[i]? = some blk := hi
  by_cases c : b = i
  · subst c
    rw [List.getElem?_set_self (List.getElem?_eq_some_iff.1 hb).1] at hi
    cases hi
    obtain ⟨_, hm⟩ := h.mem b _ hb
    refine ⟨hp, ?_⟩
    rcases hm with ⟨r, cells, vs, h1, h2, h3, h4⟩ | ⟨h1, h2⟩
    · exact .inl ⟨r, cells, vs, h1, h2, q3e _ _ _ hw h3, h4⟩
    · exact .inr ⟨h1, hl h2⟩
  · rw [List.getElem?_set_ne c] at hi
    exact h.mem i blk hi
theorem weaks_rep {x y : AV} (h : Sym.weak x y) : ∀ n, weaks (List.replicate n x) (List.replicate n y)
  | 0 => by simp [weaks]
  | n + 1 => ⟨y, List.replicate n y, rfl, h, weaks_rep h n⟩
def fresh (c : Cf) : Md := ⟨c, ⟨c.st, 0, false⟩, fun _ => [], fun _ => freshF c⟩
theorem bkRow_nil (n : Nat) : bkRow n (fun _ => []) = List.replicate n (.agg [.sl 1 [], .sl 4 []]) := by
  simp only [bkRow, q10, List.map_nil]
  apply List.ext_getElem?
  intro i
  by_cases hi : i < n
  · simp [hi]
  · simp [hi]
def nids : Nat → List Nat
  | 0 => [2, 1, 3]
  | n + 1 => nids n ++ List.range' (fid n) 17
theorem model_New (c : Cf) (n : Nat) (hn : c.s = n) (h1 : 1 ≤ n) (h8 : n ≤ 8) (hr : c.right = true) : ACall P 17 [] [c.av] (fun x m' => x = .tup [.ptr 0 0, i64 0] ∧ ∃ pad, m' = modM n pad (fresh c)) := by
  refine ACall.renum (new_made c n hn h1 h8 hr) ?_
  rintro x m' ⟨rfl, pad, rfl⟩
  refine ⟨.tup [.ptr 0 0, i64 0], modM n pad (fresh c), ?_, rfl, pad, rfl⟩
  refine TurnsL.trans (s' := ⟨[.tup [.ptr 2 0, i64 0]], (newM6 c n n pad).set 1 (.row 87 2 (bkRow n fun _ => []))⟩) (Turns.toL (Turns.weakRow (b := 1) (xs := nilRow n) rfl ?_ ?_ ?_)) ?_
  · rw [bkRow_nil]
    exact weaks_rep nil_se n
  · rw [bkRow_nil, q1e]
    intro x hx
    rw [List.eq_of_mem_replicate hx]
    rfl
  · intro h
    have := congrArg List.length h
    simp [nilRow] at this
    omega
  · have hin : ∀ k, (modM k pad (fresh c)).all (AB.inR (mlen k)) = true := fun k => mm_inR k pad (fresh c)
    have key : ∀ k, (nids k).length = mlen k := by
      intro k
      induction k with
      | zero => rfl
      | succ k ih => rw [nids, List.length_append, ih, List.length_range']; simp only [mlen]; omega
    refine TurnsL.pick (nids n) ?_ ?_ ?_ ?_ ?_ (fun b hb => absurd hb (Nat.not_lt_zero b))
    · rcases n_cases h1 h8 with rfl | rfl | rfl | rfl | rfl | rfl | rfl | rfl <;> decide +kernel
    · have hrep : ∀ k, q1i (nids n) (List.replicate k AV.any) = List.replicate k AV.any := by
        intro k
        induction k with
        | zero => rfl
        | succ k ih => rw [List.replicate_succ, q1i, ih]; rfl
      have happ : ∀ l m, q1i (nids n) (l ++ m) = q1i (nids n) l ++ q1i (nids n) m := by
        intro l m
        induction l with
        | nil => rfl
        | cons x l ih => rw [List.cons_append, q1i, ih]; rfl
      have hp : q1i (nids n) (ptrs n pad) = ptrsI n ++ List.replicate pad AV.any := by
        rw [ptrs, happ, hrep]
        congr 1
        rcases n_cases h1 h8 with rfl | rfl | rfl | rfl | rfl | rfl | rfl | rfl <;> rfl
      have e : renM (nids n) (modM n pad (fresh c)) = .box (q1i (nids n) [i64 c.s, i64 c.k, i64 c.q, i64 c.w, i64 c.r, u64 c.e, u64 c.st, u64 c.st, u64 0, bool false, .own 1 2 0 n, .own 2 1 0 n]) ::
          .row 87 2 (bkRow n fun _ => []) :: .box (ptrsI n ++ List.replicate pad AV.any) :: renM (nids n) (feedsM (fun _ => freshF c) n 0) := by
        rw [← hp]; rfl
      show List.map _ (nids n) = List.map some (renM (nids n) (modM n pad (fresh c)))
      rw [e]
      clear hrep happ hp e
      generalize List.replicate pad AV.any = Q
      rcases n_cases h1 h8 with rfl | rfl | rfl | rfl | rfl | rfl | rfl | rfl <;> kernel_rfl
    · rcases n_cases h1 h8 with rfl | rfl | rfl | rfl | rfl | rfl | rfl | rfl <;> exact q3r _
    · rw [key]
      refine List.all_eq_true.2 fun b hb => ?_
      have hb0 : b = 0 := by simpa [q0n, bks] using hb
      subst hb0
      exact decide_eq_true (by simp only [mlen]; omega)
    · rw [key]; exact hin n
end Go.Proofs.YtdkcpcflfnakdaaGreat
