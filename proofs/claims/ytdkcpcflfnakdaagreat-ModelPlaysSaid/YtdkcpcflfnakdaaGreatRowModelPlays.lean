/- A text of the walk that proves a law of this seat; joined by a program. -/
import Derived.Test.YtdkcpcflfnakdaaGreatMg
import Derived.Test.YtdkcpcflfnakdaaGreatRows
import Derived.Test.YtdkcpcflfnakdaaGreatSymU
set_option linter.unusedSimpArgs false
set_option linter.unusedVariables false
namespace Go.Proofs.YtdkcpcflfnakdaaGreat
open Go Go.Proofs.YtdkcpcflfnakdaaGreat.Sym
set_option maxRecDepth 100000
set_option maxHeartbeats 1000000
set_option maxHeartbeats 4000000
theorem wok_befN {n B : Nat} {M : Md} (h : WOk n B M) (hB : B + 1 ≤ 900) (a : Ac) : WOk n (B + 1) (befM n M a) := by
 unfold befM
 split
 · exact (wok_tick h _).mono (z3e _) hB
 split
 · exact (qxm h _).mono (z3e _) hB
 · exact qql h hB _ _
def docM (n : Nat) (D : Dt) (a : Ac) : Dt := if a.d % 3 = 1 then D.tick a.by_ else if a.d % 3 = 2 then D.sweep n ((a.by_ % 9 : Nat) : Int) else qel n D a.who a.op
theorem alk_bef {n B : Nat} {M : Md} {D : Dt} (h : Alk B M D) (w : WOk n B M) (a : Ac) : Alk (B + 1) (befM n M a) (docM n D a) := by
 unfold befM docM
 split
 · exact (alk_tick h _).mono (z3e _)
 split
 · exact (qxn h _).mono (z3e _)
 · exact (alk_do h w _ _).1
theorem docDoW {n pad B : Nat} {D : Dt} (h : DOk n B D) (hB : B + 1 ≤ 150) (who : Int) (o : Opb) (ho : OpOk o) : ACall P 28 (docT n pad D) [.ptr 0 0, i64 who, o.av]
 (fun x m' => x = (docR n D who o).avw ∧ m' = docT n pad (qel n D who o)) :=
 qb5 (doc_Do h hB who o ho) (by rintro x m1 ⟨rfl, rfl⟩; exact ⟨_, _, qhk _, qbj _, rfl, rfl⟩)
theorem Time_in {n p : Nat} {A : Md} {r : List AB} : ACall P 22 (modM n p A ++ r) [.ptr 0 0] (fun x m' => x = qfy A.t ∧ m' = modM n p A ++ r) :=
 qca (qvl n p A) rfl (by rintro x m' ⟨rfl, rfl⟩; exact ⟨rfl, A, rfl, rfl, rfl⟩)
theorem Stored_in {n p B : Nat} {A : Md} {r : List AB} (h : MOk n B A) (hB : B ≤ 150) : ACall P 31 (modM n p A ++ r) [.ptr 0 0] (fun x m' => x = i64 (q7x n A n : Nat) ∧ m' = modM n p A ++ r) :=
 qca (qqa h (by omega)) rfl (by rintro x m' ⟨rfl, rfl⟩; exact ⟨rfl, A, rfl, rfl, rfl⟩)
theorem dStored_in {n p pd B : Nat} {A : Md} {D : Dt} {r : List AB} (h : DOk n B D) : ACall P 32 (dtw n p pd A D r) [.ptr (mlen n) 0] (fun x m' => x = i64 (q73 D n : Nat) ∧ m' = dtw n p pd A D r) :=
 qed (qvw h) (by simp only [q0i]; rw [← ptrD]) rfl (by rintro x m' ⟨rfl, rfl⟩; exact ⟨rfl, D, rfl, rfl, rfl⟩)
theorem dPresence_in {n p pd B : Nat} {A : Md} {D : Dt} {r : List AB} (h : DOk n B D) (u : ByteArray) (hl : u.size ≤ 1000000) : ACall P 30 (dtw n p pd A D r) [.ptr (mlen n) 0, str u] (fun x m' => x = (q51 n D u).av ∧ m' = dtw n p pd A D r) :=
 qed (qfq h u hl) (by simp only [q0i]; rw [← ptrD]; rfl) rfl (by rintro x m' ⟨rfl, rfl⟩; exact ⟨rfl, D, rfl, rfl, rfl⟩)
theorem dcalm {n pd : Nat} {D : Dt} {r : List AB} (hr : r.all (AB.calm2 n (dlen n) fun _ => true) = true) : (at_ (mlen n) (docT n pd D) ++ r).all (AB.calm n) = true :=
 tw_calm (l := dlen n) (kp0 := fun _ => true) (qgy n pd D) hr
theorem right_n {c : Cf} (h : c.right = true) : ∃ n : Nat, c.s = n ∧ 1 ≤ n ∧ n ≤ 8 ∧ 1 ≤ c.q ∧ c.q ≤ 16 := by
 simp only [Cf.right, inB, z0d, decide_eq_true_eq] at h
 exact ⟨c.s.toNat, by omega, by omega, by omega, by omega, by omega⟩
theorem law_plays (c : Cf) (l : List Ac) (user : ByteArray) (hl : l.length ≤ maxLen) (hu : ∀ a ∈ l, a.op.us.length ≤ maxLen) (hby : ∀ a ∈ l, a.by_ ≤ 18446744073709551615) :
 q08 P 9 [c.av, .sl 10 (acts l), str user] (fun x => x = bool true) := by
 have hL := law_long l hl hu
 have hR1 := qsm c
 have hR2 := qdp c
 refine q09 tyOk Tryz.func9 rfl rfl fun K hK => ?_
 simp only [seval, go_sem, Tryz.ntmps9]
 have hcav : c.av = .agg [i64 c.s, i64 c.k, i64 c.q, i64 c.w, i64 c.r, u64 c.e, u64 c.st] := rfl
 rw [hcav] at hR1 hR2 ⊢
 simp only [seval, go_sem]
 (refine q00 qh6 rfl ?_; rintro _ rfl)
 simp only [seval, go_sem]
 (refine q00 hL rfl ?_; rintro _ rfl)
 cases hlg : (decide (120 < l.length) || qd4 l)
 · rw [z2m] at hlg
   have hl120 : l.length ≤ 120 := by have := of_decide_eq_false hlg.1; omega
   have hsh : ∀ a ∈ l, q90 a.op = true := fun a ha => by
    have := z4r.1 hlg.2 a ha
    cases h : q90 a.op with | true => rfl | false => rw [h] at this; exact absurd rfl this
   by_cases h40 : 40 < user.size
   · have c1 : decide ((40 : Int) < (user.size : Int)) = true := decide_eq_true (by omega)
     have c1' : decide ((user.size : Int) > (40 : Int)) = true := decide_eq_true (by omega)
     simp only [seval, go_sem, c1]
     (refine q00 qh6 rfl ?_; rintro _ rfl)
     simp only [seval, go_sem]
     apply hK
     simp only [seval, go_sem, Tryz.results9]
     try rfl
   · have c1 : decide ((40 : Int) < (user.size : Int)) = false := decide_eq_false (by omega)
     have c1' : decide ((user.size : Int) > (40 : Int)) = false := decide_eq_false (by omega)
     simp only [seval, go_sem, c1]
     cases hr : c.right
     · have hN := qqm c hr
       rw [hcav] at hN
       rw [hr] at hR1 hR2
       (refine q00 hN rfl ?_; rintro _ rfl)
       simp only [seval, go_sem]
       (refine q00 hR1 rfl ?_; rintro _ rfl)
       simp only [seval, go_sem]
       (refine q00 hR2 rfl ?_; rintro _ rfl)
       simp only [seval, go_sem]
       apply hK
       simp only [seval, go_sem, Tryz.results9]
       try rfl
     · rw [hr] at hR1 hR2
       obtain ⟨n, hn, hn1, hn8, hq1, hq2⟩ := right_n hr
       have hN := qmr c n hn hn1 hn8 hr
       have hDN := doc_New c n hn hn1 hn8
       rw [hcav] at hN hDN
       refine q17 (ACall.news hN rfl ?_)
       rintro _ _ ⟨rfl, p, rfl⟩
       have e0 : ∀ k, ren (List.range' 1 (mlen n)) (.tup [.ptr 0 0, i64 k]) = .tup [.ptr 1 0, i64 k] := fun k => by
        simp only [ren, q0i]
        rw [q1m (by simp only [mlen]; omega)]
       rw [q0u, z02, z0a, z16, e0]
       simp only [seval, go_sem]
       (refine q00 hR1 rfl ?_; rintro _ rfl)
       simp only [seval, go_sem]
       (refine q00 hR2 rfl ?_; rintro _ rfl)
       simp only [seval, go_sem]
       refine q17 (ACall.news hDN rfl ?_)
       rintro _ _ ⟨rfl, pd, rfl⟩
       have e1 : ren (List.range' (mlen n + 1) (dlen n)) (.ptr 0 0) = .ptr (mlen n + 1) 0 := by
        simp only [ren]
        rw [q1m (by simp only [dlen]; omega), z1y]
       rw [q0y, z02, q1y, q0u, e1]
       simp only [seval, go_sem]
       have h0 : WOk n 0 (q1z c) := qmt hn hn1 hn8 (by omega)
       have k0 : Alk 0 (q1z c) (q58 c) := qz1 hq1
       refine qrg (dtw_drop (p := p) (pd := pd) (A := q1z c) (D := q58 c) (live := [1, 2, 6, 7, 9, 10]) (s' := ⟨[.any, .sl 10 (acts l), str user, .any, .any, .any, bool false, .ptr 0 0, .any, .ptr (mlen n) 0, i64 0, .any, .any, .any, .any, .any, .any, .any, .any, .any, .any, .any, .any, .any, .any, .any, .any, .any, .any, .any, .any, .any, .any, .any, .any, .any, .any, .any, .any, .any, .any, .any, .any, .any, .any, .any, .any, .any, .any, .any, .any, .any, .any, .any, .any, .any, .any, .any, .any, .any, .any, .any, .any, .any, .any, .any, .any, .any, .any, .any, .any, .any, .any, .any, .any, .any, .any, .any, .any, .any, .any, .any, .any, .any, .any, .any, .any, .any, .any, .any, .any, .any, .any, .any, .any, .any, .any, .any, .any, .any, .any, .any, .any, .any, .any, .any, .any, .any, .any, .any, .any, .any, .any, .any, .any, .any, .any, .any, .any, .any, .any, .any, .any, .any], modM n p (q1z c) ++ at_ (mlen n) (docT n pd (q58 c))⟩) rfl rfl ?_ ?_) ?_
       · simp only [q0i, ren]
         rw [q1m (show 0 < mlen n + dlen n by simp only [mlen]; omega), q1m (show mlen n < mlen n + dlen n by simp only [dlen]; omega), Nat.add_comm 1 (mlen n), z1y]
         rfl
       · simp only [q03, bks, z0i, z21, z1u, z35, z3t, z0t, z0d, decide_eq_true_eq]
         simp only [mlen, dlen]; omega
       refine q0d tyOk (α := Nat × Md × Dt) (mlen n + dlen n) [1, 2, 6, 7, 9, 10] (fun x => x.1 ≤ l.length ∧ WOk n x.1 x.2.1 ∧ Alk x.1 x.2.1 x.2.2)
        (fun x => ⟨[.any, .sl 10 (acts l), str user, .any, .any, .any, bool false, .ptr 0 0, .any, .ptr (mlen n) 0, i64 x.1, .any, .any, .any, .any, .any, .any, .any, .any, .any, .any, .any, .any, .any, .any, .any, .any, .any, .any, .any, .any, .any, .any, .any, .any, .any, .any, .any, .any, .any, .any, .any, .any, .any, .any, .any, .any, .any, .any, .any, .any, .any, .any, .any, .any, .any, .any, .any, .any, .any, .any, .any, .any, .any, .any, .any, .any, .any, .any, .any, .any, .any, .any, .any, .any, .any, .any, .any, .any, .any, .any, .any, .any, .any, .any, .any, .any, .any, .any, .any, .any, .any, .any, .any, .any, .any, .any, .any, .any, .any, .any, .any, .any, .any, .any, .any, .any, .any, .any, .any, .any, .any, .any, .any, .any, .any, .any, .any, .any, .any, .any, .any, .any, .any], modM n p x.2.1 ++ at_ (mlen n) (docT n pd x.2.2)⟩)
        (fun x => l.length - x.1) (0, q1z c, q58 c) (by simp) ⟨z00 _, h0, k0⟩ ?_ ?_
       · simp only [seval, go_sem, td_retn, ql3]
         all_goals rfl
       rintro ⟨i, A, D⟩ ⟨hi, hA, hKk⟩
       simp only at hi hA hKk
       simp only [seval, go_sem, q7z]
       refine q02 ?_ ?_ <;> intro hf
       · have hlt : i < l.length := by simpa using hf
         have eg := qq7 hlt
         have ew : IntKind.i64.wrap ((i : Int) + 1) = ((i + 1 : Nat) : Int) := by rw [wrap_i64 (by omega) (by omega)]; rfl
         have b1 : (0 : Int) ≤ (i : Int) ∧ Int.toNat (i : Int) < l.length := by omega
         have hok := short_ok (hsh _ (z1i hlt))
         have hab := hby _ (z1i hlt)
         generalize l[i] = a at *
         have hD := qtw hKk hA (by omega)
         have hbA := befallsW (pad := p) hA (by omega) a hok
         have hA2 := wok_befN hA (by omega) a
         have hK2 := alk_bef hKk hA a
         have hD2 := qtw hK2 hA2 (by omega)
         obtain ⟨hq4, hq5⟩ := bef_len hA a hok
         have hdo := (alk_do hKk hA a.who a.op).2
         have hTk := doc_Tick n pd D a.by_
         have hSw := qxk (pad := pd) hD ((a.by_ % 9 : Nat) : Int)
         have hDo := docDoW (pad := pd) hD (by omega) a.who a.op hok
         obtain ⟨R, hRe⟩ : ∃ R, befR n A a = R := ⟨_, rfl⟩
         obtain ⟨A3, hA3⟩ : ∃ M, befM n A a = M := ⟨_, rfl⟩
         obtain ⟨D3, hD3⟩ : ∃ M, docM n D a = M := ⟨_, rfl⟩
         rw [hRe] at hbA hq4 hq5
         rw [hA3] at hbA hA2 hK2
         rw [hD3] at hK2 hD2
         have eA : R.avw = .agg [i64 R.err, .sl 3 (prs (R.vals.getD [])), .sl 8 (evts (R.evs.getD [])), bool R.lost] := rfl
         have em : Int.tmod (a.d : Int) 3 = ((a.d % 3 : Nat) : Int) := rfl
         have e9 : Int.tmod (a.by_ : Int) 9 = ((a.by_ % 9 : Nat) : Int) := rfl
         have w9 : IntKind.i64.wrap ((a.by_ % 9 : Nat) : Int) = ((a.by_ % 9 : Nat) : Int) := wrap_i64 (by omega) (by omega)
         have hT : D3.t = A3.t := hK2.t
         have hPr := qpg (n := n) hK2 user
         have hSt := alk_stor hK2 n n
         unfold Ac.av at hbA
         simp only [seval, go_sem, q7z, eg, b1]
         refine q3k (kp := kpX n) (fun b hb => absurd hb (z28 b)) (qtd hbA rfl ?_ ?_)
         · exact dcalm rfl
         rintro _ _ ⟨rfl, rfl⟩
         refine ⟨rfl, _, rfl, ?_⟩
         obtain ⟨q, hq⟩ : ∃ q, a.d % 3 = q := ⟨_, rfl⟩
         have hq3 : q < 3 := by omega
         rw [hq] at em
         rcases (show q = 1 ∨ q = 2 ∨ q = 0 by omega) with rfl | rfl | rfl
         · have q1 : ((((1 : Nat) : Int)) == 1) = true := rfl
           have hR0 : R = errR 0 := by rw [← hRe, befR, hq, if_pos rfl]
           have hM : D3 = D.tick a.by_ := by rw [← hD3, docM, hq, if_pos rfl]
           have hSame : q08 P 29 [.agg [i64 R.err, .sl 3 (prs (R.vals.getD [])), .sl 8 (evts (R.evs.getD [])), bool R.lost], (errR 0).av] (fun x => x = bool true) := by
            have := q08.weakArgs (qds R.err 0 (R.vals.getD []) [] (R.evs.getD []) [] R.lost false hq4 (z00 _) hq5 (z00 _)) (args := [.agg [i64 R.err, .sl 3 (prs (R.vals.getD [])), .sl 8 (evts (R.evs.getD [])), bool R.lost], (errR 0).av]) ⟨_, _, rfl, q0g _, _, _, rfl, qhk (errR 0), rfl⟩
            rw [hR0] at this ⊢
            exact this
           simp only [seval, go_sem, eA, em]
           refine q17 (qed hTk (by simp only [q0i]; rw [← ptrD]; rfl) rfl ?_)
           rintro _ _ ⟨rfl, rfl⟩
           refine ⟨rfl, _, rfl, ?_⟩
           rw [← hM]
           simp only [seval, go_sem]
           refine q0a tyOk (by rfl) (by simp only [q4h, mlen]; omega) (by kernel_rfl) rfl ?_
           simp only [seval, go_sem]
           refine q16 hSame rfl ?_
           simp only [seval, go_sem]
           refine q0v Time_in (by rfl) ?_
           simp only [seval, go_sem, qfy, td_0 _ _ _ _ _ _ hn1, hT]
           refine q0v (qaj (pad := p) hA2.ok user (by omega) _) (by rfl) ?_
           simp only [seval, go_sem]
           refine q0v (dPresence_in hD2 user (by omega)) (by rfl) ?_
           simp only [seval, go_sem, hPr, Pr.av]
           refine q0v (Stored_in hA2.ok (by omega)) (by rfl) ?_
           simp only [seval, go_sem]
           refine q0v (dStored_in hD2) (by rfl) ?_
           simp only [seval, go_sem, hSt, bne_self_eq_false]
           refine ⟨by (rcases q2v hn1 hn8 with rfl | rfl | rfl | rfl | rfl | rfl | rfl | rfl <;> kernel_rfl), ?_⟩
           simp only [seval, go_sem, ew]
           simp only [seval, go_sem, q01, qkh, ql3]
           all_goals exact ⟨(i + 1, A3, D3), ⟨hlt, hA2, hK2⟩, by simp only; omega, rfl⟩
         · have q1 : ((((2 : Nat) : Int)) == 1) = false := rfl
           have q2 : ((((2 : Nat) : Int)) == 2) = true := rfl
           have hR0 : R = errR 0 := by rw [← hRe, befR, hq, if_neg (by decide), if_pos rfl]
           have hM : D3 = D.sweep n ((a.by_ % 9 : Nat) : Int) := by rw [← hD3, docM, hq, if_neg (by decide), if_pos rfl]
           have hSame : q08 P 29 [.agg [i64 R.err, .sl 3 (prs (R.vals.getD [])), .sl 8 (evts (R.evs.getD [])), bool R.lost], (errR 0).av] (fun x => x = bool true) := by
            have := q08.weakArgs (qds R.err 0 (R.vals.getD []) [] (R.evs.getD []) [] R.lost false hq4 (z00 _) hq5 (z00 _)) (args := [.agg [i64 R.err, .sl 3 (prs (R.vals.getD [])), .sl 8 (evts (R.evs.getD [])), bool R.lost], (errR 0).av]) ⟨_, _, rfl, q0g _, _, _, rfl, qhk (errR 0), rfl⟩
            rw [hR0] at this ⊢
            exact this
           simp only [seval, go_sem, eA, em, e9, w9]
           refine q17 (qed hSw (by simp only [q0i]; rw [← ptrD]; rfl) rfl ?_)
           rintro _ _ ⟨rfl, rfl⟩
           refine ⟨rfl, _, rfl, ?_⟩
           rw [← hM]
           simp only [seval, go_sem]
           refine q0a tyOk (by rfl) (by simp only [q4h, mlen]; omega) (by kernel_rfl) rfl ?_
           simp only [seval, go_sem]
           refine q16 hSame rfl ?_
           simp only [seval, go_sem]
           refine q0v Time_in (by rfl) ?_
           simp only [seval, go_sem, qfy, td_0 _ _ _ _ _ _ hn1, hT]
           refine q0v (qaj (pad := p) hA2.ok user (by omega) _) (by rfl) ?_
           simp only [seval, go_sem]
           refine q0v (dPresence_in hD2 user (by omega)) (by rfl) ?_
           simp only [seval, go_sem, hPr, Pr.av]
           refine q0v (Stored_in hA2.ok (by omega)) (by rfl) ?_
           simp only [seval, go_sem]
           refine q0v (dStored_in hD2) (by rfl) ?_
           simp only [seval, go_sem, hSt, bne_self_eq_false]
           refine ⟨by (rcases q2v hn1 hn8 with rfl | rfl | rfl | rfl | rfl | rfl | rfl | rfl <;> kernel_rfl), ?_⟩
           simp only [seval, go_sem, ew]
           simp only [seval, go_sem, q01, qkh, ql3]
           all_goals exact ⟨(i + 1, A3, D3), ⟨hlt, hA2, hK2⟩, by simp only; omega, rfl⟩
         · have q1 : ((((0 : Nat) : Int)) == 1) = false := rfl
           have q2 : ((((0 : Nat) : Int)) == 2) = false := rfl
           have hR0 : R = docR n D a.who a.op := by rw [← hRe, befR, hq, if_neg (by decide), if_neg (by decide), hdo]
           have hM : D3 = qel n D a.who a.op := by rw [← hD3, docM, hq, if_neg (by decide), if_neg (by decide)]
           rw [← hR0, ← hM] at hDo
           have hSame : q08 P 29 [.agg [i64 R.err, .sl 3 (prs (R.vals.getD [])), .sl 8 (evts (R.evs.getD [])), bool R.lost], .agg [i64 R.err, .sl 3 (prs (R.vals.getD [])), .sl 8 (evts (R.evs.getD [])), bool R.lost]] (fun x => x = bool true) := by
            have := qds R.err R.err (R.vals.getD []) (R.vals.getD []) (R.evs.getD []) (R.evs.getD []) R.lost R.lost hq4 hq4 hq5 hq5
            rw [qvv] at this
            exact this
           unfold Opb.av at hDo
           simp only [seval, go_sem, eA, em]
           refine q17 (qed hDo (by simp only [q0i]; rw [← ptrD]; rfl) rfl ?_)
           rintro _ _ ⟨rfl, rfl⟩
           refine ⟨rfl, _, rfl, ?_⟩
           simp only [seval, go_sem, eA]
           refine q0a tyOk (by rfl) (by simp only [q4h, mlen]; omega) (by kernel_rfl) rfl ?_
           simp only [seval, go_sem]
           refine q16 hSame rfl ?_
           simp only [seval, go_sem]
           refine q0v Time_in (by rfl) ?_
           simp only [seval, go_sem, qfy, td_0 _ _ _ _ _ _ hn1, hT]
           refine q0v (qaj (pad := p) hA2.ok user (by omega) _) (by rfl) ?_
           simp only [seval, go_sem]
           refine q0v (dPresence_in hD2 user (by omega)) (by rfl) ?_
           simp only [seval, go_sem, hPr, Pr.av]
           refine q0v (Stored_in hA2.ok (by omega)) (by rfl) ?_
           simp only [seval, go_sem]
           refine q0v (dStored_in hD2) (by rfl) ?_
           simp only [seval, go_sem, hSt, bne_self_eq_false]
           refine ⟨by (rcases q2v hn1 hn8 with rfl | rfl | rfl | rfl | rfl | rfl | rfl | rfl <;> kernel_rfl), ?_⟩
           simp only [seval, go_sem, ew]
           simp only [seval, go_sem, q01, qkh, ql3]
           all_goals exact ⟨(i + 1, A3, D3), ⟨hlt, hA2, hK2⟩, by simp only; omega, rfl⟩
       · simp only [seval, go_sem]
         apply hK
         simp only [seval, go_sem, Tryz.results9]
         try rfl
 · simp only [seval, go_sem]
   (refine q00 qh6 rfl ?_; rintro _ rfl)
   simp only [seval, go_sem]
   apply hK
   simp only [seval, go_sem, Tryz.results9]
   try rfl
def shapesModelPlays : List (Bool × List Lf) := [(true, [.int .i64, .int .i64, .int .i64, .int .i64, .int .i64, .int .u64, .int .u64]), (false, [.sl 10 true [.int .u8, .int .i64, .int .i64, .str, .int .i64, .int .i64, .int .i64, .int .u64, .sl 1 false [.str], .int .u64]]), (false, [.str])]
theorem shapesModelPlays_ok : qb2 T 6 [36, 29, 9] = some shapesModelPlays := by kernel_rfl
theorem law_ModelPlays (xs : List AV) (h : qm6 shapesModelPlays xs) : q08 P 9 xs (fun x => x = .v (.bool true)) := by
 obtain ⟨_, _, rfl, ⟨_, _, rfl, ⟨s, rfl, _⟩, _, _, rfl, ⟨k, rfl, _⟩, _, _, rfl, ⟨q, rfl, _⟩, _, _, rfl, ⟨w, rfl, _⟩, _, _, rfl, ⟨r, rfl, _⟩, _, _, rfl, ⟨e, rfl, _⟩, _, _, rfl, ⟨st, rfl, _⟩, rfl⟩, _, _, rfl, ⟨_, _, rfl, ⟨ys, rfl, hlen, hys⟩, rfl⟩, _, _, rfl, ⟨_, _, rfl, ⟨u, rfl, _⟩, rfl⟩, rfl⟩ := h
 obtain ⟨l, rfl, hl, hu⟩ := qwx hys
 rw [q7z] at hlen
 exact law_plays ⟨s, k, q, w, r, e, st⟩ l u hlen hu hl
end Go.Proofs.YtdkcpcflfnakdaaGreat
namespace Go.Proofs.YtdkcpcflfnakdaaGreat.modelPlays
open Go.ChangeShapes Go.WideShapes Go.ChangeAt Go.RowKit Go.Proofs.YtdkcpcflfnakdaaGreat.Sym
open Go.ChangeMaps (open_string shut_string)
theorem own : ownKnob Tryz.prog.godebug = none := by kernel_rfl
theorem laidOut : laidOutB Tryz.prog = true := by kernel_rfl
set_option maxRecDepth 100000 in
theorem lifted (os : Os) (started : os.Started) (H : Type) (enc : TypeId × Value → H) :
 ReturnsInHanded {} Tryz.checked os 9 .any (Rows.modelPlaysSpec.pre6 enc Tryz.prog Tryz.f9 Rows.modelPlaysRow.domain false) (Rows.modelPlaysSpec.post enc Tryz.prog Tryz.f9 false true false false) := by
 refine returnsInHanded_of_change_sized (C := Tryz.checked) own started (by kernel_rfl) Tryz.func9
  (ChangeSpec.witness6 (enc := enc) (C := Tryz.checked) false ⟨#[], #[.agg #[.int .i64 0, .int .i64 0, .int .i64 0, .int .i64 0, .int .i64 0, .int .u64 0, .int .u64 0], .slice none 0 0, .string .empty], []⟩ 8 (by kernel_rfl) (by kernel_rfl) (by kernel_rfl) (by kernel_rfl)) ?_
 intro W base args ds gs before hval0 hW hcnd hsz0 _
 have hval : ∀ (j : Nat) t v, Tryz.f9.params[j]? = some t → args[j]? = some v → Value.okWide Tryz.prog W .any base t v := hval0
 have hW' := hW
 obtain ⟨p, q, hA0, hV, rfl, hfz, hnd⟩ := hW
 have hA : DataW.TrodAll enc Tryz.prog W 0 (fun _ => true) true Tryz.f9.params.toList args.toList ds p := hA0
 have hval2 : ∀ (j : Nat) t v, Tryz.f9.params.toList[j]? = some t → args.toList[j]? = some v → Value.okWide Tryz.prog W .any base t v := fun j t v h1 h2 => hval j t v (by simpa using h1) (by simpa using h2)
 rw [Tryz.params9] at hA hval2
 obtain ⟨xs, hfit, hrel⟩ := qnk tyOk _ _ _ _ _ shapesModelPlays_ok hval2 hA
 obtain ⟨v0, vs0, d0, ds0, p0, q0, hargs, rfl, rfl, h0, r0⟩ := trodAll_cons hA
 obtain ⟨v1, vs1, d1, ds1, p1, q1, rfl, rfl, rfl, h1, r1⟩ := trodAll_cons r0
 obtain ⟨v2, vs2, d2, ds2, p2, q2, rfl, rfl, rfl, h2, r2⟩ := trodAll_cons r1
 obtain ⟨rfl, rfl, rfl⟩ := trodAll_nil r2
 obtain rfl : args = #[v0, v1, v2] := by cases args; simp_all
 obtain ⟨rfl, rfl⟩ := trodVars_none hV
 have k0 := h0
 have lt0 : ∀ x ∈ p0, x.block < W.heap.size := by obtain ⟨m, hm⟩ := k0; exact DataW.trod_lt m _ _ _ hm
 have k1 := h1
 have lt1 : ∀ x ∈ p1, x.block < W.heap.size := by obtain ⟨m, hm⟩ := k1; exact DataW.trod_lt m _ _ _ hm
 have k2 := h2
 have lt2 : ∀ x ∈ p2, x.block < W.heap.size := by obtain ⟨m, hm⟩ := k2; exact DataW.trod_lt m _ _ _ hm
 clear hA0 hval0 hsz0 hval hval2
 refine (q08.calls (law_ModelPlays xs hfit) hrel (GlobOk.none (fun _ => rfl) (fun _ => rfl) (fun _ => rfl))).mono ?_
 rintro e W' ⟨y, x, rfl, rfl, hy, bel⟩
 obtain rfl := hy _ rfl
 exact ⟨_, rfl, _, _, _, [], _, [], hW', trodAll_mk1 (shut_bool Tryz.underlying4 _), (trodAll_cons_mk (Below.trod laidOut (by kernel_rfl) (of_decide_eq_true (by kernel_rfl)) k0 bel lt0) (trodAll_cons_mk (Below.trod laidOut (by kernel_rfl) (of_decide_eq_true (by kernel_rfl)) k1 bel lt1) (trodAll_cons_mk (Below.trod laidOut (by kernel_rfl) (of_decide_eq_true (by kernel_rfl)) k2 bel lt2) trodAll_mk0))), rfl, bel.frame _, fun h => by cases h⟩
theorem over : Rows.modelPlaysRow.holds Tryz.pinned (OpenSpec.ofChange Rows.modelPlaysSpec) :=
 OpenClaim.holds_of_wide 9 Tryz.f9 rfl rfl rfl rfl rfl rfl rfl ⟨rfl, rfl, rfl, rfl, rfl⟩ rfl rfl rfl rfl rfl (by kernel_rfl) Tryz.func9 (by kernel_rfl)
  (of_decide_eq_true (by kernel_rfl)) (by unfold Func.isWrapper; first | (rw [if_pos (by decide +kernel)]; kernel_rfl) | (rw [if_neg (by decide +kernel)]; exact ⟨rfl, rfl⟩))
  (fun os started H enc _ => lifted os started H enc)
theorem proved : Rows.ModelPlaysSaid := over
#print axioms proved
end Go.Proofs.YtdkcpcflfnakdaaGreat.modelPlays
namespace Go.Proofs.YtdkcpcflfnakdaaGreat
theorem modelPlays_holds : Rows.ModelPlaysSaid := modelPlays.proved
