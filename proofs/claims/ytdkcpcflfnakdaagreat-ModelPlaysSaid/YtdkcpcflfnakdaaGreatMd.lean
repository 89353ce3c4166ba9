/- A text of the walk that proves a law of this seat; joined by a program. -/
import Derived.Test.YtdkcpcflfnakdaaGreatMc
import Derived.Test.YtdkcpcflfnakdaaGreatMb
set_option linter.unusedSimpArgs false
set_option linter.unusedVariables false
namespace Go.Proofs.YtdkcpcflfnakdaaGreat
open Go Go.Proofs.YtdkcpcflfnakdaaGreat.Sym
set_option maxRecDepth 100000
set_option maxHeartbeats 1000000
theorem ml_z {n : Nat} : (mlen n = 0) = False := by simp [mlen]
theorem ml_1 {n : Nat} : (1 ≤ mlen n) = True := by simp [mlen]; omega
theorem ml_n0 {n : Nat} : (mlen n ≤ 0) = False := by simp [mlen]
theorem ml_n1 {n : Nat} : (mlen n ≤ 1) = False := by simp [mlen]; omega
theorem ml_n2 {n : Nat} : (mlen n ≤ 2) = False := by simp [mlen]; omega
theorem ml_nf {n k : Nat} (h : k < n) : (mlen n ≤ fb k) = False := by simp [mlen, fb]; omega
theorem ml_k0 {n k : Nat} : (mlen n + k ≤ 0) = False := by simp [mlen]
theorem ml_k1 {n k : Nat} : (mlen n + k ≤ 1) = False := by simp [mlen]; omega
theorem ml_k2 {n k : Nat} : (mlen n + k ≤ 2) = False := by simp [mlen]; omega
theorem ml_kl {n k j : Nat} : (mlen n + k ≤ mlen n + j) = (k ≤ j) := by simp
theorem ml_kl0 {n k : Nat} : (mlen n + k ≤ mlen n) = (k ≤ 0) := propext (by constructor <;> omega)
theorem ml_l {n k : Nat} : (mlen n = mlen n + k) = (k = 0) := by simp
theorem ml_r {n k : Nat} : (mlen n + k = mlen n) = (k = 0) := by simp
theorem ml_b {n j k : Nat} : (mlen n + j = mlen n + k) = (j = k) := by simp
theorem ml_le {n k : Nat} : (mlen n ≤ mlen n + k) = True := by simp
theorem ml_0 {n : Nat} : (0 = mlen n) = False := by simp [mlen]; omega
theorem ml_0k {n k : Nat} : (0 = mlen n + k) = False := by simp [mlen]; omega
theorem mm_ids {n pad i : Nat} {M : Md} {cs : List AV} (h : (modM n pad M)[i]? = some (.box cs)) : ∀ b ∈ q03 cs, b < mlen n := by
 intro b hb
 have hl := (z08.1 h).1
 rw [q0u] at hl
 rcases qjg (n := n) (pad := pad) (i := i) (M := M) (r := []) with h1 | ⟨s, j, h1, h2, rfl⟩ | h1
 · have c : i = 0 ∨ i = 1 ∨ i = 2 := by omega
   rcases c with rfl | rfl | rfl
   · rw [mm_0n] at h; cases h
     simp only [q03, bks, z21, z0i, z4z, or_false, z1u, z26] at hb
     simp only [mlen]; omega
   · rw [mm_1n] at h; cases h
   · rw [mm_2n] at h; cases h
     obtain ⟨j, hj, rfl⟩ := qqi n pad b hb
     simp only [fb, mlen]; omega
 · have := q9j M [] h1 h2 (pad := pad)
   rw [z0i, h] at this
   cases hg : (q0f (M.f s))[j]? with
   | none => rw [hg] at this; cases this
   | some blk =>
    rw [hg] at this
    simp only [z19, z1d] at this
    cases blk with
    | box cs0 =>
     simp only [AB.ren, AB.box.injEq] at this
     subst this
     obtain ⟨c, hc, rfl, _⟩ := q4v cs0 (qj8 hg) b hb
     simp only [fb, mlen]; omega
    | row _ _ _ => simp [AB.ren] at this
    | rowc _ _ _ _ => simp [AB.ren] at this
    | gone => simp [AB.ren] at this
    | tr _ _ => simp [AB.ren] at this
 · omega
theorem qju {n pad : Nat} {M : Md} {f : AB → AB} (h1 : ∀ cs, (∀ b ∈ q03 cs, b < mlen n) → f (.box cs) = .box cs) (h2 : ∀ blk, (∀ cs, blk ≠ .box cs) → f blk = blk) : (modM n pad M).map f = modM n pad M := by
 apply z1e
 intro i
 rw [z11]
 cases h : (modM n pad M)[i]? with
 | none => rfl
 | some blk =>
  simp only [z19]
  congr 1
  by_cases hb : ∃ cs, blk = .box cs
  · obtain ⟨cs, rfl⟩ := hb
    exact h1 cs (mm_ids h)
  · exact h2 blk (fun cs hc => hb ⟨cs, hc⟩)
mutual
theorem qyw {m : List AB} {N : Nat} : ∀ x : AV, (∀ b ∈ bks x, b < N) → q0e m N x = x
 | .v _, _ => rfl
 | .agg xs, h => by simp only [q0e]; rw [q31 xs h]
 | .tup xs, h => by simp only [q0e]; rw [q31 xs h]
 | .sl _ _, _ => rfl
 | .rp _, _ => rfl
 | .own b _ _ _, h => by have := h b (by simp [bks]); simp only [q0e]; rw [if_neg (by omega)]
 | .ptr b _, h => by have := h b (by simp [bks]); simp only [q0e]; rw [if_neg (by omega)]
 | .ep b _ _ _, h => by have := h b (by simp [bks]); simp only [q0e]; rw [if_neg (by omega)]
 | .fn _ caps, h => by simp only [q0e]; rw [q31 caps h]
 | .any, _ => rfl
theorem q31 {m : List AB} {N : Nat} : ∀ xs : List AV, (∀ b ∈ q03 xs, b < N) → q06 m N xs = xs
 | [], _ => rfl
 | x :: xs, h => by
  simp only [q06]
  rw [qyw x (fun b hb => h b (by simp [q03, hb])), q31 xs (fun b hb => h b (by simp [q03, hb]))]
end
mutual
theorem killV_id {c : Nat} : ∀ x : AV, (∀ b ∈ bks x, b ≠ c) → q0w c x = x
 | .v _, _ => rfl
 | .agg xs, h => by simp only [q0w]; rw [q45 xs h]
 | .tup xs, h => by simp only [q0w]; rw [q45 xs h]
 | .sl _ _, _ => rfl
 | .rp _, _ => rfl
 | .own b _ _ _, h => by have := h b (by simp [bks]); simp only [q0w]; rw [if_neg this]
 | .ptr b _, h => by have := h b (by simp [bks]); simp only [q0w]; rw [if_neg this]
 | .ep b _ _ _, h => by have := h b (by simp [bks]); simp only [q0w]; rw [if_neg this]
 | .fn _ caps, h => by simp only [q0w]; rw [q45 caps h]
 | .any, _ => rfl
theorem q45 {c : Nat} : ∀ xs : List AV, (∀ b ∈ q03 xs, b ≠ c) → q1d c xs = xs
 | [], _ => rfl
 | x :: xs, h => by
  simp only [q1d]
  rw [killV_id x (fun b hb => h b (by simp [q03, hb])), q45 xs (fun b hb => h b (by simp [q03, hb]))]
end
mutual
theorem shutV_id {m : List AB} {c : Nat} : ∀ x : AV, (∀ b ∈ bks x, b ≠ c) → q5u m c x = x
 | .v _, _ => rfl
 | .agg xs, h => by simp only [q5u]; rw [q8g xs h]
 | .tup xs, h => by simp only [q5u]; rw [q8g xs h]
 | .sl _ _, _ => rfl
 | .rp _, _ => rfl
 | .own b _ _ _, h => by have := h b (by simp [bks]); simp only [q5u]; rw [if_neg this]
 | .ptr b _, h => by have := h b (by simp [bks]); simp only [q5u]; rw [if_neg this]
 | .ep b _ _ _, h => by have := h b (by simp [bks]); simp only [q5u]; rw [if_neg this]
 | .fn _ caps, h => by simp only [q5u]; rw [q8g caps h]
 | .any, _ => rfl
theorem q8g {m : List AB} {c : Nat} : ∀ xs : List AV, (∀ b ∈ q03 xs, b ≠ c) → q6n m c xs = xs
 | [], _ => rfl
 | x :: xs, h => by
  simp only [q6n]
  rw [shutV_id x (fun b hb => h b (by simp [q03, hb])), q8g xs (fun b hb => h b (by simp [q03, hb]))]
end
mutual
theorem qp1 {N : Nat} : ∀ x : AV, (∀ b ∈ bks x, b < N) → ren (List.range' 0 N) x = x
 | .v _, _ => rfl
 | .agg xs, h => by simp only [ren]; rw [q4n xs h]
 | .tup xs, h => by simp only [ren]; rw [q4n xs h]
 | .sl _ _, _ => rfl
 | .rp _, _ => rfl
 | .own b _ _ _, h => by have := h b (by simp [bks]); simp only [ren]; rw [q1m this, z16]
 | .ptr b _, h => by have := h b (by simp [bks]); simp only [ren]; rw [q1m this, z16]
 | .ep b _ _ _, h => by have := h b (by simp [bks]); simp only [ren]; rw [q1m this, z16]
 | .fn _ caps, h => by simp only [ren]; rw [q4n caps h]
 | .any, _ => rfl
theorem q4n {N : Nat} : ∀ xs : List AV, (∀ b ∈ q03 xs, b < N) → q0i (List.range' 0 N) xs = xs
 | [], _ => rfl
 | x :: xs, h => by
  simp only [q0i]
  rw [qp1 x (fun b hb => h b (by simp [q03, hb])), q4n xs (fun b hb => h b (by simp [q03, hb]))]
end
section
variable (n pad : Nat) (M : Md) (r : List AB)
theorem qiz {X : List AB} {N : Nat} (h : mlen n ≤ N) : (modM n pad M).map (AB.trunc X N) = modM n pad M :=
 qju (fun cs hc => by simp only [AB.trunc]; rw [q31 cs (fun b hb => z10 (hc b hb) h)]) (fun blk hb => by cases blk <;> first | rfl | exact absurd rfl (hb _))
theorem mm_kill {b : Nat} (h : mlen n ≤ b) : (modM n pad M).map (AB.kill b) = modM n pad M :=
 qju (fun cs hc => by simp only [AB.kill]; rw [q45 cs (fun c hb => by have := hc c hb; omega)]) (fun blk hb => by cases blk <;> first | rfl | exact absurd rfl (hb _))
theorem mm_shut {X : List AB} {b : Nat} (h : mlen n ≤ b) : (modM n pad M).map (AB.shut X b) = modM n pad M :=
 qju (fun cs hc => by simp only [AB.shut]; rw [q8g cs (fun c hb => by have := hc c hb; omega)]) (fun blk hb => by cases blk <;> first | rfl | exact absurd rfl (hb _))
theorem qpq (k : Nat) : (modM n pad M ++ r).map (AB.kill (mlen n + k)) = modM n pad M ++ r.map (AB.kill (mlen n + k)) := by rw [z12, mm_kill n pad M (by omega)]
theorem qxi : (modM n pad M ++ r).map (AB.kill (mlen n)) = modM n pad M ++ r.map (AB.kill (mlen n)) := qpq n pad M r 0
theorem qpr {X : List AB} (k : Nat) : (modM n pad M ++ r).map (AB.shut X (mlen n + k)) = modM n pad M ++ r.map (AB.shut X (mlen n + k)) := by rw [z12, mm_shut n pad M (by omega)]
theorem qxj {X : List AB} : (modM n pad M ++ r).map (AB.shut X (mlen n)) = modM n pad M ++ r.map (AB.shut X (mlen n)) := qpr n pad M r 0
theorem mm_tk (k : Nat) : (modM n pad M ++ r).take (mlen n + k) = modM n pad M ++ r.take k := by
 rw [z4y, q0u, z07 (by rw [q0u]; omega), show mlen n + k - mlen n = k by omega]
theorem mm_ret {X : List AB} : ((modM n pad M ++ r).take (mlen n)).map (AB.trunc X (mlen n)) = modM n pad M := by
 have := mm_tk n pad M r 0
 rw [z1y] at this
 rw [this, z13, z0i, qiz n pad M (z09 _)]
theorem qtc {X : List AB} : ((modM n pad M).take (mlen n)).map (AB.trunc X (mlen n)) = modM n pad M := by
 have := mm_ret n pad M [] (X := X)
 rwa [z0i] at this
theorem mm_rn {X : List AB} (k : Nat) : ((modM n pad M ++ r).take (mlen n + k)).map (AB.trunc X (mlen n + k)) = modM n pad M ++ (r.take k).map (AB.trunc X (mlen n + k)) := by
 rw [mm_tk, z12, qiz n pad M (by omega)]
theorem mm_rn1 {X : List AB} : ((modM n pad M ++ r).take (mlen n + 1)).map (AB.trunc X (mlen n + 1)) = modM n pad M ++ (r.take 1).map (AB.trunc X (mlen n + 1)) := mm_rn n pad M r 1
theorem mm_rn2 {X : List AB} : ((modM n pad M ++ r).take (mlen n + 2)).map (AB.trunc X (mlen n + 2)) = modM n pad M ++ (r.take 2).map (AB.trunc X (mlen n + 2)) := mm_rn n pad M r 2
theorem mm_rn3 {X : List AB} : ((modM n pad M ++ r).take (mlen n + 3)).map (AB.trunc X (mlen n + 3)) = modM n pad M ++ (r.take 3).map (AB.trunc X (mlen n + 3)) := mm_rn n pad M r 3
theorem mm_rn4 {X : List AB} : ((modM n pad M ++ r).take (mlen n + 4)).map (AB.trunc X (mlen n + 4)) = modM n pad M ++ (r.take 4).map (AB.trunc X (mlen n + 4)) := mm_rn n pad M r 4
theorem qg2 : renM (List.range' 0 (mlen n)) (modM n pad M) = modM n pad M := by
 have : ∀ l : List AB, renM (List.range' 0 (mlen n)) l = l.map (AB.ren (List.range' 0 (mlen n))) := by
  intro l; induction l with
  | nil => rfl
  | cons b l ih => rw [renM, ih]; rfl
 rw [this]
 exact qju (fun cs hc => by simp only [AB.ren]; rw [q4n cs hc]) (fun blk hb => by cases blk <;> first | rfl | exact absurd rfl (hb _))
theorem qfw : (modM n pad M).all (AB.inR (mlen n)) = true := by
 refine z0l.2 fun blk hb => ?_
 obtain ⟨i, hi⟩ := z1m hb
 cases blk with
 | box cs => exact z0l.2 fun b hb => decide_eq_true (mm_ids hi b hb)
 | _ => rfl
theorem qp0 : (List.range' 0 (mlen n)).map (fun b => (modM n pad M ++ r)[b]?) = (modM n pad M).map some := by
 apply z1e
 intro i
 by_cases hi : i < mlen n
 · rw [z11, q38 hi, z11]
   simp only [z19, z16]
   rw [z0j (by rw [q0u]; exact hi), z05 (by rw [q0u]; exact hi)]
   rfl
 · rw [z0p (by simp; omega), z0p (by simp [q0u]; omega)]
theorem qmw (M' : Md) : putL (modM n pad M ++ r) (List.range' 0 (mlen n)) (modM n pad M') = modM n pad M' ++ r := by
 apply z1e
 intro i
 by_cases hi : i < mlen n
 · have hg : (modM n pad M')[i]? = some ((modM n pad M')[i]'(by rw [q0u]; exact hi)) := z05 _
   rw [q9m _ _ _ i i _ z2c (by rw [q38 hi, z16]) hg (by rw [q4h]; omega), z0j (by rw [q0u]; exact hi), hg]
 · rw [q6m _ _ _ _ (fun hm => by have := (q39.1 hm).2; omega)]
   obtain ⟨k, rfl⟩ := z2a (z1x hi)
   rw [q6w, q6w]
end
def kpX (n b : Nat) : Bool := decide (b < 3) || decide (mlen n ≤ b)
theorem qca {g : FuncId} {args : List AV} {K0 K : AV → List AB → Prop} {n pad : Nat} {M : Md} {r : List AB} (h : ACall P g (modM n pad M) args K0) (hb : (q03 args).all (fun b => decide (b < 3)) = true)
 (hK : ∀ x m', K0 x m' → bks x = [] ∧ ∃ M', m' = modM n pad M' ∧ K x (modM n pad M' ++ r)) : ACall P g (modM n pad M ++ r) args K := by
 have hb' : ∀ b ∈ q03 args, b < mlen n := fun b hm => by have := z0l.1 hb b hm; simp only [decide_eq_true_eq] at this; simp only [mlen]; omega
 refine h.frame (List.range' 0 (mlen n)) z2c (by rw [qg2]; exact qp0 n pad M r) (q4n args hb').symm (by rw [z22]; exact z0l.2 fun b hm => decide_eq_true (hb' b hm)) (by rw [z22]; exact qfw n pad M) ?_
 intro x m' hx
 obtain ⟨hbx, M', rfl, hv⟩ := hK x m' hx
 exact ⟨by rw [q0u, q0u], by rw [qg2, qmw, qp1 x (by rw [hbx]; intro b hb; cases hb)]; exact hv⟩
theorem qtd {g : FuncId} {args : List AV} {K0 K : AV → List AB → Prop} {n pad : Nat} {M : Md} {r : List AB} (h : q0r P (fun b => decide (b < 3)) g (modM n pad M) args K0) (hb : (q03 args).all (fun b => decide (b < 3)) = true) (hr : r.all (AB.calm n) = true)
 (hK : ∀ x m', K0 x m' → bks x = [] ∧ ∃ M', m' = modM n pad M' ∧ K x (modM n pad M' ++ r)) : q0r P (kpX n) g (modM n pad M ++ r) args K := by
 have hb' : ∀ b ∈ q03 args, b < mlen n := fun b hm => by have := z0l.1 hb b hm; simp only [decide_eq_true_eq] at this; simp only [mlen]; omega
 have key : ∀ b, kpX n b = true → kpOf (fun b => decide (b < 3)) (List.range' 0 (mlen n)) 0 b = true := by
  intro b hb
  by_cases hm : b < mlen n
  · rw [qh9 (j := b) z2c (by rw [q38 hm, z16])]
    simp only [kpX, z1q, decide_eq_true_eq] at hb
    simp only [decide_eq_true_eq]; omega
  · exact q9q (fun h => by have := (q39.1 h).2; omega)
 refine q0r.keeps (kp := kpOf (fun b => decide (b < 3)) (List.range' 0 (mlen n)) 0) ?_ (fun b _ hb => key b hb)
 refine h.frame (List.range' 0 (mlen n)) z2c (by rw [qg2]; exact qp0 n pad M r) (q4n args hb').symm (by rw [z22]; exact z0l.2 fun b hm => decide_eq_true (hb' b hm)) (by rw [z22]; exact qfw n pad M) ?_ ?_
 · refine q6q fun i cs hi => ?_
   rw [z16]
   by_cases hm : i < mlen n
   · exact .inl (q39.2 ⟨z00 _, by omega⟩)
   · obtain ⟨k, rfl⟩ := z2a (z1x hm)
     rw [q6w] at hi
     have := z0l.1 hr _ (z06 hi)
     exact .inr (z0l.2 fun b hb => key b (z0l.1 this b hb))
 · intro x m' hx
   obtain ⟨hbx, M', rfl, hv⟩ := hK x m' hx
   exact ⟨by rw [q0u, q0u], by rw [qg2, qmw, qp1 x (by rw [hbx]; intro b hb; cases hb)]; exact hv⟩
theorem qa0 {g : FuncId} {args : List AV} {K0 K : AV → List AB → Prop} {n pad : Nat} {M : Md} {r : List AB} (h : q0j P 3 g (modM n pad M) args K0) (hb : (q03 args).all (fun b => decide (b < 3)) = true) (hr : r.all (AB.calm n) = true)
 (hK : ∀ x m', K0 x m' → bks x = [] ∧ ∃ M', m' = modM n pad M' ∧ K x (modM n pad M' ++ r)) : q0r P (kpX n) g (modM n pad M ++ r) args K :=
 qtd h.toX hb hr hK
attribute [go_sem] mm_0 mm_1 mm_2 mm_0n mm_1n mm_2n mm_at0 mm_at1 mm_at2 mm_at3 mm_at4 mm_s0 mm_s1 mm_s2 mm_s3 mm_setT mm_setTn q0u q4h mm_add qpq qxi qpr qxj ml_z ml_1 ml_l ml_r ml_b ml_le ml_0 ml_0k AB.calm kpX kpM Nat.one_ne_zero ml_n0 ml_n1 ml_n2 ml_k0 ml_k1 ml_k2 ml_kl ml_kl0 qtc mm_ret mm_rn1 mm_rn2 mm_rn3 mm_rn4
end Go.Proofs.YtdkcpcflfnakdaaGreat
namespace Go.Proofs.YtdkcpcflfnakdaaGreat
open Go Go.Proofs.YtdkcpcflfnakdaaGreat.Sym
set_option maxRecDepth 100000
set_option maxHeartbeats 1000000
theorem quh (id st pr : Int) : q08 P 35 [i64 id, i64 st, i64 pr] (fun x => x = bool (decide (0 ≤ id) && decide (id ≤ 255) && decide (1 ≤ st) && decide (st ≤ 9) && decide (0 ≤ pr) && decide (pr ≤ 9))) := by
 refine q09 tyOk Tryz.func35 rfl rfl fun K hK => ?_
 simp only [seval, go_sem, Tryz.ntmps35]
 refine q1v ?_ ?_ <;> intro h1
 rotate_left
 · simp only [seval, go_sem]
   apply hK
   simp only [seval, go_sem, Tryz.results35]
   simp only [h1, z23]
 simp only [seval, go_sem]
 refine q1v ?_ ?_ <;> intro h2
 rotate_left
 · simp only [seval, go_sem]
   apply hK
   simp only [seval, go_sem, Tryz.results35]
   simp only [h1, h2, z23, z2r]
 simp only [seval, go_sem]
 refine q1v ?_ ?_ <;> intro h3
 rotate_left
 · simp only [seval, go_sem]
   apply hK
   simp only [seval, go_sem, Tryz.results35]
   simp only [h1, h2, h3, z0t, z23, z2r]
 simp only [seval, go_sem]
 refine q1v ?_ ?_ <;> intro h4
 rotate_left
 · simp only [seval, go_sem]
   apply hK
   simp only [seval, go_sem, Tryz.results35]
   simp only [h1, h2, h3, h4, z0t, z23, z2r]
 simp only [seval, go_sem]
 refine q1v ?_ ?_ <;> intro h5
 rotate_left
 · simp only [seval, go_sem]
   apply hK
   simp only [seval, go_sem, Tryz.results35]
   simp only [h1, h2, h3, h4, h5, z0t, z23, z2r]
 simp only [seval, go_sem]
 apply hK
 simp only [seval, go_sem, Tryz.results35]
 simp only [h1, h2, h3, h4, h5, z0z, z0t]
def sumL (m : Bk) : Nat := (m.map fun p => p.2.l.length).sum
theorem qj3 {m : Bk} {i : Nat} (h : i < m.length) : sumL (m.take (i + 1)) = sumL (m.take i) + m[i].2.l.length := by
 rw [q12 h, sumL, z12, z57]; simp [sumL]
theorem qpl {n : Nat} {m : Bk} (h : q24 n m) : ∀ i, sumL (m.take i) ≤ n * i := by
 intro i
 induction i with
 | zero => simp [sumL]
 | succ i ih =>
  by_cases hi : i < m.length
  · rw [qj3 hi, z5q]
    have := (h.2.2 _ (z1i hi)).2
    omega
  · rw [z07 (by omega)]
    rw [z07 (by omega)] at ih
    rw [z5q]; omega
theorem qrt (m : Bk) (h : q24 200 m) : q08 P 61 [q0n m] (fun x => x = i64 (sumL m : Nat)) := by
 refine qgj tyOk Tryz.func61 rfl rfl fun K hK => ?_
 simp only [seval, go_sem, Tryz.ntmps61]
 have hml := h.2.1
 have hall := qid m
 unfold q0n at hall
 simp only [seval, go_sem, q0n]
 (refine q00 hall rfl ?_; rintro _ rfl)
 simp only [seval, go_sem]
 refine q91 tyOk (seq_se m (by omega)) (α := Nat) 2 2 [1, 3] ([.any, .ptr 0 0, .any, .ptr 1 0, .any, .any, .any, .any, .any, .any, .any, .any, .any, .any, .any, .any]) (fun xs i => i = xs.length ∧ i ≤ m.length)
  (fun i => [ebox m, .box [i64 (sumL (m.take i) : Nat)]]) 0 rfl rfl
  (fun x hx => by simp only [q3h, z1b] at hx; obtain ⟨p, _, rfl⟩ := hx; rfl) (z00 _) (by decide) (by rfl) ⟨rfl, z00 _⟩ rfl ?_ ?_
 · rintro xs x _ hpre ⟨rfl, hle⟩
   obtain ⟨hi, _, rfl⟩ := q7k hpre
   have hn := qj3 hi
   have hs := qpl h xs.length
   have hel := (h.2.2 _ (z1i hi)).2
   generalize m[xs.length] = p at *
   have ev0 : En.av p.2 = .agg [.sl 4 (avs p.2.l), i64 p.2.t.st, i64 p.2.t.pr, i64 p.2.t.n] := rfl
   have ew : IntKind.i64.wrap (((sumL (m.take xs.length) : Nat) : Int) + ((p.2.l.length : Nat) : Int)) = ((sumL (m.take xs.length) + p.2.l.length : Nat) : Int) := by
    have : 200 * xs.length ≤ 200 * 200 := z4l _ (by omega)
    rw [wrap_i64 (by omega) (by omega)]; rfl
   simp only [seval, go_sem, ev0, q07, ew]
   simp only [seval, go_sem, q3b]
   all_goals exact ⟨xs.length + 1, ⟨by first | rfl | simp, by omega⟩, by rw [hn]⟩
 · rintro _ ⟨rfl, hle⟩
   have e1 : (q3h m).length = m.length := by simp [q3h]
   rw [e1, z0w]
   simp only [seval, go_sem]
   apply hK
   simp only [seval, go_sem, Tryz.results61]
theorem qo6 (n : Nat) (m : Bk) (u : ByteArray) (now : Int) (h : q24 n m) (hn : n ≤ 700000) :
 q08 P 46 [q0n m, str u, u64 now] (fun x => x = .agg [i64 (ofP (q0o m u).l now).st, i64 (ofP (q0o m u).l now).pr, i64 (ofP (q0o m u).l now).n]) := by
 refine q09 tyOk Tryz.func46 rfl rfl fun K hK => ?_
 simp only [seval, go_sem, Tryz.ntmps46]
 have hml := h.2.1
 have hw := (qgd h u).2
 simp only [seval, go_sem, q0n]
 (refine q00 (qjn m u h.1 (by omega)) rfl ?_; rintro _ rfl)
 simp only [seval, go_sem]
 (refine q00 (qtp (q0o m u).l now (by omega)) rfl ?_; rintro _ rfl)
 simp only [seval, go_sem]
 apply hK
 simp only [seval, go_sem, Tryz.results46]
 try rfl
end Go.Proofs.YtdkcpcflfnakdaaGreat
namespace Go.Proofs.YtdkcpcflfnakdaaGreat
open Go Go.Proofs.YtdkcpcflfnakdaaGreat.Sym
set_option maxRecDepth 100000
set_option maxHeartbeats 1000000
set_option maxHeartbeats 1000000
def qfy (t : Tm) : AV := .agg [u64 t.now, u64 t.seq, bool t.cl]
theorem qvl (n pad : Nat) (M : Md) : ACall P 22 (modM n pad M) [.ptr 0 0] (fun x m' => x = qfy M.t ∧ m' = modM n pad M) := by
 refine q1a tyOk Tryz.func22 rfl rfl fun K hK => ?_
 rw [q0u] at hK ⊢
 simp only [seval, go_sem, Tryz.ntmps22]
 apply hK
 simp only [seval, go_sem, Tryz.results22]
 all_goals rfl
def stN (n : Nat) (u : ByteArray) : Nat := (strI n u).toNat
theorem qat {n : Nat} (h1 : 1 ≤ n) (h2 : n ≤ 8) (u : ByteArray) : stN n u < n ∧ strI n u = (stN n u : Int) := by
 have := qm0 (n := n) (by omega) (by omega) u
 unfold stN
 omega
theorem q2v {n : Nat} (h1 : 1 ≤ n) (h2 : n ≤ 8) : n = 1 ∨ n = 2 ∨ n = 3 ∨ n = 4 ∨ n = 5 ∨ n = 6 ∨ n = 7 ∨ n = 8 := by omega
structure MOk (n B : Nat) (M : Md) : Prop where
 n1 : 1 ≤ n
 n8 : n ≤ 8
 s : M.c.s = n
 b : ∀ j, q24 B (M.b j)
 m : ∀ j, q33 (M.f j).m
 ml : ∀ j, (M.f j).m.length ≤ B
 q : ∀ j k, ((M.f j).q k).1.length ≤ 100
 B : B ≤ 900
theorem qqr {n pad B : Nat} {M : Md} (h : MOk n B M) (u : ByteArray) (hl : u.size ≤ 1000000) : ACall P 42 (modM n pad M) [.ptr 0 0, str u] (fun x m' => x = i64 (stN n u : Nat) ∧ m' = modM n pad M) := by
 refine q1a tyOk Tryz.func42 rfl rfl fun K hK => ?_
 rw [q0u] at hK ⊢
 simp only [seval, go_sem, Tryz.ntmps42]
 have hs := qat h.n1 h.n8 u
 have hS := qsf u M.c.s hl (by rw [h.s]; have := h.n1; omega) (by rw [h.s]; have := h.n8; omega)
 rw [h.s, hs.2] at hS
 simp only [seval, go_sem, h.s]
 (refine q00 hS rfl ?_; rintro _ rfl)
 simp only [seval, go_sem]
 apply hK
 simp only [Tryz.results42, retK, ares, z0t, z0z, AV.ofResults, St.trunc, q06, q0e, z0u, z0v, true_and, and_true, z0h, exists_eq_left']
 rw [qtc]
theorem qd8 {n pad B : Nat} {M : Md} (h : MOk n B M) (u : ByteArray) (hl : u.size ≤ 1000000) (r : List AB) : ACall P 42 (modM n pad M ++ r) [.ptr 0 0, str u] (fun x m' => x = i64 (stN n u : Nat) ∧ m' = modM n pad M ++ r) :=
 qca (qqr h u hl) rfl (by rintro x m' ⟨rfl, rfl⟩; exact ⟨rfl, M, rfl, rfl, rfl⟩)
def q4r (n : Nat) (M : Md) (u : ByteArray) : Pr := ofP (q0o (M.b (stN n u)) u).l M.t.now
theorem qmp {n pad B : Nat} {M : Md} (h : MOk n B M) (u : ByteArray) (hl : u.size ≤ 1000000) : ACall P 21 (modM n pad M) [.ptr 0 0, str u] (fun x m' => x = (q4r n M u).av ∧ m' = modM n pad M) := by
 refine q1a tyOk Tryz.func21 rfl rfl fun K hK => ?_
 rw [q0u] at hK ⊢
 simp only [seval, go_sem, Tryz.ntmps21]
 have hs := (qat h.n1 h.n8 u).1
 have hb := bk_at M.b hs
 have c1 : (0 : Int) ≤ ((stN n u : Nat) : Int) ∧ Int.toNat ((stN n u : Nat) : Int) < n := by omega
 have hP := qo6 B (M.b (stN n u)) u M.t.now (h.b _) (by have := h.B; omega)
 unfold q0n at hP
 refine q0a tyOk (by rfl) (by simp only [q4h, z02, z0a, mlen]; omega) (by kernel_rfl) rfl ?_
 simp only [seval, go_sem]
 refine q0v (qd8 h u hl _) (by rfl) ?_
 simp only [seval, go_sem, c1, hb, q8f]
 refine q16 hP rfl ?_
 simp only [seval, go_sem]
 refine ⟨by kernel_rfl, ?_⟩
 apply hK
 simp only [seval, go_sem, Tryz.results21]
 all_goals rfl
end Go.Proofs.YtdkcpcflfnakdaaGreat
namespace Go.Proofs.YtdkcpcflfnakdaaGreat
open Go Go.Proofs.YtdkcpcflfnakdaaGreat.Sym
set_option maxRecDepth 100000
set_option maxHeartbeats 1000000
set_option maxHeartbeats 1000000
def Md.tick (M : Md) (by_ : Int) : Md := { M with t := ⟨addW M.t.now by_, M.t.seq, M.t.cl⟩ }
def Md.take (M : Md) : Md := { M with t := ⟨M.t.now, addW M.t.seq 1, M.t.cl⟩ }
def Md.shut (M : Md) : Md := { M with t := ⟨M.t.now, M.t.seq, true⟩ }
theorem qwi (n pad : Nat) (M : Md) (by_ : Int) : ACall P 45 (modM n pad M) [.ptr 0 0, u64 by_] (fun x m' => x = .tup [] ∧ m' = modM n pad (M.tick by_)) := by
 refine q1a tyOk Tryz.func45 rfl rfl fun K hK => ?_
 rw [q0u] at hK ⊢
 simp only [seval, go_sem, Tryz.ntmps45]
 (refine q00 (qzf M.t by_) rfl ?_; rintro _ rfl)
 simp only [seval, go_sem]
 apply hK
 simp only [seval, go_sem, Tryz.results45]
 all_goals rfl
theorem ql4 (n pad : Nat) (M : Md) : ACall P 62 (modM n pad M) [.ptr 0 0] (fun x m' => x = u64 (addW M.t.seq 1) ∧ m' = modM n pad M.take) := by
 refine q1a tyOk Tryz.func62 rfl rfl fun K hK => ?_
 rw [q0u] at hK ⊢
 simp only [seval, go_sem, Tryz.ntmps62]
 (refine q00 (qwj M.t) rfl ?_; rintro _ rfl)
 simp only [seval, go_sem]
 apply hK
 simp only [seval, go_sem, Tryz.results62]
 all_goals rfl
theorem mm_setBn {n pad s : Nat} (M : Md) (v : Bk) (h : s < n) : (modM n pad M).set 1 (.row 87 2 ((q4z n M.b).set (Int.toNat (s : Int)) (.agg [.sl 1 (v.map fun p => str p.1), .sl 4 (v.map fun p => En.av p.2)]))) = modM n pad (M.setB s v) := by
 have := qtf (pad := pad) M [] v h
 simpa using this
theorem q9o {n pad s : Nat} (h : s < n) : (List.drop (Int.toNat (s : Int) * 1) (ptrs n pad)).headD .any = .ptr (fb s) 0 ∧ 0 < (List.drop (Int.toNat (s : Int) * 1) (ptrs n pad)).length := by
 rw [z0g]; exact ptr_drop h
def Md.tell (M : Md) (s : Nat) (l : List Chg) (seq : Int) : Md := M.setF s (q6e (M.f s) l seq)
theorem qtk {n pad B s : Nat} {M : Md} (h : MOk n B M) (r : List AB) (hr : r.all (AB.calm n) = true) (hs : s < n) (l : List Chg) (seq : Int) (hl : l.length ≤ 50000) :
 q0r P (kpM n) 64 (modM n pad M ++ r) [.ptr (fb s) 0, .sl 7 (chgs l), u64 seq] (fun x m' => m' = modM n pad (M.tell s l seq) ++ r) :=
 qth M r hs (qxa (M.f s) l seq (h.m s) (by have := h.ml s; have := h.B; omega) hl (fun k => by have := h.q s k; omega)).toX rfl rfl hr (by rintro x m' rfl; exact ⟨_, rfl, rfl⟩)
def Md.sweep (n : Nat) (M : Md) (s : Int) : Md :=
 if (decide (s < 0) || decide ((n : Int) ≤ s)) = true then M
 else (M.take.setB s.toNat (q21 (M.b s.toNat) M.t.now).1).tell s.toNat (q21 (M.b s.toNat) M.t.now).2 (addW M.t.seq 1)
theorem qs9 {n pad B : Nat} {M : Md} (h : MOk n B M) (s : Int) : q0j P 3 33 (modM n pad M) [.ptr 0 0, i64 s] (fun x m' => x = .tup [] ∧ m' = modM n pad (M.sweep n s)) := by
 refine q3a tyOk Tryz.func33 rfl rfl (by rw [q0u, mlen]; omega) fun K hK => ?_
 rw [q0u] at hK
 simp only [seval, go_sem, Tryz.ntmps33]
 unfold Md.sweep at hK
 cases h1 : decide (s < 0) with
 | true =>
  rw [h1] at hK
  simp only [seval, go_sem]
  apply hK
  simp only [seval, go_sem, Tryz.results33]
  all_goals rfl
 | false =>
  rw [h1] at hK
  simp only [seval, go_sem]
  refine q02 ?_ ?_ <;> intro h2
  · have h2 : decide ((n : Int) ≤ s) = true := h2
    rw [h2] at hK
    simp only [seval, go_sem]
    apply hK
    simp only [seval, go_sem, Tryz.results33]
    all_goals rfl
  · have h2 : decide ((n : Int) ≤ s) = false := h2
    rw [h2] at hK
    have hs0 : ¬ s < 0 := of_decide_eq_false h1
    have hs1 : ¬ (n : Int) ≤ s := of_decide_eq_false h2
    obtain ⟨k, rfl⟩ : ∃ k : Nat, s = (k : Int) := ⟨s.toNat, by omega⟩
    have hk : k < n := by omega
    have hb := bk_at M.b hk
    have c1 : (0 : Int) ≤ ((k : Nat) : Int) ∧ Int.toNat ((k : Nat) : Int) < n := by omega
    have hS := quy B (M.b k) M.t.now (h.b _) (by have := h.B; omega)
    unfold q0n at hS
    have hset := mm_setBn (pad := pad) ⟨M.c, ⟨M.t.now, addW M.t.seq 1, M.t.cl⟩, M.b, M.f⟩ (q21 (M.b k) M.t.now).1 hk
    obtain ⟨hp1, hp2⟩ := q9o (pad := pad) hk
    have hcl : (q21 (M.b k) M.t.now).2.length ≤ B := by
     have h3 := (q83 (h.b k).1 M.t.now (M.b k).length).2.2
     have h4 := (h.b k).2.1
     unfold q14 at h3
     rw [z0w] at h3
     unfold q21
     omega
    have hM1 : MOk n B (M.take.setB k (q21 (M.b k) M.t.now).1) := ⟨h.n1, h.n8, h.s, fun j => by
     simp only [Md.setB]
     split
     · exact qf2 (h.b k) M.t.now
     · exact h.b j, h.m, h.ml, h.q, h.B⟩
    have hT := qtk (pad := pad) hM1 [] rfl hk (q21 (M.b k) M.t.now).2 (addW M.t.seq 1) (by have := h.B; omega)
    rw [z0i] at hT
    simp only [seval, go_sem]
    refine q17 (Sym.ACall.mono (ql4 n pad M) ?_)
    rintro _ _ ⟨rfl, rfl⟩
    simp only [seval, go_sem]
    refine q0a tyOk (by rfl) (by simp only [q0u, mlen]; omega) (by kernel_rfl) rfl ?_
    simp only [seval, go_sem, c1, hb, q8f, Md.take]
    refine q16 hS rfl ?_
    simp only [seval, go_sem, c1, hb, q8f]
    refine ⟨by kernel_rfl, ?_⟩
    simp only [seval, go_sem, hset, c1, hp1, hp2]
    refine q3k (kp := kpM n) (fun b hb => by simp [kpM, hb]) (hT.mono ?_)
    rintro x m' rfl
    rw [z0i]
    simp only [seval, go_sem]
    apply hK
    simp only [seval, go_sem, Tryz.results33]
    simp only [z0g]
    all_goals rfl
end Go.Proofs.YtdkcpcflfnakdaaGreat
namespace Go.Proofs.YtdkcpcflfnakdaaGreat
open Go Go.Proofs.YtdkcpcflfnakdaaGreat.Sym
set_option maxRecDepth 100000
set_option maxHeartbeats 1000000
set_option maxHeartbeats 1000000
def slO (sz : Nat) : Option (List AV) → AV
 | none => .v (.slice none 0 0)
 | some l => .sl sz l
def prs (l : List Pr) : List AV := l.map Pr.av
structure Rp where
 err : Int
 vals : Option (List Pr)
 evs : Option (List Ev)
 lost : Bool
def Rp.av (r : Rp) : AV := .agg [i64 r.err, slO 3 (r.vals.map prs), slO 8 (r.evs.map evts), bool r.lost]
def errR (e : Int) : Rp := ⟨e, none, none, false⟩
def Md.write (n : Nat) (M : Md) (o : Opb) : Md :=
 if M.t.cl = true then M.take else (M.take.setB (stN n o.u) (q2a (M.b (stN n o.u)) o M.t.now M.c.k)).tell (stN n o.u) (q32 (M.b (stN n o.u)) o M.t.now M.c.k) (addW M.t.seq 1)
def qau (n : Nat) (M : Md) (o : Opb) : Rp := if M.t.cl = true then errR 5 else errR (q1t (M.b (stN n o.u)) o M.t.now M.c.k).2
theorem qyq {n B : Nat} {M : Md} (h : MOk n B M) (o : Opb) (hB : B + 1 ≤ 900) : MOk n (B + 1) (M.take.setB (stN n o.u) (q2a (M.b (stN n o.u)) o M.t.now M.c.k)) :=
 ⟨h.n1, h.n8, h.s, fun j => by
  simp only [Md.setB]
  split
  · exact qf7 (h.b _) o _ _
  · exact (h.b j).mono (z3e _), h.m, fun j => z2q (h.ml j), h.q, hB⟩
theorem qsa {n pad B : Nat} {M : Md} (h : MOk n B M) (hB : B + 1 ≤ 900) (o : Opb) (hu : o.u.size ≤ 1000000) : q0j P 3 39 (modM n pad M) [.ptr 0 0, o.av] (fun x m' => x = (qau n M o).av ∧ m' = modM n pad (M.write n o)) := by
 refine q3a tyOk Tryz.func39 rfl rfl (by rw [q0u, mlen]; omega) fun K hK => ?_
 rw [q0u] at hK
 simp only [seval, go_sem, Tryz.ntmps39]
 unfold Md.write qau at hK
 simp only [seval, go_sem, Opb.av]
 refine q17 (qca (ql4 n pad M) rfl ?_)
 rintro _ _ ⟨rfl, rfl⟩
 refine ⟨rfl, _, rfl, ?_⟩
 have hs := (qat h.n1 h.n8 o.u).1
 have hM1 := qyq h o hB
 have hT1 : MOk n B M.take := ⟨h.n1, h.n8, h.s, h.b, h.m, h.ml, h.q, h.B⟩
 have e1 : M.take.t.cl = M.t.cl := rfl
 have e2 : M.take.t.now = M.t.now := rfl
 have e3 : M.take.b = M.b := rfl
 have e4 : M.take.c = M.c := rfl
 have hw := qvt B (M.b (stN n o.u)) o M.t.now M.c.k (h.b _) (by have := h.B; omega)
 have hcl : (q32 (M.b (stN n o.u)) o M.t.now M.c.k).length ≤ 50000 := by have := qac (M.b (stN n o.u)) o.u (q1t (M.b (stN n o.u)) o M.t.now M.c.k).1 M.t.now; unfold q32; omega
 have hstr := qd8 (pad := pad) hT1 o.u hu
 generalize M.take = M1 at *
 cases hc : M.t.cl with
 | true =>
  rw [hc, if_pos rfl, if_pos rfl] at hK
  rw [hc] at e1
  simp only [seval, go_sem, e1]
  apply hK
  simp only [seval, go_sem, Tryz.results39]
  all_goals rfl
 | false =>
  rw [hc, if_neg (by decide), if_neg (by decide)] at hK
  rw [hc] at e1
  generalize stN n o.u = k at *
  have hb := bk_at M.b hs
  have c1 : (0 : Int) ≤ ((k : Nat) : Int) ∧ Int.toNat ((k : Nat) : Int) < n := by omega
  unfold q0n at hw
  have hset := fun r => qtf (pad := pad) M1 r (q2a (M.b k) o M.t.now M.c.k) hs
  rw [e3] at hset
  obtain ⟨hp1, hp2⟩ := q9o (pad := pad) hs
  unfold Opb.av at hw
  simp only [seval, go_sem, e1]
  refine q17 (Sym.ACall.mono (hstr _) ?_)
  rintro _ _ ⟨rfl, rfl⟩
  simp only [seval, go_sem]
  refine q0a tyOk (by rfl) (by simp only [q4h, z02, z0a, mlen]; omega) (by kernel_rfl) rfl ?_
  simp only [seval, go_sem, c1, e2, e3, e4, hb, q8f]
  refine q16 hw rfl ?_
  simp only [seval, go_sem, z4j]
  refine ⟨by (rcases q2v h.n1 h.n8 with rfl | rfl | rfl | rfl | rfl | rfl | rfl | rfl <;> kernel_rfl), ?_⟩
  refine q0a tyOk (by rfl) (by simp only [q4h, z02, z0a, mlen]; omega) (by kernel_rfl) rfl ?_
  simp only [seval, go_sem, c1, e3, hb, q8f]
  refine ⟨by kernel_rfl, ?_⟩
  simp only [seval, go_sem, hset, c1, hp1, hp2]
  refine q3k (kp := kpM n) (fun b hb => by simp [kpM, hb]) ((qtk hM1 _ ?_ hs _ _ hcl).mono ?_)
  · rfl
  rintro x m' rfl
  simp only [seval, go_sem]
  apply hK
  simp only [seval, go_sem, Tryz.results39]
  all_goals rfl
end Go.Proofs.YtdkcpcflfnakdaaGreat
namespace Go.Proofs.YtdkcpcflfnakdaaGreat
open Go Go.Proofs.YtdkcpcflfnakdaaGreat.Sym
set_option maxRecDepth 100000
set_option maxHeartbeats 1000000
set_option maxHeartbeats 1000000
def q4s (M : Md) (who : Int) (i : Nat) : Nat := ((List.range i).map fun j => cntM (M.f j).m who).sum
theorem qik (M : Md) (who : Int) (i : Nat) : q4s M who (i + 1) = q4s M who i + cntM (M.f i).m who := by
 simp [q4s, z2j]
theorem qne {n B : Nat} {M : Md} (h : MOk n B M) (who : Int) : ∀ i, q4s M who i ≤ B * i
 | 0 => by simp [q4s]
 | i + 1 => by
  have h1 := qne h who i
  have h2 := qq4 (M.f i).m who
  have h3 := h.ml i
  rw [qik, z5q]
  omega
theorem Count_in {n pad B s : Nat} {M : Md} (h : MOk n B M) (r : List AB) (hs : s < n) (who : Int) :
 ACall P 69 (modM n pad M ++ r) [.ptr (fb s) 0, i64 who] (fun x m' => x = i64 (cntM (M.f s).m who : Nat) ∧ m' = modM n pad M ++ r) :=
 qei M r hs (qw5 (M.f s) who (by have := h.ml s; have := h.B; omega)) rfl rfl (by rintro x m' ⟨rfl, rfl⟩; exact ⟨_, rfl, rfl, by rw [qnl]⟩)
theorem qs7 {n pad B s : Nat} {M : Md} (h : MOk n B M) (r : List AB) (hs : s < n) (who : Int) (u : ByteArray) :
 ACall P 70 (modM n pad M ++ r) [.ptr (fb s) 0, i64 who, str u] (fun x m' => x = bool (watF (M.f s).m who u) ∧ m' = modM n pad M ++ r) :=
 qei M r hs (qfj (M.f s) who u (h.m s) (by have := h.ml s; have := h.B; omega)) rfl rfl (by rintro x m' ⟨rfl, rfl⟩; exact ⟨_, rfl, rfl, by rw [qnl]⟩)
def Md.watchF (M : Md) (s : Nat) (who : Int) (u : ByteArray) : Md := M.setF s { M.f s with m := q40 (M.f s).m who u }
def Md.unwatchF (M : Md) (s : Nat) (who : Int) (u : ByteArray) : Md := M.setF s { M.f s with m := q3y (M.f s).m who u }
theorem qom {n pad B s : Nat} {M : Md} (h : MOk n B M) (r : List AB) (hs : s < n) (who : Int) (u : ByteArray) :
 ACall P 71 (modM n pad M ++ r) [.ptr (fb s) 0, i64 who, str u] (fun x m' => m' = modM n pad (M.watchF s who u) ++ r) :=
 qei M r hs (qtz (M.f s) who u (h.m s) (by have := h.ml s; have := h.B; omega)) rfl rfl (by rintro x m' rfl; exact ⟨_, rfl, rfl⟩)
theorem qv5 {n pad B s : Nat} {M : Md} (h : MOk n B M) (r : List AB) (hs : s < n) (who : Int) (u : ByteArray) :
 ACall P 43 (modM n pad M ++ r) [.ptr (fb s) 0, i64 who, str u] (fun x m' => m' = modM n pad (M.unwatchF s who u) ++ r) :=
 qei M r hs (qp4 (M.f s) who u (h.m s) (by have := h.ml s; have := h.B; omega)) rfl rfl (by rintro x m' rfl; exact ⟨_, rfl, rfl⟩)
theorem Drain_in {n pad B s : Nat} {M : Md} (h : MOk n B M) (r : List AB) (hr : r.all (AB.calm n) = true) (hs : s < n) (who : Int) (hw : cli who = true) :
 q0r P (kpM n) 67 (modM n pad M ++ r) [.ptr (fb s) 0, i64 who] (fun x m' => x = .tup [.sl 8 (evts ((M.f s).q who.toNat).1), bool ((M.f s).q who.toNat).2] ∧ m' = modM n pad (M.setF s ((M.f s).drain who)) ++ r) := by
 refine qth M r hs (qul (M.f s) who (fun k => by have := h.q s k; omega)) rfl rfl hr ?_
 rintro x m' ⟨rfl, rfl⟩
 rw [if_pos hw, qkk, if_pos hw, qkl, if_pos hw]
 exact ⟨_, rfl, rfl, rfl⟩
def qbm (n : Nat) (M : Md) (who : Int) (u : ByteArray) : Bool := (!watF (M.f (stN n u)).m who u) && decide (M.c.w ≤ (q4s M who n : Nat))
theorem qs6 {n pad B : Nat} {M : Md} (h : MOk n B M) (who : Int) (u : ByteArray) (hu : u.size ≤ 1000000) : ACall P 41 (modM n pad M) [.ptr 0 0, i64 who, str u]
 (fun x m' => x = i64 (if qbm n M who u = true then 4 else 0) ∧ m' = modM n pad (if qbm n M who u = true then M else M.watchF (stN n u) who u)) := by
 refine q1a tyOk Tryz.func41 rfl rfl fun K hK => ?_
 rw [q0u] at hK ⊢
 simp only [seval, go_sem, Tryz.ntmps41]
 have hs := (qat h.n1 h.n8 u).1
 unfold qbm at hK
 have hstr := qd8 (pad := pad) h u hu
 generalize stN n u = k at *
 have c1 : (0 : Int) ≤ ((k : Nat) : Int) ∧ Int.toNat ((k : Nat) : Int) < n := by omega
 obtain ⟨hp1, hp2⟩ := q9o (pad := pad) hs
 have hstr0 := hstr []
 rw [z0i] at hstr0
 refine q0a tyOk (by rfl) (by simp only [q0u, mlen]; omega) (by kernel_rfl) rfl ?_
 simp only [seval, go_sem]
 have hg : modM n pad M ++ List.replicate 0 AB.gone = modM n pad M := by simp
 refine q0v hstr0 (by rfl) ?_
 simp only [seval, go_sem, c1, hp1, hp2]
 refine ⟨by kernel_rfl, ?_⟩
 refine q0d tyOk (α := Nat) (mlen n) [0, 1, 2, 7, 8, 23, 24, 25] (fun i => i ≤ n)
  (fun i => ⟨[.ptr 0 0, i64 who, str u, .any, .any, .any, .any, .ptr (fb k) 0, i64 (q4s M who i : Nat), .any, .any, .any, .any, .any, .any, .any, .any, .any, .any, .any, .any, .any, .any, .own 2 1 0 n, i64 n, i64 i, .any, .any, .any, .any, .any, .any, .any, .any, .any, .any, .any, .any, .any, .any, .any, .any, .any, .any, .any, .any, .any, .any, .any, .any, .any, .any, .any], modM n pad M⟩)
  (fun i => n - i) 0 (z09 _) (z00 _) ?_ ?_
 · simp only [seval, go_sem, ml_nf hs]
   all_goals rfl
 intro i hi
 simp only [seval, go_sem]
 refine q02 ?_ ?_ <;> intro hc
 · have hlt : i < n := by simpa using hc
   have c2 : (0 : Int) ≤ ((i : Nat) : Int) ∧ Int.toNat ((i : Nat) : Int) < n := by omega
   obtain ⟨hq1, hq2⟩ := q9o (pad := pad) hlt
   have hC := Count_in (pad := pad) h [] hlt who
   rw [z0i] at hC
   have hcl := qne h who i
   have hcl2 := qq4 (M.f i).m who
   have hcl3 := h.ml i
   have hB := h.B
   have hn8 := h.n8
   have hmul : B * i ≤ 900 * 8 := z5w hB (by omega)
   have ew : IntKind.i64.wrap (((q4s M who i : Nat) : Int) + ((cntM (M.f i).m who : Nat) : Int)) = ((q4s M who i + cntM (M.f i).m who : Nat) : Int) := by rw [wrap_i64 (by omega) (by omega)]; omega
   have ew2 : IntKind.i64.wrap ((i : Int) + 1) = ((i + 1 : Nat) : Int) := by rw [wrap_i64 (by omega) (by omega)]; rfl
   simp only [seval, go_sem, c2, hq1, hq2]
   refine q17 (Sym.ACall.mono hC ?_)
   rintro _ _ ⟨rfl, rfl⟩
   simp only [seval, go_sem, ew, ew2]
   simp only [seval, go_sem, q01, ml_nf hs, ml_nf hlt]
   all_goals exact ⟨i + 1, hlt, by omega, by rw [qik]⟩
 · have hge : i = n := by have : ¬ ((i : Int) < (n : Int)) := by simpa using hc
                          omega
   subst hge
   simp only [seval, go_sem]
   have hn8 := h.n8
   have hW := qs7 (pad := pad) h [] hs who u
   rw [z0i] at hW
   refine q17 (Sym.ACall.mono hW ?_)
   rintro _ _ ⟨rfl, rfl⟩
   simp only [seval, go_sem]
   cases hw : watF (M.f k).m who u with
   | true =>
    rw [hw, z4k, z23, if_neg (by decide), if_neg (by decide)] at hK
    simp only [seval, go_sem]
    have hC := qom (pad := pad) h [] hs who u
    rw [z0i] at hC
    refine q17 (Sym.ACall.mono hC ?_)
    rintro _ _ rfl
    rw [z0i]
    simp only [seval, go_sem]
    apply hK
    simp only [seval, go_sem, Tryz.results41]
   | false =>
    rw [hw, z3c, z0z] at hK
    simp only [seval, go_sem]
    refine q02 ?_ ?_ <;> intro hf
    · rw [show decide (M.c.w ≤ ((q4s M who i : Nat) : Int)) = true from hf, if_pos rfl, if_pos rfl] at hK
      simp only [seval, go_sem]
      apply hK
      simp only [seval, go_sem, Tryz.results41]
    · rw [show decide (M.c.w ≤ ((q4s M who i : Nat) : Int)) = false from hf, if_neg (by decide), if_neg (by decide)] at hK
      simp only [seval, go_sem]
      have hC := qom (pad := pad) h [] hs who u
      rw [z0i] at hC
      refine q17 (Sym.ACall.mono hC ?_)
      rintro _ _ rfl
      rw [z0i]
      simp only [seval, go_sem]
      apply hK
      simp only [seval, go_sem, Tryz.results41]
def Md.drains (M : Md) (who : Int) (i : Nat) : Md := { M with f := fun j => if j < i then (M.f j).drain who else M.f j }
theorem drains_0 (M : Md) (who : Int) : M.drains who 0 = M := by
 simp only [Md.drains, z28, if_false]
theorem qsk (M : Md) (who : Int) (i : Nat) : (M.drains who i).setF i (((M.drains who i).f i).drain who) = M.drains who (i + 1) := by
 simp only [Md.drains, Md.setF, Nat.lt_irrefl, if_false]
 congr 1
 funext j
 by_cases h1 : j = i
 · subst h1; simp
 · have e : (j < i + 1) = (j < i) := by simp; omega
   simp only [if_neg h1, e]
theorem qyi (M : Md) (who : Int) (i : Nat) : (M.drains who i).f i = M.f i := by simp [Md.drains]
theorem ql9 {n B : Nat} {M : Md} (h : MOk n B M) (who : Int) (i : Nat) : MOk n B (M.drains who i) :=
 ⟨h.n1, h.n8, h.s, h.b, fun j => by
  simp only [Md.drains]
  split
  · unfold Fd.drain; split <;> exact h.m j
  · exact h.m j, fun j => by
  simp only [Md.drains]
  split
  · unfold Fd.drain; split <;> exact h.ml j
  · exact h.ml j, fun j k => by
  simp only [Md.drains]
  split
  · unfold Fd.drain
    split
    · simp only [Fd.setQ]
      split
      · simp
      · exact h.q j k
    · exact h.q j k
  · exact h.q j k, h.B⟩
def q3m (M : Md) (who : Int) (i : Nat) : Rws := (List.range i).map fun j => ((M.f j).q who.toNat).1
def q98 (M : Md) (who : Int) (i : Nat) : Bool := (List.range i).any fun j => ((M.f j).q who.toNat).2
theorem qev (M : Md) (who : Int) (i : Nat) : q3m M who (i + 1) = q3m M who i ++ [((M.f i).q who.toNat).1] := by simp [q3m, z2j]
theorem qvh (M : Md) (who : Int) (i : Nat) : q98 M who (i + 1) = (q98 M who i || ((M.f i).q who.toNat).2) := by simp [q98, z2j]
theorem qnc (M : Md) (who : Int) (i : Nat) : (q3m M who i).length = i := by simp [q3m]
theorem qvc {n pad B : Nat} {M : Md} (h : MOk n B M) (who : Int) (hw : cli who = true) : q0j P 3 40 (modM n pad M) [.ptr 0 0, i64 who]
 (fun x m' => x = Rp.av ⟨0, none, some (q3q (q3m M who n)), q98 M who n⟩ ∧ m' = modM n pad (M.drains who n)) := by
 refine q3a tyOk Tryz.func40 rfl rfl (by rw [q0u, mlen]; omega) fun K hK => ?_
 rw [q0u] at hK
 simp only [seval, go_sem, Tryz.ntmps40]
 refine q1r (q0c.adopt (i := 6) 39 1 rfl) ?_
 simp only [seval, go_sem]
 refine q0d tyOk (α := Nat) (mlen n + 3) [0, 1, 4, 5, 6, 14, 15, 16] (fun i => i ≤ n)
  (fun i => ⟨[.ptr 0 0, i64 who, .any, .any, .ptr (mlen n) 0, .ptr (mlen n + 1) 0, .own (mlen n + 2) 1 0 i, .any, .any, .any, .any, .any, .any, .any, .own 2 1 0 n, i64 n, i64 i, .any, .any, .any, .any, .any, .any, .any, .any, .any, .any, .any, .any, .any, .any, .any, .any, .any, .any, .any, .any, .any, .any, .any, .any], modM n pad (M.drains who i) ++ [.box [i64 0, .v (.slice none 0 0), .v (.slice none 0 0), bool false], .box [i64 0, .v (.slice none 0 0), .v (.slice none 0 0), bool (q98 M who i)], .row 39 1 (rws (q3m M who i))]⟩)
  (fun i => n - i) 0 (by omega) (z00 _) ?_ ?_
 · rw [drains_0]
   simp only [seval, go_sem]
   all_goals rfl
 intro i hi
 simp only [seval, go_sem]
 refine q02 ?_ ?_ <;> intro hc
 · have hlt : i < n := by simpa using hc
   have c2 : (0 : Int) ≤ ((i : Nat) : Int) ∧ Int.toNat ((i : Nat) : Int) < n := by omega
   obtain ⟨hq1, hq2⟩ := q9o (pad := pad) hlt
   have hn8 := h.n8
   have ew2 : IntKind.i64.wrap ((i : Int) + 1) = ((i + 1 : Nat) : Int) := by rw [wrap_i64 (by omega) (by omega)]; rfl
   have hl := qnc M who i
   simp only [seval, go_sem, c2, hq1, hq2]
   refine q3k (kp := kpM n) (fun b hb => by simp [kpM, show b < 3 by omega]) ((Drain_in (ql9 h who i) _ ?_ hlt who hw).mono ?_)
   · rfl
   rintro x m' ⟨rfl, rfl⟩
   rw [qsk, qyi]
   simp only [seval, go_sem, q3i, hl]
   refine ⟨⟨by simp only [maxLen]; omega, by omega⟩, ?_⟩
   have er : rws (q3m M who i) ++ [.sl 8 (evts ((M.f i).q who.toNat).1)] = rws (q3m M who (i + 1)) := by rw [qev, rws, rws, z12]; rfl
   have el := qvh M who i
   cases hL : q98 M who i with
   | true =>
    rw [hL, z30] at el
    simp only [seval, go_sem, ew2]
    simp only [seval, go_sem, q01, er]
    all_goals exact ⟨i + 1, hlt, by omega, by rw [el]⟩
   | false =>
    rw [hL, z2g] at el
    simp only [seval, go_sem, ew2]
    simp only [seval, go_sem, q01, er]
    all_goals exact ⟨i + 1, hlt, by omega, by rw [el]⟩
 · have hge : i = n := by have : ¬ ((i : Int) < (n : Int)) := by simpa using hc
                          omega
   subst hge
   have hn8 := h.n8
   have hl := qnc M who i
   have hM := qvs (q3m M who i) (by omega) (by
    have : ∀ k, total (q3m M who k) ≤ 100 * k := by
     intro k
     induction k with
     | zero => simp [q3m, total]
     | succ k ih =>
      have h1 := h.q k who.toNat
      rw [qev]
      simp only [total, z12, z57, z0r, z0o, z4w, List.sum_nil] at ih ⊢
      omega
    have := this i
    omega) (by
    intro j
    by_cases hj : j < i
    · have := h.q j who.toNat
      simp only [q3m, z04, z11, z5a hj, z19, z3x]
      omega
    · rw [z04, z0p (by omega)]
      simp)
   simp only [seval, go_sem]
   refine qk5 ?_
   simp only [seval, go_sem, q3i, hl]
   rw [z07 (by rw [q3i, hl]; exact z09 _)]
   (refine q00 hM rfl ?_; rintro _ rfl)
   simp only [seval, go_sem]
   apply hK
   simp only [seval, go_sem, Tryz.results40]
   all_goals first | rfl | exact ⟨rfl, rfl⟩
end Go.Proofs.YtdkcpcflfnakdaaGreat
namespace Go.Proofs.YtdkcpcflfnakdaaGreat
open Go Go.Proofs.YtdkcpcflfnakdaaGreat.Sym
set_option maxRecDepth 100000
set_option maxHeartbeats 1000000
set_option maxHeartbeats 2000000
def badN (us : List ByteArray) : Bool := us.any fun u => !q2q u
def badO (o : Opb) : Bool :=
 if (o.kind == 1) = true then (!q2q o.u) || !(decide (0 ≤ o.id) && decide (o.id ≤ 255) && decide (1 ≤ o.st) && decide (o.st ≤ 9) && decide (0 ≤ o.pr) && decide (o.pr ≤ 9))
 else if (o.kind == 2 || o.kind == 3) = true then (!q2q o.u) || !inB o.id 0 255
 else if (o.kind == 4 || (o.kind == 6 || o.kind == 7)) = true then !q2q o.u
 else if (o.kind == 5) = true then badN o.us || !inB o.us.length 1 8
 else !(o.kind == 8 || o.kind == 9)
theorem qc5 {us : List ByteArray} {i : Nat} (h : i < us.length) : badN (us.take (i + 1)) = (badN (us.take i) || !q2q us[i]) := by
 rw [q12 h, badN, z40]; simp [badN]
theorem qwu (o : Opb) (hu : o.us.length ≤ 1000) : q08 P 14 [o.av] (fun x => x = bool (badO o)) := by
 refine q09 tyOk Tryz.func14 rfl rfl fun K hK => ?_
 simp only [seval, go_sem, Tryz.ntmps14]
 unfold badO at hK
 simp only [seval, go_sem, Opb.av]
 cases h1 : (o.kind == 1)
 · rw [h1, if_neg (by decide)] at hK
   simp only [seval, go_sem]
   cases h2 : (o.kind == 2)
   · cases h3 : (o.kind == 3)
     · rw [h2, h3, if_neg (by decide)] at hK
       simp only [seval, go_sem, h3]
       cases h4 : (o.kind == 4)
       · simp only [seval, go_sem]
         cases h6 : (o.kind == 6)
         · simp only [seval, go_sem]
           cases h7 : (o.kind == 7)
           · rw [h4, h6, h7, if_neg (by decide)] at hK
             simp only [seval, go_sem]
             cases h5 : (o.kind == 5)
             · rw [h5, if_neg (by decide)] at hK
               simp only [seval, go_sem]
               cases h8 : (o.kind == 8)
               · simp only [seval, go_sem]
                 cases h9 : (o.kind == 9)
                 · rw [h8, h9] at hK
                   simp only [seval, go_sem]
                   apply hK
                   simp only [seval, go_sem, Tryz.results14]
                   try rfl
                 · rw [h8, h9] at hK
                   simp only [seval, go_sem]
                   apply hK
                   simp only [seval, go_sem, Tryz.results14]
                   try rfl
               · rw [h8] at hK
                 simp only [seval, go_sem]
                 apply hK
                 simp only [seval, go_sem, Tryz.results14]
                 try rfl
             · rw [h5, if_pos rfl] at hK
               simp only [seval, go_sem]
               refine q0d tyOk (α := Nat) 1 [1, 47, 48, 49] (fun i => i ≤ o.us.length ∧ badN (o.us.take i) = false)
                (fun i => ⟨[.any, .ptr 0 0, .any, .any, .any, .any, .any, .any, .any, .any, .any, .any, .any, .any, .any, .any, .any, .any, .any, .any, .any, .any, .any, .any, .any, .any, .any, .any, .any, .any, .any, .any, .any, .any, .any, .any, .any, .any, .any, .any, .any, .any, .any, .any, .any, .any, .any, .sl 1 (o.us.map fun x => str x), i64 (o.us.map fun x => str x).length, i64 i, .any, .any, .any, .any, .any, .any, .any, .any, .any, .any, .any, .any, .any, .any, .any], [.box [i64 o.kind, str o.u, i64 o.id, i64 o.st, i64 o.pr, u64 o.ttl, .sl 1 (o.us.map fun x => str x)]]⟩)
                (fun i => o.us.length - i) 0 (z00 _) ⟨z00 _, rfl⟩ rfl ?_
               rintro i ⟨hi, hbad⟩
               simp only [seval, go_sem, z0f]
               refine q02 ?_ ?_ <;> intro hc
               · have hlt : i < o.us.length := by simpa using hc
                 have c1 : (0 : Int) ≤ (i : Int) ∧ Int.toNat (i : Int) < o.us.length := by omega
                 have eg : (o.us.map fun x => str x).getD (Int.toNat (i : Int)) .any = str o.us[i] := by
                  simp [z04, hlt]
                 have ew : IntKind.i64.wrap ((i : Int) + 1) = ((i + 1 : Nat) : Int) := by rw [wrap_i64 (by omega) (by omega)]; rfl
                 have hn := qc5 hlt
                 simp only [seval, go_sem, c1, eg, z0f]
                 (refine q00 (q5m o.us[i]) rfl ?_; rintro _ rfl)
                 simp only [seval, go_sem]
                 cases hb : q2q o.us[i]
                 · have hbt : badN o.us = true := by
                    rw [badN, z39]
                    exact ⟨o.us[i], z1i hlt, by rw [hb]; rfl⟩
                   rw [hbt, z30] at hK
                   simp only [seval, go_sem]
                   apply hK
                   simp only [seval, go_sem, Tryz.results14]
                   try rfl
                 · simp only [seval, go_sem, ew]
                   simp only [seval, go_sem, q01]
                   all_goals exact ⟨i + 1, ⟨hlt, by rw [hn, hbad, hb]; rfl⟩, by omega, by first | rfl | simp⟩
               · have hge : i = o.us.length := by have : ¬ ((i : Int) < (o.us.length : Int)) := by simpa using hc
                                                  omega
                 subst hge
                 rw [z0w] at hbad
                 rw [hbad, z2g] at hK
                 simp only [seval, go_sem, z0f]
                 (refine q00 (q36 o.us.length 1 8) rfl ?_; rintro _ rfl)
                 simp only [seval, go_sem]
                 apply hK
                 simp only [seval, go_sem, Tryz.results14]
                 try rfl
           · rw [h4, h6, h7, if_pos (by rfl)] at hK
             simp only [seval, go_sem]
             (refine q00 (q5m o.u) rfl ?_; rintro _ rfl)
             simp only [seval, go_sem]
             apply hK
             simp only [seval, go_sem, Tryz.results14]
             try rfl
         · rw [h4, h6, if_pos (by rfl)] at hK
           simp only [seval, go_sem]
           (refine q00 (q5m o.u) rfl ?_; rintro _ rfl)
           simp only [seval, go_sem]
           apply hK
           simp only [seval, go_sem, Tryz.results14]
           try rfl
       · rw [h4, if_pos (by rfl)] at hK
         simp only [seval, go_sem]
         (refine q00 (q5m o.u) rfl ?_; rintro _ rfl)
         simp only [seval, go_sem]
         apply hK
         simp only [seval, go_sem, Tryz.results14]
         try rfl
     · rw [h2, h3, if_pos (by rfl)] at hK
       simp only [seval, go_sem, h3]
       (refine q00 (q5m o.u) rfl ?_; rintro _ rfl)
       simp only [seval, go_sem]
       cases hn : q2q o.u
       · rw [hn] at hK
         simp only [seval, go_sem]
         apply hK
         simp only [seval, go_sem, Tryz.results14]
         try rfl
       · rw [hn] at hK
         simp only [seval, go_sem]
         (refine q00 (q36 o.id 0 255) rfl ?_; rintro _ rfl)
         simp only [seval, go_sem]
         apply hK
         simp only [seval, go_sem, Tryz.results14]
         try rfl
   · rw [h2, if_pos (by rfl)] at hK
     simp only [seval, go_sem]
     (refine q00 (q5m o.u) rfl ?_; rintro _ rfl)
     simp only [seval, go_sem]
     cases hn : q2q o.u
     · rw [hn] at hK
       simp only [seval, go_sem]
       apply hK
       simp only [seval, go_sem, Tryz.results14]
       try rfl
     · rw [hn] at hK
       simp only [seval, go_sem]
       (refine q00 (q36 o.id 0 255) rfl ?_; rintro _ rfl)
       simp only [seval, go_sem]
       apply hK
       simp only [seval, go_sem, Tryz.results14]
       try rfl
 · rw [h1, if_pos rfl] at hK
   simp only [seval, go_sem]
   (refine q00 (q5m o.u) rfl ?_; rintro _ rfl)
   simp only [seval, go_sem]
   cases hn : q2q o.u
   · rw [hn] at hK
     simp only [seval, go_sem]
     apply hK
     simp only [seval, go_sem, Tryz.results14]
     try rfl
   · rw [hn] at hK
     simp only [seval, go_sem]
     (refine q00 (quh o.id o.st o.pr) rfl ?_; rintro _ rfl)
     simp only [seval, go_sem]
     apply hK
     simp only [seval, go_sem, Tryz.results14]
     try rfl
end Go.Proofs.YtdkcpcflfnakdaaGreat
namespace Go.Proofs.YtdkcpcflfnakdaaGreat
open Go Go.Proofs.YtdkcpcflfnakdaaGreat.Sym
set_option maxRecDepth 100000
set_option maxHeartbeats 1000000
set_option maxHeartbeats 2000000
def q4m (o : Opb) : List ByteArray := if (o.kind == 4) = true then [o.u] else o.us
abbrev strs (l : List ByteArray) : List AV := l.map fun x => str x
theorem qpo (l : List ByteArray) : (strs l).length = l.length := by simp [strs]
theorem qrm (o : Opb) (hk : (o.kind == 4 || o.kind == 5) = true) (hl : o.us.length ≤ 1000) : q08 P 13 [o.av] (fun x => x = .sl 1 (strs (q4m o))) := by
 refine q09 tyOk Tryz.func13 rfl rfl fun K hK => ?_
 simp only [seval, go_sem, Tryz.ntmps13]
 unfold q4m at hK
 simp only [seval, go_sem, Opb.av]
 cases h4 : (o.kind == 4)
 · rw [h4, z2g] at hk
   rw [h4, if_neg (by decide)] at hK
   simp only [seval, go_sem, hk, z0f]
   refine ⟨⟨by simp only [maxLen]; omega, by omega⟩, ?_⟩
   apply hK
   simp only [Tryz.results13, retK, ares, z0t, z0z, AV.ofResults, St.trunc, q06, q0e, z0u, z0v, z13, z17, z0o, z01, z03, Nat.reduceLeDiff, true_and, and_true, ↓reduceIte, z0h, exists_eq_left']
   rw [q1b (by simp)]
 · rw [h4, if_pos rfl] at hK
   simp only [seval, go_sem]
   apply hK
   simp only [Tryz.results13, retK, ares, z1k, z0t, z0z, AV.ofResults, St.trunc, q06, q0e, z0u, z0v, z13, z0y, z17, z0o, z0r, z01, z03, z02, z0a, Nat.reduceAdd, Nat.reduceLeDiff, z09, true_and, and_true, ↓reduceIte, z0h, exists_eq_left']
   try rfl
def doR (n : Nat) (M : Md) (who : Int) (o : Opb) : Rp :=
 if (badO o || !inB who 0 7) = true then errR 1
 else if (o.kind == 1 || (o.kind == 2 || o.kind == 3)) = true then qau n M o
 else if (o.kind == 8) = true then ⟨0, none, some (q3q (q3m M who n)), q98 M who n⟩
 else if M.t.cl = true then errR 5
 else if (o.kind == 6) = true then errR (if qbm n M who o.u = true then 4 else 0)
 else if (o.kind == 7) = true then errR 0
 else if (o.kind == 9) = true then errR 0
 else ⟨0, some ((q4m o).map (q4r n M)), none, false⟩
def doM (n : Nat) (M : Md) (who : Int) (o : Opb) : Md :=
 if (badO o || !inB who 0 7) = true then M
 else if (o.kind == 1 || (o.kind == 2 || o.kind == 3)) = true then M.write n o
 else if (o.kind == 8) = true then M.drains who n
 else if M.t.cl = true then M
 else if (o.kind == 6) = true then (if qbm n M who o.u = true then M else M.watchF (stN n o.u) who o.u)
 else if (o.kind == 7) = true then M.unwatchF (stN n o.u) who o.u
 else if (o.kind == 9) = true then M.shut
 else M
structure OpOk (o : Opb) : Prop where
 u : o.u.size ≤ 1000
 l : o.us.length ≤ 1000
 us : ∀ u ∈ o.us, u.size ≤ 1000
theorem kinds {o : Opb} (h : badO o = false) (h1 : (o.kind == 1 || (o.kind == 2 || o.kind == 3)) = false) (h8 : (o.kind == 8) = false) (h6 : (o.kind == 6) = false) (h7 : (o.kind == 7) = false) (h9 : (o.kind == 9) = false) : (o.kind == 4 || o.kind == 5) = true := by
 simp only [z2m] at h1
 unfold badO at h
 rw [h1.1, h1.2.1, h1.2.2, h6, h7, h8, h9] at h
 cases h4 : (o.kind == 4) with
 | true => rfl
 | false =>
  cases h5 : (o.kind == 5) with
  | true => rfl
  | false => rw [h4, h5] at h; simp at h
theorem qqd {who : Int} (h : inB who 0 7 = true) : cli who = true := by
 simp only [inB, cli, z0d, decide_eq_true_eq] at h ⊢
 omega
theorem qbn {P : Program} {T : TypeId → Option TI} {L : Nat} (hT : TyOk P T) (hm : P.follows .mixedOrders = true) {ops : Array Oper} {id : Nat} {k : List Fr} {s : St} {K : AExit → St → Prop} {c : Nat} {last : Oper}
 (hops : ops.toList.getLast? = some last) (hg : last.guard = none) (hnl : q4g last.op = false) (hL : L ≤ s.mem.length) (hb : qe3 ops.toList 0 = true) (hc : q0q ops.toList.dropLast = c) (hla : qti (q3n ops.toList []) ops.toList.dropLast.length = true)
 (h : q3f P T L ops ops.toList.dropLast 0 s.mem.length [] (.ops ops [last] :: k) { s with mem := s.mem ++ List.replicate c .gone } K) : qa6 P T L (.region id ops true) k s K :=
 qww hT hm (by obtain ⟨ys, e⟩ := List.getLast?_eq_some_iff.1 hops; rw [e, List.dropLast_concat]) hg hnl hL hb hc hla h
theorem qaj {n pad B : Nat} {M : Md} (h : MOk n B M) (u : ByteArray) (hl : u.size ≤ 1000000) (r : List AB) : ACall P 21 (modM n pad M ++ r) [.ptr 0 0, str u] (fun x m' => x = (q4r n M u).av ∧ m' = modM n pad M ++ r) :=
 qca (qmp h u hl) rfl (by rintro x m' ⟨rfl, rfl⟩; exact ⟨rfl, M, rfl, rfl, rfl⟩)
def wrE (n : Nat) (M : Md) (o : Opb) : Int := if M.t.cl = true then 5 else (q1t (M.b (stN n o.u)) o M.t.now M.c.k).2
theorem qab (n : Nat) (M : Md) (o : Opb) : (qau n M o).av = .agg [i64 (wrE n M o), .v (.slice none 0 0), .v (.slice none 0 0), bool false] := by
 unfold qau wrE
 split <;> rfl
theorem qp2 (n : Nat) (M : Md) (o : Opb) : bks (qau n M o).av = [] := by rw [qab]; rfl
theorem qqc {n pad B : Nat} {M : Md} (h : MOk n B M) (hB : B + 1 ≤ 900) (who : Int) (o : Opb) (ho : OpOk o) : q0j P 3 19 (modM n pad M) [.ptr 0 0, i64 who, o.av]
 (fun x m' => x = (doR n M who o).av ∧ m' = modM n pad (doM n M who o)) := by
 refine q3a tyOk Tryz.func19 rfl rfl (by rw [q0u, mlen]; omega) fun K hK => ?_
 rw [q0u] at hK
 simp only [seval, go_sem, Tryz.ntmps19]
 unfold doR doM at hK
 have hBad := qwu o ho.l
 unfold Opb.av at hBad
 simp only [seval, go_sem, Opb.av]
 (refine q00 hBad rfl ?_; rintro _ rfl)
 cases hb : badO o with
 | true =>
  simp only [hb, z30, ↓reduceIte] at hK
  simp only [seval, go_sem]
  apply hK
  simp only [seval, go_sem, Tryz.results19]
  all_goals first | rfl | exact ⟨rfl, rfl⟩
 | false =>
 simp only [seval, go_sem]
 (refine q00 (q36 who 0 7) rfl ?_; rintro _ rfl)
 cases hw : inB who 0 7 with
 | false =>
  simp only [hb, hw, z2t, z3c, ↓reduceIte] at hK
  simp only [seval, go_sem]
  apply hK
  simp only [seval, go_sem, Tryz.results19]
  all_goals first | rfl | exact ⟨rfl, rfl⟩
 | true =>
 simp only [hb, hw, z4k, Bool.or_self, z0n, ↓reduceIte] at hK
 have hWr := qsa (pad := pad) h hB o (by have := ho.u; omega)
 unfold Opb.av at hWr
 have hcl := qqd hw
 cases h1 : (o.kind == 1 || (o.kind == 2 || o.kind == 3)) with
 | true =>
  simp only [h1, ↓reduceIte] at hK
  have key : (P : Prop) → (K2 : Prop) → K2 → K2 := fun _ _ h => h
  cases k1 : (o.kind == 1) with
  | true =>
   simp only [seval, go_sem, k1]
   refine q3k (kp := kpX n) (fun b hb => by simp [kpX, show b < 3 by omega]) (qa0 hWr rfl ?_ ?_)
   · rfl
   rintro x m' ⟨rfl, rfl⟩
   refine ⟨qp2 n M o, _, rfl, ?_⟩
   rw [qab n M o]
   simp only [seval, go_sem]
   apply hK
   simp only [seval, go_sem, Tryz.results19]
   all_goals first | exact (qab n M o).symm | exact ⟨(qab n M o).symm, rfl⟩
  | false =>
   rw [k1, z2g] at h1
   cases k2 : (o.kind == 2) with
   | true =>
    simp only [seval, go_sem, k1, k2]
    refine q3k (kp := kpX n) (fun b hb => by simp [kpX, show b < 3 by omega]) (qa0 hWr rfl ?_ ?_)
    · rfl
    rintro x m' ⟨rfl, rfl⟩
    refine ⟨qp2 n M o, _, rfl, ?_⟩
    rw [qab n M o]
    simp only [seval, go_sem]
    apply hK
    simp only [seval, go_sem, Tryz.results19]
    all_goals first | exact (qab n M o).symm | exact ⟨(qab n M o).symm, rfl⟩
   | false =>
    rw [k2, z2g] at h1
    simp only [seval, go_sem, k1, k2, h1]
    refine q3k (kp := kpX n) (fun b hb => by simp [kpX, show b < 3 by omega]) (qa0 hWr rfl ?_ ?_)
    · rfl
    rintro x m' ⟨rfl, rfl⟩
    refine ⟨qp2 n M o, _, rfl, ?_⟩
    rw [qab n M o]
    simp only [seval, go_sem]
    apply hK
    simp only [seval, go_sem, Tryz.results19]
    all_goals first | exact (qab n M o).symm | exact ⟨(qab n M o).symm, rfl⟩
 | false =>
 have k1 : (o.kind == 1) = false := by simp only [z2m] at h1; exact h1.1
 have k2 : (o.kind == 2) = false := by simp only [z2m] at h1; exact h1.2.1
 have k3 : (o.kind == 3) = false := by simp only [z2m] at h1; exact h1.2.2
 simp only [h1, z0n, ↓reduceIte] at hK
 cases h8 : (o.kind == 8) with
 | true =>
  simp only [h8, ↓reduceIte] at hK
  have hPo := qvc (pad := pad) h who hcl
  simp only [seval, go_sem, k1, k2, k3, h8]
  refine q3k (kp := kpX n) (fun b hb => by simp [kpX, show b < 3 by omega]) (qa0 hPo rfl ?_ ?_)
  · rfl
  rintro x m' ⟨rfl, rfl⟩
  refine ⟨by rfl, _, rfl, ?_⟩
  simp only [seval, go_sem, Rp.av, z5u, z19, slO]
  apply hK
  simp only [seval, go_sem, Tryz.results19]
  all_goals first | rfl | exact ⟨rfl, rfl⟩
 | false =>
 simp only [h8, z0n, ↓reduceIte] at hK
 cases hc : M.t.cl with
 | true =>
  simp only [hc, ↓reduceIte] at hK
  simp only [seval, go_sem, k1, k2, k3, h8, hc]
  apply hK
  simp only [seval, go_sem, Tryz.results19]
  all_goals first | rfl | exact ⟨rfl, rfl⟩
 | false =>
 simp only [hc, z0n, ↓reduceIte] at hK
 cases h6 : (o.kind == 6) with
 | true =>
  simp only [h6, ↓reduceIte] at hK
  simp only [seval, go_sem, k1, k2, k3, h8, hc, h6]
  refine q17 (qca (qs6 h who o.u (by have := ho.u; omega)) rfl ?_)
  rintro _ _ ⟨rfl, rfl⟩
  refine ⟨rfl, _, rfl, ?_⟩
  simp only [seval, go_sem]
  apply hK
  simp only [seval, go_sem, Tryz.results19]
  all_goals first | rfl | exact ⟨rfl, rfl⟩
 | false =>
 simp only [h6, z0n, ↓reduceIte] at hK
 cases h7 : (o.kind == 7) with
 | true =>
  simp only [h7, ↓reduceIte] at hK
  simp only [seval, go_sem, k1, k2, k3, h8, hc, h6, h7]
  have hs := (qat h.n1 h.n8 o.u).1
  have hstr := qd8 (pad := pad) h o.u (by have := ho.u; omega)
  generalize stN n o.u = k at *
  have c1 : (0 : Int) ≤ ((k : Nat) : Int) ∧ Int.toNat ((k : Nat) : Int) < n := by omega
  obtain ⟨hp1, hp2⟩ := q9o (pad := pad) hs
  refine qbn tyOk (by rfl) rfl rfl rfl (by simp only [q4h, z02, z0a, mlen]; omega) (by kernel_rfl) rfl (by kernel_rfl) ?_
  simp only [List.dropLast, List.getLast]
  simp only [seval, go_sem]
  refine q0v (hstr _) (by rfl) ?_
  simp only [seval, go_sem, c1, hp1, hp2]
  refine ⟨by kernel_rfl, ?_⟩
  refine q17 ((qv5 h _ hs who o.u).mono ?_)
  rintro _ _ rfl
  simp only [seval, go_sem]
  apply hK
  simp only [seval, go_sem, Tryz.results19]
  all_goals first | rfl | exact ⟨rfl, rfl⟩
 | false =>
 simp only [h7, z0n, ↓reduceIte] at hK
 cases h9 : (o.kind == 9) with
 | true =>
  simp only [h9, ↓reduceIte] at hK
  simp only [seval, go_sem, k1, k2, k3, h8, hc, h6, h7, h9]
  have hSh := qwp M.t
  rw [hc] at hSh
  (refine q00 hSh rfl ?_; rintro _ rfl)
  simp only [seval, go_sem]
  apply hK
  simp only [seval, go_sem, Tryz.results19]
  all_goals first | rfl | exact ⟨rfl, rfl⟩
 | false =>
 simp only [h9, z0n, ↓reduceIte] at hK
 have hk := kinds hb h1 h8 h6 h7 h9
 have hU := qrm o hk ho.l
 unfold Opb.av at hU
 simp only [seval, go_sem, k1, k2, k3, h8, hc, h6, h7, h9]
 (refine q00 hU rfl ?_; rintro _ rfl)
 simp only [seval, go_sem, qpo]
 refine q1r (q0c.adoptIn (b := mlen n + 2) (c := 1) 44 3 (mm_at2 _ _ _ _) rfl) ?_
 have hus : (q4m o).length ≤ 1000 := by
  unfold q4m
  split
  · simp
  · exact ho.l
 have husz : ∀ u ∈ q4m o, u.size ≤ 1000 := by
  unfold q4m
  split
  · intro u hu; rw [z1j.1 hu]; exact ho.u
  · exact ho.us
 generalize q4m o = us at *
 simp only [seval, go_sem]
 refine q0d tyOk (α := Nat) (mlen n + 4) [0, 5, 6, 7, 41, 42, 43] (fun i => i ≤ us.length)
  (fun i => ⟨[.ptr 0 0, .any, .any, .any, .any, .ptr (mlen n) 0, .ptr (mlen n + 1) 0, .ptr (mlen n + 2) 0, .any, .any, .any, .any, .any, .any, .any, .any, .any, .any, .any, .any, .any, .any, .any, .any, .any, .any, .any, .any, .any, .any, .any, .any, .any, .any, .any, .any, .any, .any, .any, .any, .any, .sl 1 (strs us), i64 us.length, i64 i, .any, .any, .any, .any, .any, .any, .any, .any, .any, .any, .any, .any, .any, .any, .any, .any, .any, .any, .any, .any, .any, .any, .any, .any, .any, .any, .any, .any, .any, .any, .any, .any, .any, .any, .any, .any, .any, .any, .any, .any, .any, .any, .any, .any, .any, .any, .any], modM n pad M ++ [.box [i64 o.kind, str o.u, i64 o.id, i64 o.st, i64 o.pr, u64 o.ttl, .sl 1 (o.us.map fun x => str x)], .box [i64 0, .v (.slice none 0 0), .v (.slice none 0 0), bool false], .box [i64 0, .own (mlen n + 3) 3 0 i, .v (.slice none 0 0), bool false], .row 44 3 (prs ((us.take i).map (q4r n M)))]⟩)
  (fun i => us.length - i) 0 (by omega) (z00 _) ?_ ?_
 · simp only [seval, go_sem]
   all_goals rfl
 intro i hi
 simp only [seval, go_sem]
 refine q02 ?_ ?_ <;> intro hcc
 · have hlt : i < us.length := by simpa using hcc
   have c1 : (0 : Int) ≤ (i : Int) ∧ Int.toNat (i : Int) < us.length := by omega
   have eg : (strs us).getD (Int.toNat (i : Int)) .any = str us[i] := by
    simp [strs, z04, hlt]
   have ew : IntKind.i64.wrap ((i : Int) + 1) = ((i + 1 : Nat) : Int) := by rw [wrap_i64 (by omega) (by omega)]; rfl
   have hPr := qaj (pad := pad) h us[i] (by have := husz _ (z1i hlt); omega)
   have hpl : (prs ((us.take i).map (q4r n M))).length = i := by simp [prs]; omega
   simp only [seval, go_sem, c1, eg, qpo]
   refine q0a tyOk (by rfl) (by simp only [q4h, z02, z0a, mlen]; omega) (by kernel_rfl) rfl ?_
   simp only [seval, go_sem]
   refine q0v (hPr _) (by rfl) ?_
   simp only [seval, go_sem, Pr.av, hpl]
   refine ⟨⟨by simp only [maxLen]; omega, by omega⟩, ?_⟩
   have er : prs ((us.take i).map (q4r n M)) ++ [.agg [i64 (q4r n M us[i]).st, i64 (q4r n M us[i]).pr, i64 (q4r n M us[i]).n]] = prs ((us.take (i + 1)).map (q4r n M)) := by
    rw [q12 hlt, z12, prs, prs, z12]; rfl
   refine ⟨by (rcases q2v h.n1 h.n8 with rfl | rfl | rfl | rfl | rfl | rfl | rfl | rfl <;> kernel_rfl), ?_⟩
   simp only [seval, go_sem, ew]
   simp only [seval, go_sem, q01, er]
   all_goals exact ⟨i + 1, hlt, by omega, by rfl⟩
 · have hge : i = us.length := by have : ¬ ((i : Int) < (us.length : Int)) := by simpa using hcc
                                  omega
   subst hge
   rw [z0w]
   simp only [seval, go_sem]
   apply hK
   simp only [seval, go_sem, Tryz.results19]
   have hpl : (prs (us.map (q4r n M))).length = us.length := by simp [prs]
   simp only [if_true, hpl, z09]
   rw [z07 (by omega)]
   rfl
end Go.Proofs.YtdkcpcflfnakdaaGreat
namespace Go.Proofs.YtdkcpcflfnakdaaGreat
open Go Go.Proofs.YtdkcpcflfnakdaaGreat.Sym
set_option maxRecDepth 100000
set_option maxHeartbeats 1000000
set_option maxHeartbeats 2000000
def q1e (P : Program) (T : TypeId → Option TI) (L : Nat) (ops : Array Oper) (j : Nat) (s : St) (Kn : St → Prop) : Prop :=
 match ops[j]? with
 | some o => o.guard = none ∧ go P T L [.ops ops [o]] s (fun _ s' => Kn s')
 | none => False
theorem q0s {P : Program} {T : TypeId → Option TI} {L : Nat} (hT : TyOk P T) {ops : Array Oper} {j : Nat} {s : St} {Kn : St → Prop} (h : q1e P T L ops j s Kn) : qg0 P T L ops j s Kn := by
 unfold q1e at h
 split at h
 · rename_i o ho
   obtain ⟨hg, h⟩ := h
   have h1 := q5p hT [o] s _ h
   simp only [q72, hg] at h1
   exact ⟨o, ho, hg, h1⟩
 · exact h.elim
theorem qfz {P : Program} {T : TypeId → Option TI} {L : Nat} (hT : TyOk P T) (hm : P.follows .mixedOrders = true) {id : Nat} {ops : Array Oper} {k : List Fr} {s : St} {K : AExit → St → Prop}
 (h : ∀ o : Array Oper, o = ops → ∃ Inv : Nat → Array Bool → St → Prop, Inv o.size (Array.replicate o.size false) s ∧ (∀ listed s, Inv 0 listed s → Region.ready .any o listed = [] ∧ go P T L k s K) ∧
  (∀ n listed s, Inv (n + 1) listed s → Region.ready .any o listed ≠ [] ∧ ∀ j ∈ Region.ready .any o listed, qg0 P T L o j s (fun s' => Inv n (listed.setIfInBounds j true) s'))) :
 qa6 P T L (.region id ops true) k s K := by
 obtain ⟨Inv, h1, h2, h3⟩ := h ops rfl
 exact any_rule hT hm Inv h1 h2 h3
def nextA (T : TypeId → Option TI) (L : Nat) (ops : Array Oper) (j : Nat) (s : St) (Kn : St → Prop) : Prop :=
 match ops[j]? with
 | some o => o.guard = none ∧ qki T L o.op s (fun x s' => Kn (s'.put o.dst x))
 | none => False
theorem qph {P : Program} {T : TypeId → Option TI} {L : Nat} {ops : Array Oper} {j : Nat} {s : St} {Kn : St → Prop} (h : nextA T L ops j s Kn) : qg0 P T L ops j s Kn := by
 unfold nextA at h
 split at h
 · rename_i o ho
   exact ⟨o, ho, h.1, .inr (.inr (.inr h.2))⟩
 · exact h.elim
theorem ACall.renum {g : FuncId} {args : List AV} {K K' : AV → List AB → Prop} (h : ACall P g [] args K) (hk : ∀ x m', K x m' → ∃ x' m'', q2l 0 ⟨[x], m'⟩ ⟨[x'], m''⟩ ∧ K' x' m'') : ACall P g [] args K' := by
 refine ⟨h.1, fun Hd ι w vs hR => (h.2 Hd ι w vs hR).mono ?_⟩
 rintro e w' ⟨y, x, ι', m', rfl, h1, h2, h3⟩
 obtain ⟨x', m'', ht, hk'⟩ := hk x m' h3
 obtain ⟨ι2, h4, h5⟩ := ht Hd 0 ι' _ w' h1
 have hι : ι = [] := z1a (by simpa using hR.len)
 subst hι
 have hE := (h2 0).trans h5
 exact ⟨y, x', ι2, m'', rfl, h4, fun L => ⟨hE.os, hE.tape, hE.output, hE.size, hE.imm, hE.shape, fun b o _ ho => by simp at ho⟩, hk'⟩
def qap (n : Nat) : List AV := List.replicate n (.agg [.v (.slice none 0 0), .v (.slice none 0 0)])
def cfgC (c : Cf) : List AV := [i64 c.s, i64 c.k, i64 c.q, i64 c.w, i64 c.r, u64 c.e, u64 c.st]
def lst3 (p q r z : Nat) : Array Bool := #[decide (1 ≤ p), decide (1 ≤ q), decide (2 ≤ q), decide (3 ≤ q), decide (1 ≤ r), decide (2 ≤ r), decide (3 ≤ r), decide (1 ≤ z), decide (2 ≤ z), decide (3 ≤ z)]
def rdy3 (p q r z : Nat) : List Nat :=
 (if p = 0 then [0] else []) ++ (if q < 3 then [q + 1] else []) ++ (if r < 3 then [r + 4] else []) ++ (if p = 1 ∧ q = 3 ∧ r = 3 ∧ z < 3 then [z + 7] else [])
def mod0 (c : Cf) (n : Nat) : List AV := [i64 c.s, i64 c.k, i64 c.q, i64 c.w, i64 c.r, u64 c.e, u64 c.st, u64 c.st, u64 0, bool false, .own 1 2 0 n, .v (.slice none 0 0)]
def S3 (c : Cf) (n p q r z : Nat) : St :=
 ⟨[.agg (cfgC c), .ptr 0 0, .v (.pointer none), .v (.int .i64 0), if 3 ≤ z then .ptr 2 0 else .any, .agg (cfgC c), bool true, .v (.bool false), if 1 ≤ p then .agg (cfgC c) else .any, if 1 ≤ q then .ptr 0 6 else .any, if 2 ≤ q then u64 c.st else .any, if 3 ≤ q then .agg [u64 c.st, u64 0, bool false] else .any, if 1 ≤ r then .ptr 0 0 else .any, if 2 ≤ r then i64 c.s else .any, if 3 ≤ r then .own 1 2 0 n else .any, if 1 ≤ z then .agg (mod0 c n) else .any, if 2 ≤ z then .ptr 2 0 else .any, .any, .any, .any, .any, .any, .any, .any, .any, .any, .any, .any, .any, .any, .any, .any, .any, .any, .any],
  .box (cfgC c) :: ((if 3 ≤ r then [.row 87 2 (qap n)] else []) ++ (if 2 ≤ z then [.box (mod0 c n)] else []))⟩
def Inv3 (c : Cf) (n k : Nat) (listed : Array Bool) (s : St) : Prop :=
 ∃ p q r z, p ≤ 1 ∧ q ≤ 3 ∧ r ≤ 3 ∧ z ≤ 3 ∧ (0 < z → p = 1 ∧ q = 3 ∧ r = 3) ∧ k + p + q + r + z = 10 ∧ listed = lst3 p q r z ∧ s = S3 c n p q r z
def lst6 (p q o z : Nat) : Array Bool := #[decide (1 ≤ p), decide (1 ≤ q), decide (2 ≤ q), decide (3 ≤ q), decide (4 ≤ q), decide (1 ≤ o), decide (2 ≤ o), decide (3 ≤ o), decide (4 ≤ o), decide (1 ≤ z), decide (2 ≤ z), decide (3 ≤ z), decide (4 ≤ z)]
def rdy6 (p q o z : Nat) : List Nat :=
 (if p = 0 then [0] else []) ++ (if q < 4 then [q + 1] else []) ++ (if o < 4 then [o + 5] else []) ++ (if q = 4 ∧ o = 4 ∧ (z = 0 ∨ (p = 1 ∧ z < 4)) then [z + 9] else [])
def q3z (c : Cf) : Fd := ⟨[], max c.q 0, fun _ => ([], false)⟩
def fid (i : Nat) : Nat := 4 + 18 * i
def nfs (c : Cf) : Nat → List AB
 | 0 => []
 | i + 1 => nfs c i ++ (fblk (fid i) (q3z c) ++ [.box [.ptr (fid i) 0]])
theorem qe6 (c : Cf) : ∀ i, (nfs c i).length = 18 * i
 | 0 => rfl
 | i + 1 => by rw [nfs, z0c, z0c, q7y, qe6 c i, z20]; omega
def q52 (i : Nat) : List AV := (List.range i).map fun j => .ptr (fid j) 0
def fdB (i pad : Nat) : AB := match i with
 | 0 => .row 76 1 []
 | _ => .box (q52 i ++ List.replicate pad .any)
def modI (c : Cf) (n : Nat) (x : AV) : List AV := [i64 c.s, i64 c.k, i64 c.q, i64 c.w, i64 c.r, u64 c.e, u64 c.st, u64 c.st, u64 0, bool false, .own 1 2 0 n, x]
def S6 (c : Cf) (n i pad : Nat) (x20 : AV) (p q o : Nat) : St :=
 ⟨[.any, .ptr 0 0, .any, .any, .ptr 2 0, .any, .any, .any, .any, .any, .any, .any, .any, .any, .any, .any, .any, .any, i64 c.s, i64 i, x20, if 1 ≤ p then .ptr 2 0 else .any, if 1 ≤ q then .ptr 2 0 else .any, if 2 ≤ q then .ptr 2 0 else .any, if 3 ≤ q then .ptr 2 11 else .any, if 4 ≤ q then .own 3 1 0 i else .any, if 1 ≤ o then .ptr 0 2 else .any, if 2 ≤ o then i64 c.q else .any, if 3 ≤ o then .ptr (fid i) 0 else .any, if 4 ≤ o then .own (fid i + 17) 1 0 1 else .any, .any, .any, .any, .any, .any],
  .box (cfgC c) :: .row 87 2 (qap n) :: .box (modI c n (.own 3 1 0 i)) :: fdB i pad :: (nfs c i ++ ((if 3 ≤ o then fblk (fid i) (q3z c) else []) ++ (if 4 ≤ o then [.box [.ptr (fid i) 0]] else [])))⟩
def Z6 (c : Cf) (n i kk : Nat) (x20 : AV) (p z : Nat) : St :=
 ⟨[.any, .ptr 0 0, .any, .any, .ptr 2 0, .any, .any, .any, .any, .any, .any, .any, .any, .any, .any, .any, .any, .any, i64 c.s, i64 i, x20, if 1 ≤ p then .ptr 2 0 else .any, .ptr 2 0, .ptr 2 0, .ptr 2 11, .any, .ptr 0 2, i64 c.q, .ptr (fid i) 0, .own (fid i + 17) 1 0 1, .own 3 1 0 (i + 1), if 2 ≤ z then .ptr 2 0 else .any, if 3 ≤ z then .ptr 2 11 else .any, .any, .any],
  .box (cfgC c) :: .row 87 2 (qap n) :: .box (modI c n (if 4 ≤ z then .own 3 1 0 (i + 1) else .any)) :: .box (q52 (i + 1) ++ List.replicate kk .any) :: nfs c (i + 1)⟩
def Inv6 (c : Cf) (n i pad : Nat) (x20 : AV) (k : Nat) (listed : Array Bool) (s : St) : Prop :=
 ∃ p q o z, p ≤ 1 ∧ q ≤ 4 ∧ o ≤ 4 ∧ z ≤ 4 ∧ (0 < z → q = 4 ∧ o = 4) ∧ (1 < z → p = 1) ∧ k + p + q + o + z = 13 ∧ listed = lst6 p q o z ∧ ((z = 0 ∧ s = S6 c n i pad x20 p q o) ∨ (0 < z ∧ ∃ kk, s = Z6 c n i kk x20 p z))
theorem s6_len (c : Cf) (i pad : Nat) (a b d : AB) : (a :: b :: d :: fdB i pad :: nfs c i).length = fid i := by
 simp only [z02, qe6, fid]; omega
theorem s6_get {a b d e z : AB} {X Y : List AB} {i : Nat} (hX : X.length = 18 * i) (hY : Y.length = 17) : (a :: b :: d :: e :: (X ++ (Y ++ [z])))[fid i + 17]? = some z := by
 rw [show fid i + 17 = (18 * i + 17) + 1 + 1 + 1 + 1 by simp only [fid]; omega]
 simp only [z03]
 rw [z18 (by omega), z18 (by omega), hX, hY]
 rw [show 18 * i + 17 - 18 * i - 17 = 0 by omega]
 rfl
theorem qxv (i pad : Nat) : ∀ b ∈ q03 (q52 i ++ List.replicate pad AV.any), ∃ j < i, b = fid j := by
 have h1 : ∀ (l : List Nat) b, b ∈ q03 (l.map (fun j => AV.ptr (fid j) 0)) → ∃ j ∈ l, b = fid j := by
  intro l b hb
  induction l with
  | nil => simp [q03] at hb
  | cons j l ih =>
   simp only [z0r, q03, bks, z0q, z1j] at hb
   rcases hb with rfl | hb
   · exact ⟨j, by simp, rfl⟩
   · obtain ⟨k, hk, e⟩ := ih hb; exact ⟨k, by simp [hk], e⟩
 have h2 : ∀ k, q03 (List.replicate k AV.any) = [] := by
  intro k
  induction k with
  | zero => rfl
  | succ k ih => simp [z3p, q03, bks, ih]
 intro b hb
 rw [q4j, h2, z0i] at hb
 obtain ⟨j, hj, e⟩ := h1 _ b hb
 exact ⟨j, by simpa using hj, e⟩
theorem ptrsI_ok (i : Nat) : qbf (q52 i) := by
 have : ∀ l : List Nat, qbf (l.map (fun j => AV.ptr (fid j) 0)) := by
  intro l
  induction l with
  | nil => trivial
  | cons j l ih => exact ⟨rfl, rfl, ih⟩
 exact this _
theorem ql5 (i : Nat) : q52 i ++ [.ptr (fid i) 0] = q52 (i + 1) := by simp [q52, z2j]
theorem qqb (l : List AV) : (∀ x ∈ l, ∃ j, x = .ptr (fid j) 0) → ∀ c ∈ q05 l, c ≠ 3 := by
 intro h
 induction l with
 | nil => intro c hc; simp [q05] at hc
 | cons x l ih =>
  obtain ⟨j, rfl⟩ := h x (by simp)
  intro c hc
  simp only [q05, AV.refs, z0q, z1j] at hc
  rcases hc with rfl | hc
  · simp only [fid]; omega
  · exact ih (fun y hy => h y (by simp [hy])) c hc
theorem qtx (c : Cf) : ∀ i blk, blk ∈ nfs c i → ∀ cs, blk = .box cs → ∀ b ∈ q03 cs, 4 ≤ b ∧ b < fid i
 | 0, blk, h => by simp [nfs] at h
 | i + 1, blk, h => by
  intro cs e b hb
  rw [nfs, z0q, z0q] at h
  rcases h with h | h | h
  · have := qtx c i blk h cs e b hb
    simp only [fid] at *; omega
  · obtain ⟨k, hk⟩ := z1m h
    rw [fblk, q23] at hk
    cases hg : (q0f (q3z c))[k]? with
    | none => rw [hg] at hk; cases hk
    | some blk0 =>
     rw [hg] at hk
     simp only [z19, z1d] at hk
     subst e
     cases blk0 with
     | box cs0 =>
      simp only [AB.ren, AB.box.injEq] at hk
      subst hk
      obtain ⟨d, hd, rfl, _⟩ := q4v cs0 (qj8 hg) b hb
      simp only [fid]; omega
     | row _ _ _ => simp [AB.ren] at hk
     | rowc _ _ _ _ => simp [AB.ren] at hk
     | gone => simp [AB.ren] at hk
     | tr _ _ => simp [AB.ren] at hk
  · rw [z1j] at h
    subst h
    cases e
    simp only [q03, bks, z0i, z1j] at hb
    subst hb
    simp only [fid]; omega
theorem qt8 (c : Cf) (i : Nat) {f : AB → AB} (h1 : ∀ cs, (∀ b ∈ q03 cs, 4 ≤ b ∧ b < fid i) → f (.box cs) = .box cs) (h2 : ∀ blk, (∀ cs, blk ≠ .box cs) → f blk = blk) : (nfs c i).map f = nfs c i := by
 refine (z2p (g := _root_.id) fun blk hm => ?_).trans (z5d _)
 by_cases hb : ∃ cs, blk = .box cs
 · obtain ⟨cs, rfl⟩ := hb
   exact h1 cs (qtx c i _ hm cs rfl)
 · exact h2 blk (fun cs hc => hb ⟨cs, hc⟩)
theorem nfs_kill (c : Cf) (i : Nat) : (nfs c i).map (AB.kill 3) = nfs c i :=
 qt8 c i (fun cs hc => by simp only [AB.kill]; rw [q45 cs (fun b hb => by have := hc b hb; omega)]) (fun blk hb => by cases blk <;> first | rfl | exact absurd rfl (hb _))
theorem qy6 (c : Cf) (i : Nat) {X : List AB} {N : Nat} (h : fid i ≤ N) : (nfs c i).map (AB.trunc X N) = nfs c i :=
 qt8 c i (fun cs hc => by simp only [AB.trunc]; rw [q31 cs (fun b hb => by have := hc b hb; omega)]) (fun blk hb => by cases blk <;> first | rfl | exact absurd rfl (hb _))
def qcp (c : Cf) (n i pad : Nat) : List AB := .box (cfgC c) :: .row 87 2 (qap n) :: .box (modI c n (.own 3 1 0 i)) :: .box (q52 i ++ List.replicate pad .any) :: nfs c i
theorem qio (c : Cf) (n i pad : Nat) (hi : i ≤ 8) {X : List AB} : ((qcp c n i pad).take 10000).map (AB.trunc X 10000) = qcp c n i pad := by
 have hl : (qcp c n i pad).length ≤ 10000 := by simp only [qcp, z02, qe6]; omega
 rw [z07 hl]
 have hf : ∀ j, j < i → fid j < 10000 := fun j hj => by simp only [fid]; omega
 simp only [qcp, z0r, AB.trunc]
 rw [qy6 c i (by simp only [fid]; omega), q31 (q52 i ++ List.replicate pad AV.any) (fun b hb => by obtain ⟨j, hj, rfl⟩ := qxv i pad b hb; exact hf j hj)]
 rfl
theorem new_made (c : Cf) (n : Nat) (hn : c.s = n) (h1 : 1 ≤ n) (h8 : n ≤ 8) (hr : c.right = true) : ACall P 17 [] [c.av] (fun x m' => x = .tup [.ptr 2 0, i64 0] ∧ ∃ pad, m' = qcp c n n pad) := by
 refine q0j.toA (q1f tyOk Tryz.func17 rfl rfl (N := 0) (M := 10000) (z00 _) (by simp) ?_)
 intro K hK
 simp only [seval, go_sem, Tryz.ntmps17, Cf.av]
 have hR := qdp c
 unfold Cf.av at hR
 rw [hr] at hR
 (refine q00 hR rfl ?_; rintro _ rfl)
 simp only [seval, go_sem]
 refine qfz tyOk (by rfl) ?_
 intro ops hops
 refine ⟨Inv3 c n, ?_, ?_, ?_⟩
 rotate_left 2
 · rintro k listed s ⟨p, q, r, z, hp, hq, hr3, hz, hzz, hk, rfl, rfl⟩
   have hrd : Region.ready .any ops (lst3 p q r z) = rdy3 p q r z := by
    subst hops
    by_cases hz0 : z = 0
    · subst hz0
      rcases (show p = 0 ∨ p = 1 by omega) with rfl | rfl <;> rcases (show q = 0 ∨ q = 1 ∨ q = 2 ∨ q = 3 by omega) with rfl | rfl | rfl | rfl <;> rcases (show r = 0 ∨ r = 1 ∨ r = 2 ∨ r = 3 by omega) with rfl | rfl | rfl | rfl <;> kernel_rfl
    · obtain ⟨rfl, rfl, rfl⟩ := hzz (by omega)
      rcases (show z = 1 ∨ z = 2 ∨ z = 3 by omega) with rfl | rfl | rfl <;> kernel_rfl
   rw [hrd]
   refine ⟨?_, ?_⟩
   · intro he
     simp only [rdy3, z2u] at he
     obtain ⟨⟨⟨e1, e2⟩, e3⟩, e4⟩ := he
     have g1 : p = 1 := by
      apply z2s hp
      apply z2k
      intro h
      rw [if_pos (by omega)] at e1; cases e1
     have g2 : q = 3 := by
      apply z2s hq
      apply z1x
      intro h
      rw [if_pos h] at e2; cases e2
     have g3 : r = 3 := by
      apply z2s hr3
      apply z1x
      intro h
      rw [if_pos h] at e3; cases e3
     rw [if_pos ⟨g1, g2, g3, by omega⟩] at e4; cases e4
   · intro j hj
     have hj' : (j = 0 ∧ p = 0) ∨ (j = q + 1 ∧ q < 3) ∨ (j = r + 4 ∧ r < 3) ∨ (j = z + 7 ∧ p = 1 ∧ q = 3 ∧ r = 3 ∧ z < 3) := by
      simp only [rdy3, z0q] at hj
      rcases hj with ((hj | hj) | hj) | hj
      · split at hj
        · rename_i h; exact .inl ⟨by simpa using hj, h⟩
        · cases hj
      · split at hj
        · rename_i h; exact .inr (.inl ⟨by simpa using hj, h⟩)
        · cases hj
      · split at hj
        · rename_i h; exact .inr (.inr (.inl ⟨by simpa using hj, h⟩))
        · cases hj
      · split at hj
        · rename_i h; exact .inr (.inr (.inr ⟨by simpa using hj, h⟩))
        · cases hj
     clear hj hrd
     have hn0 : (0 : Int) ≤ (n : Int) := by omega
     rcases hj' with ⟨rfl, rfl⟩ | ⟨rfl, hlt⟩ | ⟨rfl, hlt⟩ | ⟨rfl, rfl, rfl, rfl, hlt⟩
     · refine q0s tyOk ?_
       unfold q1e
       simp only [hops, z0k, z01]
       refine ⟨trivial, ?_⟩
       simp only [S3, cfgC, mod0]
       simp only [seval, go_sem]
       all_goals exact ⟨1, q, r, z, by omega, hq, hr3, hz, by omega, by omega, by simp [lst3], by first | rfl | simp [S3, cfgC, mod0]⟩
     · have hz0 : z = 0 := by omega
       subst hz0
       rcases (show q = 0 ∨ q = 1 ∨ q = 2 by omega) with rfl | rfl | rfl
       · refine q0s tyOk ?_
         unfold q1e
         simp only [hops, z0k, z01, z03, z16]
         refine ⟨trivial, ?_⟩
         simp only [S3, cfgC, mod0]
         simp only [seval, go_sem]
         all_goals exact ⟨p, 1, r, 0, hp, by omega, hr3, hz, by omega, by omega, by simp [lst3], by first | rfl | simp [S3, cfgC, mod0]⟩
       · refine q0s tyOk ?_
         unfold q1e
         simp only [hops, z0k, z01, z03, Nat.reduceAdd]
         refine ⟨trivial, ?_⟩
         simp only [S3, cfgC, mod0]
         simp only [seval, go_sem]
         all_goals exact ⟨p, 2, r, 0, hp, by omega, hr3, hz, by omega, by omega, by simp [lst3], by first | rfl | simp [S3, cfgC, mod0]⟩
       · refine q0s tyOk ?_
         unfold q1e
         simp only [hops, z0k, z01, z03, Nat.reduceAdd]
         refine ⟨trivial, ?_⟩
         simp only [S3, cfgC, mod0]
         simp only [seval, go_sem]
         all_goals exact ⟨p, 3, r, 0, hp, by omega, hr3, hz, by omega, by omega, by simp [lst3], by first | rfl | simp [S3, cfgC, mod0]⟩
     · have hz0 : z = 0 := by omega
       subst hz0
       rcases (show r = 0 ∨ r = 1 ∨ r = 2 by omega) with rfl | rfl | rfl
       · refine q0s tyOk ?_
         unfold q1e
         simp only [hops, z0k, z01, z03, z16]
         refine ⟨trivial, ?_⟩
         simp only [S3, cfgC, mod0]
         simp only [seval, go_sem]
         all_goals exact ⟨p, q, 1, 0, hp, hq, by omega, hz, by omega, by omega, by simp [lst3], by first | rfl | simp [S3, cfgC, mod0]⟩
       · refine q0s tyOk ?_
         unfold q1e
         simp only [hops, z0k, z01, z03, Nat.reduceAdd]
         refine ⟨trivial, ?_⟩
         simp only [S3, cfgC, mod0]
         simp only [seval, go_sem]
         all_goals exact ⟨p, q, 2, 0, hp, hq, by omega, hz, by omega, by omega, by simp [lst3], by first | rfl | simp [S3, cfgC, mod0]⟩
       · refine q0s tyOk ?_
         unfold q1e
         simp only [hops, z0k, z01, z03, Nat.reduceAdd]
         refine ⟨trivial, ?_⟩
         simp only [S3, cfgC, mod0]
         simp only [seval, go_sem]
         have hcn : c.s.toNat = n := by omega
         refine ⟨⟨by omega, by omega, by omega⟩, p, q, 3, 0, hp, hq, by omega, hz, by omega, by omega, by simp [lst3], ?_⟩
         first | done | simp [S3, cfgC, mod0, qap, hcn]
     · rcases (show z = 0 ∨ z = 1 ∨ z = 2 by omega) with rfl | rfl | rfl
       · refine q0s tyOk ?_
         unfold q1e
         simp only [hops, z0k, z01, z03, z16]
         refine ⟨trivial, ?_⟩
         simp only [S3, cfgC, mod0]
         simp only [seval, go_sem]
         all_goals exact ⟨1, 3, 3, 1, by omega, by omega, by omega, by omega, by omega, by omega, by simp [lst3], by first | rfl | simp [S3, cfgC, mod0]⟩
       · refine q0s tyOk ?_
         unfold q1e
         simp only [hops, z0k, z01, z03, Nat.reduceAdd]
         refine ⟨trivial, ?_⟩
         simp only [S3, cfgC, mod0]
         simp only [seval, go_sem]
         all_goals exact ⟨1, 3, 3, 2, by omega, by omega, by omega, by omega, by omega, by omega, by simp [lst3], by first | rfl | simp [S3, cfgC, mod0]⟩
       · refine q0s tyOk ?_
         unfold q1e
         simp only [hops, z0k, z01, z03, Nat.reduceAdd]
         refine ⟨trivial, ?_⟩
         simp only [S3, cfgC, mod0]
         simp only [seval, go_sem]
         all_goals exact ⟨1, 3, 3, 3, by omega, by omega, by omega, by omega, by omega, by omega, by simp [lst3], by first | rfl | simp [S3, cfgC, mod0]⟩
 · rw [show ops.size = 10 by rw [hops]; rfl]
   exact ⟨0, 0, 0, 0, by omega, by omega, by omega, by omega, by omega, by omega, rfl, rfl⟩
 rintro listed s ⟨p, q, r, z, hp, hq, hr3, hz, hzz, hk, rfl, rfl⟩
 obtain rfl : p = 1 := by omega
 obtain rfl : q = 3 := by omega
 obtain rfl : r = 3 := by omega
 obtain rfl : z = 3 := by omega
 refine ⟨by subst hops; kernel_rfl, ?_⟩
 clear hops
 simp only [S3, cfgC, mod0]
 simp only [seval, go_sem]
 refine q1r (q0c.adoptIn (b := 2) (c := 11) 76 1 rfl rfl) ?_
 simp only [seval, go_sem]
 refine q0d tyOk (α := Nat × Nat) 10000 [1, 4, 18, 19] (fun q => q.1 ≤ n)
  (fun q => ⟨[.any, .ptr 0 0, .any, .any, .ptr 2 0, .any, .any, .any, .any, .any, .any, .any, .any, .any, .any, .any, .any, .any, i64 c.s, i64 q.1, .any, .any, .any, .any, .any, .any, .any, .any, .any, .any, .any, .any, .any, .any, .any], .box (cfgC c) :: .row 87 2 (qap n) :: .box (modI c n (.own 3 1 0 q.1)) :: fdB q.1 q.2 :: nfs c q.1⟩)
  (fun q => n - q.1) (0, 0) (z00 _) (z00 _) ?_ ?_
 · rfl
 rintro ⟨i, pad⟩ hi
 simp only at hi
 simp only [seval, go_sem, cfgC, modI]
 refine q02 ?_ ?_ <;> intro hc
 · have hlt : i < n := by rw [hn] at hc; simpa using hc
   simp only [seval, go_sem]
   refine qfz tyOk (by rfl) ?_
   intro ops hops
   refine ⟨Inv6 c n i pad (.v (.bool (decide ((i : Int) < c.s)))), ?_, ?_, ?_⟩
   rotate_left 2
   · rintro k listed s ⟨p, q, o, z, hp, hq, ho, hz, hzz, hzp, hk, rfl, hs⟩
     have hrd : Region.ready .any ops (lst6 p q o z) = rdy6 p q o z := by
      subst hops
      by_cases hz0 : z = 0
      · subst hz0
        rcases (show p = 0 ∨ p = 1 by omega) with rfl | rfl <;> rcases (show q = 0 ∨ q = 1 ∨ q = 2 ∨ q = 3 ∨ q = 4 by omega) with rfl | rfl | rfl | rfl | rfl <;> rcases (show o = 0 ∨ o = 1 ∨ o = 2 ∨ o = 3 ∨ o = 4 by omega) with rfl | rfl | rfl | rfl | rfl <;> kernel_rfl
      · obtain ⟨rfl, rfl⟩ := hzz (by omega)
        by_cases hz1 : z = 1
        · subst hz1
          rcases (show p = 0 ∨ p = 1 by omega) with rfl | rfl <;> kernel_rfl
        · obtain rfl := hzp (by omega)
          rcases (show z = 2 ∨ z = 3 ∨ z = 4 by omega) with rfl | rfl | rfl <;> kernel_rfl
     rw [hrd]
     refine ⟨?_, ?_⟩
     · intro he
       simp only [rdy6, z2u] at he
       obtain ⟨⟨⟨e1, e2⟩, e3⟩, e4⟩ := he
       have g1 : p = 1 := by
        apply z2s hp
        apply z2k
        intro h
        rw [if_pos (by omega)] at e1; cases e1
       have g2 : q = 4 := by
        apply z2s hq
        apply z1x
        intro h
        rw [if_pos h] at e2; cases e2
       have g3 : o = 4 := by
        apply z2s ho
        apply z1x
        intro h
        rw [if_pos h] at e3; cases e3
       rw [if_pos ⟨g2, g3, .inr ⟨g1, by omega⟩⟩] at e4; cases e4
     · intro j hj
       have hj' : (j = 0 ∧ p = 0) ∨ (j = q + 1 ∧ q < 4) ∨ (j = o + 5 ∧ o < 4) ∨ (j = z + 9 ∧ q = 4 ∧ o = 4 ∧ (z = 0 ∨ (p = 1 ∧ z < 4))) := by
        simp only [rdy6, z0q] at hj
        rcases hj with ((hj | hj) | hj) | hj
        · split at hj
          · rename_i h; exact .inl ⟨by simpa using hj, h⟩
          · cases hj
        · split at hj
          · rename_i h; exact .inr (.inl ⟨by simpa using hj, h⟩)
          · cases hj
        · split at hj
          · rename_i h; exact .inr (.inr (.inl ⟨by simpa using hj, h⟩))
          · cases hj
        · split at hj
          · rename_i h; exact .inr (.inr (.inr ⟨by simpa using hj, h⟩))
          · cases hj
       clear hj hrd
       rcases hj' with ⟨rfl, rfl⟩ | ⟨rfl, hlq⟩ | ⟨rfl, hlo⟩ | ⟨rfl, rfl, rfl, hlz⟩
       · by_cases hz0 : z = 0
         · subst hz0
           obtain rfl : s = S6 c n i pad _ 0 q o := by rcases hs with ⟨_, h⟩ | ⟨h, _⟩; exact h; omega
           refine q0s tyOk ?_
           unfold q1e
           simp only [hops, z0k, z01]
           refine ⟨trivial, ?_⟩
           simp only [S6, cfgC, modI]
           simp only [seval, go_sem]
           all_goals exact ⟨1, q, o, 0, by omega, hq, ho, hz, by omega, by omega, by omega, by simp [lst6], .inl ⟨rfl, by first | rfl | simp [S6, cfgC, modI]⟩⟩
         · obtain ⟨rfl, rfl⟩ := hzz (by omega)
           obtain rfl : z = 1 := by omega
           obtain ⟨kk, rfl⟩ : ∃ kk, s = Z6 c n i kk _ 0 1 := by rcases hs with ⟨h, _⟩ | ⟨_, h⟩; omega; exact h
           refine q0s tyOk ?_
           unfold q1e
           simp only [hops, z0k, z01]
           refine ⟨trivial, ?_⟩
           simp only [Z6, cfgC, modI]
           simp only [seval, go_sem]
           all_goals exact ⟨1, 4, 4, 1, by omega, by omega, by omega, by omega, by omega, by omega, by omega, by simp [lst6], .inr ⟨by omega, kk, by first | rfl | simp [Z6, cfgC, modI]⟩⟩
       · have hz0 : z = 0 := by omega
         subst hz0
         obtain rfl : s = S6 c n i pad _ p q o := by rcases hs with ⟨_, h⟩ | ⟨h, _⟩; exact h; omega
         rcases (show q = 0 ∨ q = 1 ∨ q = 2 ∨ q = 3 by omega) with rfl | rfl | rfl | rfl
         · refine q0s tyOk ?_
           unfold q1e
           simp only [hops, z0k, z01, z03, z16]
           refine ⟨trivial, ?_⟩
           simp only [S6, cfgC, modI]
           simp only [seval, go_sem]
           all_goals exact ⟨p, 1, o, 0, by omega, by omega, ho, hz, by omega, by omega, by omega, by simp [lst6], .inl ⟨rfl, by first | rfl | simp [S6, cfgC, modI]⟩⟩
         · refine q0s tyOk ?_
           unfold q1e
           simp only [hops, z0k, z01, z03, Nat.reduceAdd]
           refine ⟨trivial, ?_⟩
           simp only [S6, cfgC, modI]
           simp only [seval, go_sem]
           all_goals exact ⟨p, 2, o, 0, by omega, by omega, ho, hz, by omega, by omega, by omega, by simp [lst6], .inl ⟨rfl, by first | rfl | simp [S6, cfgC, modI]⟩⟩
         · refine q0s tyOk ?_
           unfold q1e
           simp only [hops, z0k, z01, z03, Nat.reduceAdd]
           refine ⟨trivial, ?_⟩
           simp only [S6, cfgC, modI]
           simp only [seval, go_sem]
           all_goals exact ⟨p, 3, o, 0, by omega, by omega, ho, hz, by omega, by omega, by omega, by simp [lst6], .inl ⟨rfl, by first | rfl | simp [S6, cfgC, modI]⟩⟩
         · refine q0s tyOk ?_
           unfold q1e
           simp only [hops, z0k, z01, z03, Nat.reduceAdd]
           refine ⟨trivial, ?_⟩
           simp only [S6, cfgC, modI]
           simp only [seval, go_sem]
           all_goals exact ⟨p, 4, o, 0, by omega, by omega, ho, hz, by omega, by omega, by omega, by simp [lst6], .inl ⟨rfl, by first | rfl | simp [S6, cfgC, modI]⟩⟩
       · have hz0 : z = 0 := by omega
         subst hz0
         obtain rfl : s = S6 c n i pad _ p q o := by rcases hs with ⟨_, h⟩ | ⟨h, _⟩; exact h; omega
         rcases (show o = 0 ∨ o = 1 ∨ o = 2 ∨ o = 3 by omega) with rfl | rfl | rfl | rfl
         · refine q0s tyOk ?_
           unfold q1e
           simp only [hops, z0k, z01, z03, z16]
           refine ⟨trivial, ?_⟩
           simp only [S6, cfgC, modI]
           simp only [seval, go_sem]
           all_goals exact ⟨p, q, 1, 0, by omega, by omega, by omega, hz, by omega, by omega, by omega, by simp [lst6], .inl ⟨rfl, by first | rfl | simp [S6, cfgC, modI]⟩⟩
         · refine q0s tyOk ?_
           unfold q1e
           simp only [hops, z0k, z01, z03, Nat.reduceAdd]
           refine ⟨trivial, ?_⟩
           simp only [S6, cfgC, modI]
           simp only [seval, go_sem]
           all_goals exact ⟨p, q, 2, 0, by omega, by omega, by omega, hz, by omega, by omega, by omega, by simp [lst6], .inl ⟨rfl, by first | rfl | simp [S6, cfgC, modI]⟩⟩
         · refine q0s tyOk ?_
           unfold q1e
           simp only [hops, z0k, z01, z03, Nat.reduceAdd]
           refine ⟨trivial, ?_⟩
           simp only [S6, cfgC, modI]
           simp only [seval, go_sem]
           refine q17 (ACall.news (feed_New c.q) rfl ?_)
           rintro x M ⟨rfl, rfl⟩
           rw [q2m, s6_len]
           simp only [seval, go_sem]
           all_goals exact ⟨p, q, 3, 0, by omega, by omega, by omega, hz, by omega, by omega, by omega, by simp [lst6], .inl ⟨rfl, by first | rfl | (simp [S6, cfgC, modI, fblk, q3z]; done) | (simp [S6, cfgC, modI, fblk, q3z]; rfl)⟩⟩
         · refine q0s tyOk ?_
           unfold q1e
           simp only [hops, z0k, z01, z03, Nat.reduceAdd]
           refine ⟨trivial, ?_⟩
           simp only [S6, cfgC, modI]
           simp only [seval, go_sem]
           have hl17 : (nfs c i).length + (fblk (fid i) (q3z c)).length + 1 + 1 + 1 + 1 = fid i + 17 := by rw [qe6, q7y, fid]; omega
           exact ⟨p, q, 4, 0, by omega, by omega, by omega, hz, by omega, by omega, by omega, by simp [lst6], .inl ⟨rfl, by first | (simp only [hl17, S6, cfgC, modI, z1r, Nat.reduceLeDiff, ↓reduceIte]; done) | (simp only [hl17]; rfl) | rfl | (simp [S6, cfgC, modI]; done) | (simp [S6, cfgC, modI, q3z]; done) | (simp [S6, cfgC, modI, q3z]; rfl)⟩⟩
       · rcases (show z = 0 ∨ (p = 1 ∧ (z = 1 ∨ z = 2 ∨ z = 3)) by omega) with rfl | ⟨rfl, rfl | rfl | rfl⟩
         · obtain rfl : s = S6 c n i pad _ p 4 4 := by rcases hs with ⟨_, h⟩ | ⟨h, _⟩; exact h; omega
           refine qph ?_
           unfold nextA
           simp only [hops, z0k, z01, z03, z16]
           refine ⟨trivial, ?_⟩
           unfold qki
           simp only [S6, cfgC, modI]
           have hcs : ∃ cs, (fdB i pad = .box cs ∨ (fdB i pad = .row 76 1 [] ∧ cs = [])) ∧ i ≤ cs.length ∧ cs.take i = q52 i := by
            cases i with
            | zero => exact ⟨[], .inr ⟨rfl, rfl⟩, z09 _, rfl⟩
            | succ i => exact ⟨_, .inl rfl, by simp [q52], by rw [z0x (by simp [q52]), z07 (by simp [q52])]⟩
           obtain ⟨cs, hcs1, hcs2, hcs3⟩ := hcs
           refine ⟨73, 76, _, _, 3, i, fid i + 17, cs, [], .ptr (fid i) 0, rfl, rfl, rfl, rfl, rfl, by rfl, by decide, rfl, rfl, z00 _, ?_, hcs2, ?_, ?_, rfl, ?_, by omega, ?_⟩
           · exact hcs1.imp (fun h => by rw [h]; rfl) (fun ⟨h, e⟩ => ⟨by rw [h]; rfl, e⟩)
           · exact s6_get (qe6 c i) (q7y _ _)
           · rw [hcs3]; exact ptrsI_ok i
           · rw [hcs3, ql5]
             exact qqb _ (fun x hx => by simp only [q52, z1b] at hx; obtain ⟨j, _, rfl⟩ := hx; exact ⟨j, rfl⟩)
           · intro kk
             rw [hcs3, ql5]
             refine ⟨p, 4, 4, 1, hp, by omega, by omega, by omega, by omega, by omega, by omega, by simp [lst6], .inr ⟨by omega, kk, ?_⟩⟩
             have hkn : (nfs c i ++ (fblk (fid i) (q3z c) ++ [AB.box [.ptr (fid i) 0]])).map (AB.kill 3) = nfs c (i + 1) := nfs_kill c (i + 1)
             have hf3 : (fid i = 3) = False := by simp [fid]; omega
             have hf4 : (fid i + 17 = 3) = False := by simp [fid]
             simp only [St.rehome, St.put, z0r, Nat.reduceLeDiff, ↓reduceIte]
             rw [hkn]
             rcases (show p = 0 ∨ p = 1 by omega) with rfl | rfl
             · simp only [q1d, q0w, AB.kill, hf3, hf4, z42, z43, Z6, cfgC, modI, Nat.reduceLeDiff, Nat.reduceEqDiff, ↓reduceIte]
             · simp only [q1d, q0w, AB.kill, hf3, hf4, z42, z43, Z6, cfgC, modI, Nat.reduceLeDiff, Nat.reduceEqDiff, ↓reduceIte]
         · obtain ⟨kk, rfl⟩ : ∃ kk, s = Z6 c n i kk _ 1 1 := by rcases hs with ⟨h, _⟩ | ⟨_, h⟩; omega; exact h
           refine q0s tyOk ?_
           unfold q1e
           simp only [hops, z0k, z01, z03, Nat.reduceAdd]
           refine ⟨trivial, ?_⟩
           simp only [Z6, cfgC, modI]
           simp only [seval, go_sem]
           all_goals exact ⟨1, 4, 4, 2, by omega, by omega, by omega, by omega, by omega, by omega, by omega, by simp [lst6], .inr ⟨by omega, kk, by first | rfl | simp [Z6, cfgC, modI]⟩⟩
         · obtain ⟨kk, rfl⟩ : ∃ kk, s = Z6 c n i kk _ 1 2 := by rcases hs with ⟨h, _⟩ | ⟨_, h⟩; omega; exact h
           refine q0s tyOk ?_
           unfold q1e
           simp only [hops, z0k, z01, z03, Nat.reduceAdd]
           refine ⟨trivial, ?_⟩
           simp only [Z6, cfgC, modI]
           simp only [seval, go_sem]
           all_goals exact ⟨1, 4, 4, 3, by omega, by omega, by omega, by omega, by omega, by omega, by omega, by simp [lst6], .inr ⟨by omega, kk, by first | rfl | simp [Z6, cfgC, modI]⟩⟩
         · obtain ⟨kk, rfl⟩ : ∃ kk, s = Z6 c n i kk _ 1 3 := by rcases hs with ⟨h, _⟩ | ⟨_, h⟩; omega; exact h
           refine q0s tyOk ?_
           unfold q1e
           simp only [hops, z0k, z01, z03, Nat.reduceAdd]
           refine ⟨trivial, ?_⟩
           simp only [Z6, cfgC, modI]
           simp only [seval, go_sem]
           all_goals exact ⟨1, 4, 4, 4, by omega, by omega, by omega, by omega, by omega, by omega, by omega, by simp [lst6], .inr ⟨by omega, kk, by first | rfl | simp [Z6, cfgC, modI]⟩⟩
   · rw [show ops.size = 13 by rw [hops]; rfl]
     exact ⟨0, 0, 0, 0, by omega, by omega, by omega, by omega, by omega, by omega, by omega, rfl, .inl ⟨rfl, by first | rfl | simp [S6, cfgC, modI]⟩⟩
   rintro listed s ⟨p, q, o, z, hp, hq, ho, hz, hzz, hzp, hk, rfl, hs⟩
   obtain rfl : p = 1 := by omega
   obtain rfl : q = 4 := by omega
   obtain rfl : o = 4 := by omega
   obtain rfl : z = 4 := by omega
   obtain ⟨kk, rfl⟩ : ∃ kk, s = Z6 c n i kk _ 1 4 := by rcases hs with ⟨h, _⟩ | ⟨_, h⟩; omega; exact h
   refine ⟨by subst hops; kernel_rfl, ?_⟩
   clear hops
   simp only [Z6, cfgC, modI]
   have ew : IntKind.i64.wrap ((i : Int) + 1) = ((i + 1 : Nat) : Int) := by rw [wrap_i64 (by omega) (by omega)]; rfl
   simp only [seval, go_sem, ew]
   refine ⟨(i + 1, kk), hlt, by simp only; omega, ?_⟩
   have htr := fun X => qio c n (i + 1) kk (by omega) (X := X)
   simp only [qcp, cfgC, modI] at htr
   simp only [St.trunc, htr]
   rfl
 · have hge : i = n := by have : ¬ ((i : Int) < (n : Int)) := by rw [hn] at hc; simpa using hc
                          omega
   subst hge
   simp only [seval, go_sem]
   apply hK
   simp only [seval, go_sem, Tryz.results17]
   cases i with
   | zero => omega
   | succ i =>
    refine ⟨pad, ?_⟩
    exact qio c (i + 1) (i + 1) pad (by omega)
theorem q0c.weakRow {tm : List AV} {m : List AB} {b : Nat} {t : TypeId} {sz : Nat} {xs ys : List AV} (hb : m[b]? = some (.row t sz xs)) (hw : q2z xs ys) (hp : q05 ys = []) (hl : xs = [] → ys = []) : q0c ⟨tm, m⟩ ⟨tm, m.set b (.row t sz ys)⟩ := by
 intro Hd B ι a w h
 refine ⟨ι, ⟨by simpa using h.len, h.lt, h.inj, h.tmps, ?_, h.marks, h.hid, h.glob⟩, fun L => Ext.refl _ _⟩
 intro i blk hi
 have hi : (m.set b (.row t sz ys))[i]? = some blk := hi
 by_cases c : b = i
 · subst c
   rw [z0m (z08.1 hb).1] at hi
   cases hi
   obtain ⟨_, hm⟩ := h.mem b _ hb
   refine ⟨hp, ?_⟩
   rcases hm with ⟨r, cells, vs, h1, h2, h3, h4⟩ | ⟨h1, h2⟩
   · exact .inl ⟨r, cells, vs, h1, h2, q3r _ _ _ hw h3, h4⟩
   · exact .inr ⟨h1, hl h2⟩
 · rw [z0e c] at hi
   exact h.mem i blk hi
theorem qfv {x y : AV} (h : Sym.weak x y) : ∀ n, q2z (List.replicate n x) (List.replicate n y)
 | 0 => by simp [q2z]
 | n + 1 => ⟨y, List.replicate n y, rfl, h, qfv h n⟩
def q1z (c : Cf) : Md := ⟨c, ⟨c.st, 0, false⟩, fun _ => [], fun _ => q3z c⟩
theorem qms (n : Nat) : q4z n (fun _ => []) = List.replicate n (.agg [.sl 1 [], .sl 4 []]) := by
 simp only [q4z, q0n, z0o]
 apply z1e
 intro i
 by_cases hi : i < n
 · simp [hi]
 · simp [hi]
def nids : Nat → List Nat
 | 0 => [2, 1, 3]
 | n + 1 => nids n ++ List.range' (fid n) 17
theorem qmr (c : Cf) (n : Nat) (hn : c.s = n) (h1 : 1 ≤ n) (h8 : n ≤ 8) (hr : c.right = true) : ACall P 17 [] [c.av] (fun x m' => x = .tup [.ptr 0 0, i64 0] ∧ ∃ pad, m' = modM n pad (q1z c)) := by
 refine ACall.renum (new_made c n hn h1 h8 hr) ?_
 rintro x m' ⟨rfl, pad, rfl⟩
 refine ⟨.tup [.ptr 0 0, i64 0], modM n pad (q1z c), ?_, rfl, pad, rfl⟩
 refine q2l.trans (s' := ⟨[.tup [.ptr 2 0, i64 0]], (qcp c n n pad).set 1 (.row 87 2 (q4z n fun _ => []))⟩) (q0c.toL (q0c.weakRow (b := 1) (xs := qap n) rfl ?_ ?_ ?_)) ?_
 · rw [qms]
   exact qfv nil_se n
 · rw [qms, q0x]
   intro x hx
   rw [z1h hx]
   rfl
 · intro h
   have := congrArg List.length h
   simp [qap] at this
   omega
 · have hin : ∀ k, (modM k pad (q1z c)).all (AB.inR (mlen k)) = true := fun k => qfw k pad (q1z c)
   have key : ∀ k, (nids k).length = mlen k := by
    intro k
    induction k with
    | zero => rfl
    | succ k ih => rw [nids, z0c, ih, z22]; simp only [mlen]; omega
   refine q2l.pick (nids n) ?_ ?_ ?_ ?_ ?_ (fun b hb => absurd hb (z28 b))
   · rcases q2v h1 h8 with rfl | rfl | rfl | rfl | rfl | rfl | rfl | rfl <;> decide +kernel
   · have hrep : ∀ k, q0i (nids n) (List.replicate k AV.any) = List.replicate k AV.any := by
      intro k
      induction k with
      | zero => rfl
      | succ k ih => rw [z3p, q0i, ih]; rfl
     have happ : ∀ l m, q0i (nids n) (l ++ m) = q0i (nids n) l ++ q0i (nids n) m := by
      intro l m
      induction l with
      | nil => rfl
      | cons x l ih => rw [z1u, q0i, ih]; rfl
     have hp : q0i (nids n) (ptrs n pad) = q52 n ++ List.replicate pad AV.any := by
      rw [ptrs, happ, hrep]
      congr 1
      rcases q2v h1 h8 with rfl | rfl | rfl | rfl | rfl | rfl | rfl | rfl <;> rfl
     have e : renM (nids n) (modM n pad (q1z c)) = .box (q0i (nids n) [i64 c.s, i64 c.k, i64 c.q, i64 c.w, i64 c.r, u64 c.e, u64 c.st, u64 c.st, u64 0, bool false, .own 1 2 0 n, .own 2 1 0 n]) ::
      .row 87 2 (q4z n fun _ => []) :: .box (q52 n ++ List.replicate pad AV.any) :: renM (nids n) (qao (fun _ => q3z c) n 0) := by
      rw [← hp]; rfl
     show List.map _ (nids n) = List.map some (renM (nids n) (modM n pad (q1z c)))
     rw [e]
     clear hrep happ hp e
     generalize List.replicate pad AV.any = Q
     rcases q2v h1 h8 with rfl | rfl | rfl | rfl | rfl | rfl | rfl | rfl <;> kernel_rfl
   · rcases q2v h1 h8 with rfl | rfl | rfl | rfl | rfl | rfl | rfl | rfl <;> exact q2g _
   · rw [key]
     refine z0l.2 fun b hb => ?_
     have hb0 : b = 0 := by simpa [q03, bks] using hb
     subst hb0
     exact decide_eq_true (by simp only [mlen]; omega)
   · rw [key]; exact hin n
end Go.Proofs.YtdkcpcflfnakdaaGreat
namespace Go.Proofs.YtdkcpcflfnakdaaGreat
open Go Go.Proofs.YtdkcpcflfnakdaaGreat.Sym
set_option maxRecDepth 100000
set_option maxHeartbeats 1000000
set_option maxHeartbeats 2000000
def sm : Cf := ⟨3, 2, 16, 4, 1, 100, 0⟩
theorem qys : q08 P 18 [] (fun x => x = sm.av) := by
 refine q09 tyOk Tryz.func18 rfl rfl fun K hK => ?_
 simp only [seval, go_sem, Tryz.ntmps18]
 apply hK
 simp only [seval, go_sem, Tryz.results18]
 try rfl
abbrev annU : ByteArray := ⟨#[97, 110, 110]⟩
def opW : Opb := ⟨6, annU, 0, 0, 0, 0, []⟩
def opS : Opb := ⟨1, annU, 0, 2, 0, 9, []⟩
def opP : Opb := ⟨8, ⟨#[]⟩, 0, 0, 0, 0, []⟩
theorem qmu (u : ByteArray) : q2q u = true ↔ (u.size ≠ 0 ∧ u.size ≤ 16) := by
 unfold q2q
 rw [z0d, decide_eq_true_eq]
 have h1 : (!(u.toList == ByteArray.toList ⟨#[]⟩)) = true ↔ u.size ≠ 0 := by
  have := q0t u ⟨#[]⟩
  have e : (u.toList == ByteArray.toList ⟨#[]⟩) = eqS u ⟨#[]⟩ := rfl
  rw [e]
  constructor
  · intro h h0
    have hu : u = ⟨#[]⟩ := by
     cases u with
     | mk d => have : d.size = 0 := h0; rw [z58 this]
    rw [this.2 hu] at h; cases h
  · intro h
    cases he : eqS u ⟨#[]⟩ with
    | false => rfl
    | true => exact absurd (by rw [this.1 he]; rfl) h
 rw [h1]
 constructor
 · rintro ⟨a, b⟩; exact ⟨a, by omega⟩
 · rintro ⟨a, b⟩; exact ⟨a, by omega⟩
theorem qn3 : q2q annU = true := (qmu annU).2 ⟨by decide, by decide⟩
theorem badW : badO opW = false := by simp [badO, opW, qn3]
theorem badS : badO opS = false := by simp [badO, opS, qn3]
theorem badP : badO opP = false := by simp [badO, opP]
def kA : Nat := stN 3 annU
theorem kA_lt : kA < 3 := (qat (n := 3) (by decide) (by decide) annU).1
def q4q : Md := (q1z sm).watchF kA 1 annU
theorem awake1 : doM 3 (q1z sm) 1 opW = q4q := by
 have hf : qbm 3 (q1z sm) 1 annU = false := by
  unfold qbm
  have h1 : q4s (q1z sm) 1 3 = 0 := by rfl
  rw [h1]
  simp [q1z, sm]
 have hi : inB 1 0 7 = true := by decide
 unfold doM
 rw [badW, hi]
 simp only [opW, hf]
 rfl
def annC : Chg := ⟨annU, ⟨0, 0, 0⟩, ⟨2, 0, 1⟩⟩
theorem annB : q32 [] opS 0 2 = [annC] := by rfl
def qcz : Md := (q4q.take.setB kA (q2a [] opS 0 2)).tell kA [annC] 1
theorem awake2 : doM 3 q4q 0 opS = qcz := by
 have hi : inB 0 0 7 = true := by decide
 unfold doM
 rw [badS, hi]
 have : q4q.write 3 opS = qcz := by
  unfold Md.write
  have h1 : q4q.t.cl = false := rfl
  rw [h1, if_neg (by decide)]
  have h2 : addW q4q.t.seq 1 = 1 := by decide
  rw [h2]
  show (q4q.take.setB kA (q2a [] opS 0 2)).tell kA (q32 [] opS 0 2) 1 = _
  rw [annB]; rfl
 simp only [opS] at this ⊢
 rw [this]; rfl
def annE : Ev := ⟨annU, ⟨0, 0, 0⟩, ⟨2, 0, 1⟩, 1⟩
theorem annQ (j : Nat) : ((qcz.f j).q 1) = if j = kA then ([annE], false) else ([], false) := by
 unfold qcz Md.tell Md.setF
 simp only
 by_cases h : j = kA
 · rw [if_pos h, if_pos h]
   have hw : watF ((q4q.take.setB kA (q2a [] opS 0 2)).f kA).m 1 annC.u = true := by
    show watF (q40 [] 1 annU) 1 annU = true
    have h2 : ((q4q.take.setB kA (q2a [] opS 0 2)).f kA).m = q40 [] 1 annU := by
     simp [q4q, Md.take, Md.setB, Md.watchF, Md.setF, q1z, q3z]
    rw [qgb qha]
    simp [cli]
   rw [tell_one, tell1_qy (by decide) (by
    have h2 : ((q4q.take.setB kA (q2a [] opS 0 2)).f kA).m = q40 [] 1 annU := by
     simp [q4q, Md.take, Md.setB, Md.watchF, Md.setF, q1z, q3z]
    rw [h2, Int.natCast_one]
    show watF (q40 [] 1 annU) 1 annU = true
    rw [qgb qha]
    simp [cli])]
   have hq : ((q4q.take.setB kA (q2a [] opS 0 2)).f kA).q 1 = ([], false) := by
    simp [q4q, Md.take, Md.setB, Md.watchF, Md.setF, q1z, q3z]
   have hr : ((q4q.take.setB kA (q2a [] opS 0 2)).f kA).room = 16 := by
    simp [q4q, Md.take, Md.setB, Md.watchF, Md.setF, q1z, q3z, sm]
    decide
   rw [hq, hr]
   rfl
 · rw [if_neg h, if_neg h]
   simp [q4q, Md.take, Md.setB, Md.watchF, Md.setF, q1z, q3z, h]
theorem awake3 : doR 3 qcz 1 opP = ⟨0, none, some [annE], false⟩ := by
 have hi : inB 1 0 7 = true := by decide
 unfold doR
 rw [badP, hi]
 have h1 : q3m qcz 1 3 = (List.range 3).map fun j => if j = kA then [annE] else [] := by
  unfold q3m
  apply z2p
  intro j _
  rw [show (1 : Int).toNat = 1 from rfl, annQ]
  split <;> rfl
 have h2 : q98 qcz 1 3 = false := by
  unfold q98
  rw [z4r]
  intro j _
  rw [show (1 : Int).toNat = 1 from rfl, annQ]
  split <;> simp
 have h3 : q3q (q3m qcz 1 3) = [annE] := by
  rw [h1]
  have hk := kA_lt
  generalize kA = k at *
  rcases (show k = 0 ∨ k = 1 ∨ k = 2 by omega) with rfl | rfl | rfl <;> rfl
 rw [h2, h3]
 rfl
structure WOk (n B : Nat) (M : Md) : Prop where
 ok : MOk n B M
 room : ∀ j, (M.f j).room ≤ 100
 msk : ∀ j, q3c (M.f j).m
theorem tell_q {F : Fd} (hq : ∀ k, (F.q k).1.length ≤ 100) (hr : F.room ≤ 100) (seq : Int) : ∀ (l : List Chg) k, ((q6e F l seq).q k).1.length ≤ 100 := by
 intro l
 induction l generalizing F with
 | nil => exact hq
 | cons c l ih =>
  refine ih (F := tell1 F c seq 8) (fun k => ?_) hr
  unfold tell1
  simp only
  split
  · unfold putR
    split
    · exact hq k
    · rename_i h
      simp only [z0c, z20]
      omega
  · exact hq k
theorem WOk.mono {n B B' : Nat} {M : Md} (h : WOk n B M) (hB : B ≤ B') (h9 : B' ≤ 900) : WOk n B' M :=
 ⟨⟨h.ok.n1, h.ok.n8, h.ok.s, fun j => (h.ok.b j).mono hB, h.ok.m, fun j => z1f (h.ok.ml j) hB, h.ok.q, h9⟩, h.room, h.msk⟩
theorem qkv {n B : Nat} {M : Md} (h : WOk n B M) (t : Tm) : WOk n B { M with t := t } := ⟨⟨h.ok.n1, h.ok.n8, h.ok.s, h.ok.b, h.ok.m, h.ok.ml, h.ok.q, h.ok.B⟩, h.room, h.msk⟩
theorem qog {n B : Nat} {M : Md} (h : WOk n B M) (s : Nat) {b : Bk} (hb : q24 B b) : WOk n B (M.setB s b) :=
 ⟨⟨h.ok.n1, h.ok.n8, h.ok.s, fun j => by
  simp only [Md.setB]
  split
  · exact hb
  · exact h.ok.b j, h.ok.m, h.ok.ml, h.ok.q, h.ok.B⟩, h.room, h.msk⟩
theorem qjd {n B : Nat} {M : Md} (h : WOk n B M) (s : Nat) {F : Fd} (hm : q3c F.m) (hl : F.m.length ≤ B) (hq : ∀ k, (F.q k).1.length ≤ 100) (hr : F.room ≤ 100) : WOk n B (M.setF s F) :=
 ⟨⟨h.ok.n1, h.ok.n8, h.ok.s, h.ok.b, fun j => by
  simp only [Md.setF]
  split
  · exact hm.1
  · exact h.ok.m j, fun j => by
  simp only [Md.setF]
  split
  · exact hl
  · exact h.ok.ml j, fun j => by
  simp only [Md.setF]
  split
  · exact hq
  · exact h.ok.q j, h.ok.B⟩, fun j => by
  simp only [Md.setF]
  split
  · exact hr
  · exact h.room j, fun j => by
  simp only [Md.setF]
  split
  · exact hm
  · exact h.msk j⟩
theorem qp9 {n B : Nat} {M : Md} (h : WOk n B M) (s : Nat) (l : List Chg) (seq : Int) : WOk n B (M.tell s l seq) := by
 obtain ⟨h1, h2, _⟩ := qov (M.f s) l seq
 exact qjd h s (by rw [h1]; exact h.msk s) (by rw [h1]; exact h.ok.ml s) (tell_q (h.ok.q s) (h.room s) seq l) (by rw [h2]; exact h.room s)
theorem qmt {c : Cf} {n : Nat} (hn : c.s = n) (h1 : 1 ≤ n) (h8 : n ≤ 8) (hq : c.q ≤ 100) : WOk n 0 (q1z c) :=
 ⟨⟨h1, h8, hn, fun j => ⟨List.Pairwise.nil, z09 _, fun p hp => by cases hp⟩, fun j => qha.1, fun j => z09 _, fun j k => z00 _, by omega⟩, fun j => by show max c.q 0 ≤ 100; omega, fun j => qha⟩
theorem qxm {n B : Nat} {M : Md} (h : WOk n B M) (s : Int) : WOk n B (M.sweep n s) := by
 unfold Md.sweep
 split
 · exact h
 · exact qp9 (qog (qkv h _) _ (qf2 (h.ok.b _) _)) _ _ _
theorem wok_tick {n B : Nat} {M : Md} (h : WOk n B M) (by_ : Int) : WOk n B (M.tick by_) := qkv h _
theorem qql {n B : Nat} {M : Md} (h : WOk n B M) (hB : B + 1 ≤ 900) (who : Int) (o : Opb) : WOk n (B + 1) (doM n M who o) := by
 have hm := h.mono (z3e B) hB
 unfold doM
 split
 · exact hm
 split
 · unfold Md.write
   split
   · exact qkv hm _
   · exact qp9 (qog (qkv hm _) _ (qf7 (h.ok.b _) o _ _)) _ _ _
 split
 · refine ⟨?_, fun j => ?_, fun j => ?_⟩
   · have := ql9 h.ok who n
     exact ⟨this.n1, this.n8, this.s, fun j => (this.b j).mono (z3e _), this.m, fun j => z2q (this.ml j), this.q, hB⟩
   · simp only [Md.drains]
     split
     · unfold Fd.drain; split <;> exact h.room j
     · exact h.room j
   · simp only [Md.drains]
     split
     · unfold Fd.drain; split <;> exact h.msk j
     · exact h.msk j
 split
 · exact hm
 split
 · split
   · exact hm
   · exact qjd hm _ (watch_ok (h.msk _) who o.u) (by have := qwt (M.f (stN n o.u)).m who o.u; have := h.ok.ml (stN n o.u); simp only; omega) (h.ok.q _) (h.room _)
 split
 · exact qjd hm _ (qu0 (h.msk _) who o.u) (by have := qs4 (M.f (stN n o.u)).m who o.u; have := h.ok.ml (stN n o.u); simp only; omega) (h.ok.q _) (h.room _)
 split
 · exact qkv hm _
 · exact hm
def opNil (o : Opb) : AV := .agg [i64 o.kind, str o.u, i64 o.id, i64 o.st, i64 o.pr, u64 o.ttl, .v (.slice none 0 0)]
theorem Do_in {n pad B : Nat} {M : Md} (h : WOk n B M) (hB : B + 1 ≤ 900) (who : Int) (o : Opb) (ho : OpOk o) (r : List AB) (hr : r.all (AB.calm n) = true) : q0r P (kpX n) 19 (modM n pad M ++ r) [.ptr 0 0, i64 who, o.av]
 (fun x m' => x = (doR n M who o).av ∧ m' = modM n pad (doM n M who o) ++ r) :=
 qa0 (qqc h.ok hB who o ho) (by rfl) hr (by rintro x m' ⟨rfl, rfl⟩; exact ⟨by
  generalize doR n M who o = R
  cases R with
  | mk e v ev l => cases v <;> cases ev <;> rfl, _, rfl, rfl, rfl⟩)
theorem qr9 {n pad B : Nat} {M : Md} (h : WOk n B M) (hB : B + 1 ≤ 900) (who : Int) (o : Opb) (ho : OpOk o) (hu : o.us = []) (r : List AB) (hr : r.all (AB.calm n) = true) : q0r P (kpX n) 19 (modM n pad M ++ r) [.ptr 0 0, i64 who, opNil o]
 (fun x m' => x = (doR n M who o).av ∧ m' = modM n pad (doM n M who o) ++ r) := by
 refine qa0 (K0 := fun x m' => x = (doR n M who o).av ∧ m' = modM n pad (doM n M who o)) ?_ (by rfl) hr (by rintro x m' ⟨rfl, rfl⟩; exact ⟨by
  generalize doR n M who o = R
  cases R with
  | mk e v ev l => cases v <;> cases ev <;> rfl, _, rfl, rfl, rfl⟩)
 refine q0j.turn (q0c.weak (s := ⟨[.ptr 0 0, i64 who, opNil o], modM n pad M⟩) (s' := ⟨[.ptr 0 0, i64 who, o.av], modM n pad M⟩) ⟨_, _, rfl, q0g _, _, _, rfl, q0g _, _, _, rfl, ?_, rfl⟩ (qbj _)) (qqc h.ok hB who o ho)
 unfold Opb.av
 rw [hu]
 exact .inr ⟨_, rfl, _, _, rfl, q0g _, _, _, rfl, q0g _, _, _, rfl, q0g _, _, _, rfl, q0g _, _, _, rfl, q0g _, _, _, rfl, q0g _, _, _, rfl, q1j 1, rfl⟩
theorem annV : evts [annE] = [.agg [.v (.string ⟨#[97, 110, 110]⟩), i64 0, i64 0, i64 0, i64 2, i64 0, i64 1, u64 1]] := rfl
theorem qh6 : q08 P 11 [] (fun x => x = bool true) := by
 refine q09 tyOk Tryz.func11 rfl rfl fun K hK => ?_
 simp only [seval, go_sem, Tryz.ntmps11]
 (refine q00 qys rfl ?_; rintro _ rfl)
 simp only [seval, go_sem]
 have h0 : WOk 3 0 (q1z sm) := qmt rfl (by decide) (by decide) (by decide)
 refine q17 ((qmr sm 3 rfl (by decide) (by decide) (by rfl)).mono ?_)
 rintro _ _ ⟨rfl, pad, rfl⟩
 simp only [seval, go_sem]
 rw [← z0i (modM 3 pad (q1z sm))]
 refine q3k (kp := kpX 3) (fun b hb => absurd hb (z28 b)) ((qr9 h0 (by decide) 1 opW (by constructor <;> first | decide | simp [opW]) rfl [] rfl).mono ?_)
 rintro _ _ ⟨rfl, rfl⟩
 have h1 := qql h0 (by decide) 1 opW
 rw [awake1] at h1 ⊢
 simp only [seval, go_sem]
 refine q3k (kp := kpX 3) (fun b hb => absurd hb (z28 b)) ((qr9 h1 (by decide) 0 opS (by constructor <;> first | decide | simp [opS]) rfl [] rfl).mono ?_)
 rintro _ _ ⟨rfl, rfl⟩
 have h2 := qql h1 (by decide) 0 opS
 rw [awake2] at h2 ⊢
 simp only [seval, go_sem]
 refine q3k (kp := kpX 3) (fun b hb => absurd hb (z28 b)) ((qr9 h2 (by decide) 1 opP (by constructor <;> first | decide | simp [opP]) rfl [] rfl).mono ?_)
 rintro _ _ ⟨rfl, rfl⟩
 rw [awake3, z0i]
 simp only [seval, go_sem, Rp.av, slO, Option.map, annV, Int.natCast_one, Int.toNat_zero, z50]
 apply hK
 simp only [seval, go_sem, Tryz.results11]
