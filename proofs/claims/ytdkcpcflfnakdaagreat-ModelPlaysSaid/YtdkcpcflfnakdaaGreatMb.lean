/- A text of the walk that proves a law of this seat; joined by a program. -/
import Derived.Test.YtdkcpcflfnakdaaGreatMa
import Derived.Test.YtdkcpcflfnakdaaGreatSymZf
set_option linter.unusedSimpArgs false
set_option linter.unusedVariables false
namespace Go.Proofs.YtdkcpcflfnakdaaGreat
open Go Go.Proofs.YtdkcpcflfnakdaaGreat.Sym
set_option maxRecDepth 100000
set_option maxHeartbeats 1000000
theorem qkc (now : Int) (s : Ses) (row : List AV) : ACall P 116 [.box [u64 now], .row 151 4 row] [s.av, .ptr 0 0] (fun x m' => x = bool (decide (s.un ≤ now)) ∧ m' = [.box [u64 now], .row 151 4 row]) := by
 refine q1a tyOk Tryz.func116 rfl rfl fun K hK => ?_
 simp only [seval, go_sem, Tryz.ntmps116, Ses.av]
 (refine q00 (qnj now s.un) rfl ?_; rintro _ rfl)
 simp only [seval, go_sem]
 apply hK
 simp only [seval, go_sem, Tryz.results116]
theorem qu7 (now : Int) (l : List Ses) (hlen : l.length ≤ 1000000) : ACall P 132 [.box [u64 now], .row 151 4 (avs l)] [.own 1 4 0 l.length, .fn 116 [.ptr 0 0]]
 (fun x m' => (∃ i : Int, x = i64 i ∧ ((i = -1 ∧ lives now l = l) ∨ ∃ d : Nat, i = d ∧ ∃ h : d < l.length, (l[d]).lives now = false ∧ lives now (l.take d) = l.take d)) ∧ m' = [.box [u64 now], .row 151 4 (avs l)]) := by
 refine q1a tyOk Tryz.func132 rfl rfl fun K hK => ?_
 simp only [seval, go_sem, Tryz.ntmps132]
 refine q0d tyOk (α := Nat) 2 [0, 1, 7, 8] (fun i => i ≤ l.length ∧ lives now (l.take i) = l.take i)
  (fun i => ⟨[.own 1 4 0 l.length, .fn 116 [.ptr 0 0], .any, .any, .any, .any, .any, i64 l.length, i64 i, .any, .any, .any, .any, .any, .any, .any, .any, .any, .any], [.box [u64 now], .row 151 4 (avs l)]⟩)
  (fun i => l.length - i) 0 (by first | exact z00 _ | decide) ⟨z00 _, rfl⟩ rfl ?_
 rintro i ⟨hi, hl⟩
 simp only [seval, go_sem]
 refine q02 ?_ ?_ <;> intro h
 · obtain ⟨hlt, eg, ew, c1⟩ := q8s (by omega) h
   simp only [seval, go_sem, eg, c1, q07]
   (refine q7e (qkc now l[i] (avs l)) [0, 1] (by decide) rfl rfl rfl rfl ?_; rintro _ _ ⟨rfl, rfl⟩; refine ⟨rfl, ?_⟩)
   simp only [seval, go_sem]
   refine q02 ?_ ?_ <;> intro h2
   · have hd : (l[i]).lives now = false := by
      have : l[i].un ≤ now := by simpa using h2
      simp only [Ses.lives, z4n, decide_eq_true_eq]; exact this
     simp only [seval, go_sem]
     apply hK
     simp only [seval, go_sem, Tryz.results132]
     all_goals exact ⟨(i : Int), rfl, .inr ⟨i, rfl, hlt, hd, hl⟩⟩
   · have hd : (l[i]).lives now = true := by
      have : ¬ l[i].un ≤ now := by simpa using h2
      simp only [Ses.lives, z2l, decide_eq_false_iff_not]; exact this
     simp only [seval, go_sem, ew]
     simp only [seval, go_sem, q01]
     all_goals exact ⟨i + 1, ⟨hlt, by rw [q7u hlt hd, hl, ← q12 hlt]⟩, by omega, rfl⟩
 · obtain rfl := q5z hi h
   rw [z0w] at hl
   simp only [seval, go_sem]
   apply hK
   simp only [seval, go_sem, Tryz.results132]
   all_goals exact ⟨-1, rfl, .inl ⟨rfl, hl⟩⟩
theorem set_mid {α : Type} {a g b : List α} {x y : α} : (a ++ (x :: g) ++ b).set a.length y = a ++ (y :: g) ++ b := by
 induction a with
 | nil => rfl
 | cons z a ih => simp
theorem qma (l : List Ses) (i : Nat) (s : Ses) : (avs l).set i s.av = avs (l.set i s) := by rw [avs, avs, z4b]
abbrev zses : AV := .agg [i64 0, i64 0, i64 0, u64 0]
theorem qs2 (now : Int) (l : List Ses) (hlen : l.length ≤ 1000000) : ACall P 114 [.box [u64 now], .row 151 4 (avs l)] [.own 1 4 0 l.length, .fn 116 [.ptr 0 0]]
 (fun x m' => x = .own 1 4 0 (lives now l).length ∧ ∃ g, m' = [.box [u64 now], .row 151 4 (avs (lives now l) ++ g)]) := by
 refine q1a tyOk Tryz.func114 rfl rfl fun K hK => ?_
 simp only [seval, go_sem, Tryz.ntmps114]
 refine q44 ?_
 simp only [seval, go_sem]
 refine q7e (qu7 now l hlen) [0, 1] (by decide) rfl rfl rfl rfl ?_
 rintro _ _ ⟨⟨i, rfl, hi⟩, rfl⟩
 refine ⟨rfl, ?_⟩
 simp only [seval, go_sem]
 rcases hi with ⟨rfl, hl⟩ | ⟨d, rfl, hd, hdead, hl⟩
 · simp only [seval, go_sem]
   apply hK
   simp only [seval, go_sem, Tryz.results114]
   rw [hl]
   exact ⟨rfl, [], by rw [z0i]⟩
 · have e0 : ((d : Int) == -1) = false := by rw [beq_eq_false_iff_ne]; omega
   have ew0 : IntKind.i64.wrap ((d : Int) + 1) = ((d + 1 : Nat) : Int) := by rw [wrap_i64 (by omega) (by omega)]; rfl
   have hl1 : lives now (l.take (d + 1)) = l.take d := by rw [q6g hd hdead, hl]
   have hdl : (l.take d).length = d := by rw [z1l]; omega
   simp only [seval, go_sem, e0, ew0]
   refine q0d tyOk (α := Nat × List Ses) 2 [0, 1, 5, 6] (fun p => p.1 ≤ l.length ∧ 0 < p.2.length ∧ (lives now (l.take p.1)).length + p.2.length = p.1)
    (fun p => ⟨[.own 1 4 0 l.length, .fn 116 [.ptr 0 0], .any, .any, .any, i64 (lives now (l.take p.1)).length, i64 p.1, .any, .any, .any, .any, .any, .any, .any, .any, .any, .any, .any, .any, .any, .any, .any, .any, .any, .any, .any, .any, .any, .any, .any, .any, .any, .any, .any, .any, .any, .any, .any, .any, .any, .any, .any], [.box [u64 now], .row 151 4 (avs (lives now (l.take p.1) ++ p.2 ++ l.drop p.1))]⟩)
    (fun p => l.length - p.1) (d + 1, [l[d]]) (by first | exact z00 _ | decide) ⟨hd, by simp, by simp only [z20]; rw [hl1, hdl]⟩ ?_ ?_
   · have e1 : l.take d ++ [l[d]] ++ l.drop (d + 1) = l := by
      rw [← q12 hd, z1o]
     simp only [hl1, hdl, e1]
     rfl
   rintro ⟨j, g⟩ ⟨hj, hg, hjg⟩
   simp only at hj hg hjg
   obtain ⟨A, hA⟩ : ∃ A, lives now (l.take j) = A := ⟨_, rfl⟩
   rw [hA] at hjg
   simp only [hA]
   obtain ⟨R, hR⟩ : ∃ R, A ++ g ++ l.drop j = R := ⟨_, rfl⟩
   have eR : R.length = l.length := by rw [← hR]; simp; omega
   simp only [seval, go_sem]
   refine q02 ?_ ?_ <;> intro h
   · obtain ⟨hlt, eg, ew, c1⟩ := q8s (by omega) h
     have hdr : l.drop j = l[j] :: l.drop (j + 1) := z2i hlt
     have hRj : R[j]'(by omega) = l[j] := by
      simp only [← hR]
      rw [z5m (by simp; omega)]
      simp only [hdr]
      have : j - (A ++ g).length = 0 := by simp; omega
      simp only [this, z4s]
     have eg2 := q6y (l := R) (i := j) (by omega)
     rw [hRj] at eg2
     have eg3 := q6y (l := R) (i := A.length) (by omega)
     have c3 : (0 : Int) ≤ ((A.length : Nat) : Int) ∧ Int.toNat ((A.length : Nat) : Int) < l.length := by omega
     have ew2 : IntKind.i64.wrap ((A.length : Int) + 1) = ((A.length + 1 : Nat) : Int) := by rw [wrap_i64 (by omega) (by omega)]; rfl
     rw [hR]
     simp only [seval, go_sem, eg2, c1, q07, eR, Ses.av]
     (refine q7e (qkc now l[j] (avs R)) [0, 1] (by decide) rfl rfl rfl rfl ?_; rintro _ _ ⟨rfl, rfl⟩; refine ⟨rfl, ?_⟩)
     simp only [seval, go_sem]
     cases hdv : (l[j]).lives now with
     | true =>
      have d1 : decide (l[j].un ≤ now) = false := by
       simp only [Ses.lives, z2l] at hdv; exact hdv
      have hA2 : lives now (l.take (j + 1)) = A ++ [l[j]] := by rw [q7u hlt hdv, hA]
      simp only [seval, go_sem, d1, c3, eR, ew2, ew, eg3, q07, Ses.av]
      simp only [seval, go_sem, q01]
      obtain ⟨x, g', rfl⟩ : ∃ x g', g = x :: g' := by
       cases g with
       | nil => simp at hg
       | cons x g' => exact ⟨x, g', rfl⟩
      refine ⟨(j + 1, g' ++ [l[j]]), ⟨hlt, by simp, by simp only [hA2, z0c, z02, z0a] at hjg ⊢; omega⟩, by simp only; omega, ?_⟩
      simp only [hA2, z0g]
      have e5 : (avs R).set A.length (.agg [i64 l[j].id, i64 l[j].st, i64 l[j].pr, u64 l[j].un]) = avs (A ++ [l[j]] ++ (g' ++ [l[j]]) ++ l.drop (j + 1)) := by
       have := qma R A.length l[j]
       rw [← hR, set_mid, hdr] at this
       rw [← hR, hdr]
       refine this.trans ?_
       simp
      rw [e5, z0c]
      rfl
     | false =>
      have d1 : decide (l[j].un ≤ now) = true := by
       simp only [Ses.lives, z4n] at hdv; exact hdv
      have hA2 : lives now (l.take (j + 1)) = A := by rw [q6g hlt hdv, hA]
      simp only [seval, go_sem, d1, ew]
      simp only [seval, go_sem, q01]
      refine ⟨(j + 1, g ++ [l[j]]), ⟨hlt, by simp, by simp only [hA2, z0c, z20]; omega⟩, by simp only; omega, ?_⟩
      simp only [hA2]
      have e5 : R = A ++ (g ++ [l[j]]) ++ l.drop (j + 1) := by rw [← hR, hdr]; simp
      rw [e5]
   · obtain rfl := q5z hj h
     rw [hR]
     rw [z0w] at hA
     have c3 : (0 : Int) ≤ ((A.length : Nat) : Int) ∧ Int.toNat ((A.length : Nat) : Int) ≤ l.length := by omega
     have hne : ¬ Int.toNat ((A.length : Nat) : Int) = l.length := by omega
     simp only [seval, go_sem, c3, eR, hne, q07]
     refine ⟨by omega, ?_⟩
     have e6 : (avs R).take (Int.toNat ((A.length : Nat) : Int)) = avs (lives now l) := by
      rw [z0g, ← hR, hA, avs, ← z38, z1r, z0x (z09 _), z0w, avs]
     rw [e6]
     apply hK
     simp only [seval, go_sem, Tryz.results114]
     all_goals exact ⟨by rw [hA, z0g], _, by rw [z1r]⟩
theorem qku (l : List Ses) (now : Int) (hlen : l.length ≤ 1000000) : q08 P 92 [.sl 4 (avs l), u64 now] (fun x => x = .sl 4 (avs (lives now l))) := by
 refine q09 tyOk Tryz.func92 rfl rfl fun K hK => ?_
 simp only [seval, go_sem, Tryz.ntmps92]
 refine qct rfl (by first | exact z00 _ | decide | simp) (q6k.new (qcu _ (by rw [q07]; exact hlen)) rfl (by first | decide | simp)) ?_
 simp only [seval, go_sem, q07]
 refine q44 ?_
 simp only [seval, go_sem]
 refine q7e (qs2 now l hlen) [0, 1] (by decide) rfl rfl rfl rfl ?_
 rintro _ _ ⟨rfl, g, rfl⟩
 refine ⟨rfl, ?_⟩
 simp only [seval, go_sem]
 apply hK
 simp only [seval, go_sem, Tryz.results92]
 rw [if_pos (by simp [q07]), z0x (by rw [q07]; exact z09 _), z07 (by rw [q07]; exact z09 _)]
theorem qcv {l : List Ses} (hr : Up l) {id : Int} (h : has l id = true) : lb ltI (ids l) id < l.length := by
 apply z2k
 intro hc
 rw [← qc2 hr, q88 (by rw [q78]; omega)] at h
 cases h
theorem at_id {l : List Ses} (hr : Up l) {id : Int} (h : has l id = true) : (l[lb ltI (ids l) id]'(qcv hr h)).id = id := by
 have h1 := h
 rw [← qc2 hr, q6r (by rw [q78]; exact qcv hr h)] at h1
 exact (qmm (qcv hr h)).symm.trans ((qhd _ _).1 h1)
theorem set_has {l : List Ses} (hr : Up l) {s : Ses} (most : Int) (h : has l s.id = true) : setF l s most = (l.set (lb ltI (ids l) s.id) s, 0) := by
 have hput := qr0 hr s
 rw [if_pos h] at hput
 rw [setF, if_neg (by rw [h]; simp), qqn hr, ← hput]
theorem set_full {l : List Ses} {s : Ses} {most : Int} (h : has l s.id = false) (h2 : decide (most ≤ l.length) = true) : setF l s most = (l, 2) := by
 rw [setF, if_pos (by rw [h, h2]; rfl)]
theorem set_new {l : List Ses} (hr : Up l) {s : Ses} {most : Int} (h : has l s.id = false) (h2 : decide (most ≤ l.length) = false) : setF l s most = (l.take (lb ltI (ids l) s.id) ++ [s] ++ l.drop (lb ltI (ids l) s.id), 0) := by
 have hput := qr0 hr s
 rw [if_neg (by rw [h]; decide)] at hput
 rw [setF, if_neg (by rw [h, h2]; simp), qqn hr, ← hput]
theorem clear_at {l : List Ses} (hr : Up l) (id : Int) : (if has l id = true then l.take (lb ltI (ids l) id) ++ l.drop (lb ltI (ids l) id + 1) else l) = clear l id := by
 have h := congrArg (List.map Prod.snd) (q5r ordI qhd (m := q55 l) (by rw [q3p, qde]; exact hr) id)
 have f1 : ((q55 l).filter (fun p => !eqI p.1 id)).map Prod.snd = clear l id := by
  rw [q55, z41, z3f]
  exact z5d _
 rw [f1] at h
 unfold q1l at h
 rw [qde, qc2 hr] at h
 refine Eq.trans ?_ h
 split
 · rw [z12, z38, z3n, qdf]
 · rw [qdf]
theorem sess_Set (l : List Ses) (s : Ses) (most : Int) (hr : Up l) (hlen : l.length ≤ 900000) :
 q08 P 95 [.sl 4 (avs l), s.av, i64 most] (fun x => x = .tup [.sl 4 (avs (setF l s most).1), i64 (setF l s most).2]) := by
 refine q09 tyOk Tryz.func95 rfl rfl fun K hK => ?_
 simp only [seval, go_sem, Tryz.ntmps95, Ses.av]
 refine qct rfl (by first | exact z00 _ | decide | simp) (q6k.new (qcu _ (by rw [q07]; omega)) rfl (by first | decide | simp)) ?_
 simp only [seval, go_sem, q07]
 refine q44 ?_
 simp only [seval, go_sem]
 refine qer (qj4 l hr s.id (by omega)) ?_ rfl ?_
 · simp only [q06]
   rw [qes (xs := avs l) rfl (q07 l)]
   rfl
 rw [qc2 hr]
 simp only [seval, go_sem]
 refine q02 ?_ ?_ <;> intro h
 · have hlt := qcv hr h
   have eg := q6y hlt
   have c1 : (0 : Int) ≤ ((lb ltI (ids l) s.id : Nat) : Int) ∧ Int.toNat ((lb ltI (ids l) s.id : Nat) : Int) < l.length := by omega
   rw [set_has hr most h] at hK
   simp only [seval, go_sem, eg, c1, q07, Ses.av]
   apply hK
   simp only [Tryz.results95, retK, ares, z0t, z0z, AV.ofResults, St.trunc, q06, q0e, z0u, z0v, z13, z17, z0o, z01, z03, Nat.reduceLeDiff, true_and, and_true, ↓reduceIte, z0h, exists_eq_left']
   have e1 := qma l (lb ltI (ids l) s.id) s
   simp only [Ses.av] at e1
   rw [z0g, e1, q1b (by rw [q07, z56])]
 · have h : has l s.id = false := h
   simp only [seval, go_sem]
   refine q02 ?_ ?_ <;> intro h2
   · rw [set_full h h2] at hK
     simp only [seval, go_sem]
     apply hK
     simp only [Tryz.results95, retK, ares, z0t, z0z, AV.ofResults, St.trunc, q06, q0e, z0u, z0v, z13, z17, z0o, z01, z03, Nat.reduceLeDiff, true_and, and_true, ↓reduceIte, z0h, exists_eq_left']
     rw [q1b (q07 l)]
   · have h2 : decide (most ≤ l.length) = false := h2
     rw [set_new hr h h2] at hK
     have hins := qty (avs l) s.av (lb ltI (ids l) s.id) (by rw [q07]; have := qcw (lt := ltI) (ids l) s.id; rwa [q78] at this) (by rw [q07]; omega)
     rw [q07] at hins
     have hle : lb ltI (ids l) s.id ≤ l.length := by have := qcw (lt := ltI) (ids l) s.id; rwa [q78] at this
     simp only [seval, go_sem]
     refine qus [2] rfl ?_
     simp only [seval, go_sem]
     refine callG_R (b := 1) (by decide) (q0r.toR hins rfl rfl rfl rfl rfl) ?_
     simp only [seval, go_sem]
     apply hK
     simp only [Tryz.results95, retK, ares, z0t, z0z, AV.ofResults, St.trunc, q06, q0e, z0u, z0v, z13, z17, z0o, z01, z03, Nat.reduceLeDiff, true_and, and_true, ↓reduceIte, z0h, exists_eq_left']
     rw [q1b (by simp [q07]; omega)]
     simp only [avs, z12, z38, z3n, z0r, z0o]
theorem qu8 (l : List Ses) (id : Int) (hr : Up l) (hlen : l.length ≤ 900000) :
 q08 P 97 [.sl 4 (avs l), i64 id] (fun x => x = .tup [.sl 4 (avs (clear l id)), i64 (if has l id = true then 0 else 3)]) := by
 refine q09 tyOk Tryz.func97 rfl rfl fun K hK => ?_
 simp only [seval, go_sem, Tryz.ntmps97]
 refine qct rfl (by first | exact z00 _ | decide | simp) (q6k.new (qcu _ (by rw [q07]; omega)) rfl (by first | decide | simp)) ?_
 simp only [seval, go_sem, q07]
 refine q44 ?_
 simp only [seval, go_sem]
 refine qer (qj4 l hr id (by omega)) ?_ rfl ?_
 · simp only [q06]
   rw [qes (xs := avs l) rfl (q07 l)]
   rfl
 rw [qc2 hr]
 have hc := clear_at hr id
 simp only [seval, go_sem]
 cases h : has l id
 · rw [h, if_neg (by decide)] at hc
   rw [h, ← hc] at hK
   simp only [seval, go_sem]
   apply hK
   simp only [Tryz.results97, retK, ares, z0t, z0z, AV.ofResults, St.trunc, q06, q0e, z0u, z0v, z13, z17, z0o, z01, z09, true_and, and_true, ↓reduceIte, z0n, z0h, exists_eq_left']
   rw [q1b (q07 l)]
 · have hlt := qcv hr h
   have ew : IntKind.i64.wrap (((lb ltI (ids l) id : Nat) : Int) + 1) = ((lb ltI (ids l) id + 1 : Nat) : Int) := by rw [wrap_i64 (by omega) (by omega)]; rfl
   rw [h, if_pos (by rfl)] at hc
   rw [h, ← hc] at hK
   simp only [seval, go_sem, ew]
   refine q44 ?_
   simp only [seval, go_sem]
   have hdel := qu9 (avs l) (lb ltI (ids l) id) (by rw [q07]; exact hlt) (by rw [q07]; omega)
   rw [q07] at hdel
   (refine q7e hdel [0] (by decide) rfl rfl rfl rfl ?_; rintro _ _ ⟨rfl, rfl⟩; refine ⟨rfl, ?_⟩)
   simp only [seval, go_sem]
   apply hK
   simp only [Tryz.results97, retK, ares, z0t, z0z, AV.ofResults, St.trunc, q06, q0e, z0u, z0v, z13, z17, z0o, z01, z09, true_and, and_true, ↓reduceIte, z0h, exists_eq_left']
   have e := qc3 (sz := 4) (f := zses) (xs := avs l) (i := lb ltI (ids l) id) (by rw [q07]; exact hlt)
   rw [q07] at e
   rw [e]
   simp only [avs, z12, z38, z3n]
def bmpS (id until_ : Int) (s : Ses) : Ses := if (s.id == id && decide (s.un < until_)) = true then { s with un := until_ } else s
def q7v (l : List Ses) (id until_ : Int) : List Ses × Int := if has l id = true then (l.map (bmpS id until_), 0) else (l, 3)
theorem bmpS_ne {s : Ses} {id u : Int} (h : s.id ≠ id) : bmpS id u s = s := by
 unfold bmpS; rw [if_neg (by simp [h])]
theorem bmpS_at2 {l : List Ses} (hr : Up l) {id : Int} (u : Int) {i : Nat} (hlt : i < l.length) (hid : l[i].id = id) : l.set i (bmpS id u l[i]) = l.map (bmpS id u) := by
 apply z4g (by simp)
 intro j h1 h2
 rw [List.getElem_map, List.getElem_set]
 split
 · rename_i e; subst e; rfl
 · rename_i hne
   have hj : j < l.length := by simpa using h2
   have hne2 : l[j].id ≠ id := by
    have hp := z2x.1 (q8o.1 hr)
    rcases z5e hne with h3 | h3
    · have := hp i j hlt hj h3; omega
    · have := hp j i hj hlt h3; omega
   exact (bmpS_ne hne2).symm
theorem bmpS_at {l : List Ses} (hr : Up l) {id : Int} (u : Int) (h : has l id = true) : l.set (lb ltI (ids l) id) (bmpS id u (l[lb ltI (ids l) id]'(qcv hr h))) = l.map (bmpS id u) :=
 bmpS_at2 hr u (qcv hr h) (at_id hr h)
theorem bmpS_av {s : Ses} {id u : Int} (h : s.id = id) : AV.agg [i64 s.id, i64 s.st, i64 s.pr, .v (.int .u64 (if u > s.un then u else s.un))] = (bmpS id u s).av := by
 by_cases hc : u > s.un
 · have : bmpS id u s = { s with un := u } := by unfold bmpS; rw [if_pos (by simp [h]; exact hc)]
   rw [this, if_pos hc]; rfl
 · have : bmpS id u s = s := by unfold bmpS; rw [if_neg (by simp [h]; omega)]
   rw [this, if_neg hc]; rfl
theorem qyj (l : List Ses) (id u : Int) (hr : Up l) (hlen : l.length ≤ 900000) :
 q08 P 96 [.sl 4 (avs l), i64 id, u64 u] (fun x => x = .tup [.sl 4 (avs (q7v l id u).1), i64 (q7v l id u).2]) := by
 refine q09 tyOk Tryz.func96 rfl rfl fun K hK => ?_
 simp only [seval, go_sem, Tryz.ntmps96]
 refine qct rfl (by first | exact z00 _ | decide | simp) (q6k.new (qcu _ (by rw [q07]; omega)) rfl (by first | decide | simp)) ?_
 simp only [seval, go_sem, q07]
 refine q44 ?_
 simp only [seval, go_sem]
 refine qer (qj4 l hr id (by omega)) ?_ rfl ?_
 · simp only [q06]
   rw [qes (xs := avs l) rfl (q07 l)]
   rfl
 rw [qc2 hr]
 unfold q7v at hK
 simp only [seval, go_sem]
 cases h : has l id
 · rw [h, if_neg (by decide)] at hK
   simp only [seval, go_sem]
   apply hK
   simp only [Tryz.results96, retK, ares, z0t, z0z, AV.ofResults, St.trunc, q06, q0e, z0u, z0v, z13, z17, z0o, z01, z09, true_and, and_true, ↓reduceIte, z0h, exists_eq_left']
   rw [q1b (q07 l)]
 · have hlt := qcv hr h
   have hid := at_id hr h
   have hb := bmpS_at hr u h
   have eg := q6y hlt
   have c1 : (0 : Int) ≤ ((lb ltI (ids l) id : Nat) : Int) ∧ Int.toNat ((lb ltI (ids l) id : Nat) : Int) < l.length := by omega
   rw [h, if_pos rfl] at hK
   generalize l[lb ltI (ids l) id] = s at hid hb eg
   simp only [seval, go_sem, eg, c1, q07, Ses.av]
   apply hK
   simp only [Tryz.results96, retK, ares, z0t, z0z, AV.ofResults, St.trunc, q06, q0e, z0u, z0v, z13, z17, z0o, z01, z09, true_and, and_true, ↓reduceIte, z0h, exists_eq_left']
   rw [bmpS_av hid, z0g, qma, hb, q1b (by rw [q07, z0f])]
end Go.Proofs.YtdkcpcflfnakdaaGreat
namespace Go.Proofs.YtdkcpcflfnakdaaGreat
open Go Go.Proofs.YtdkcpcflfnakdaaGreat.Sym
set_option maxRecDepth 100000
set_option maxHeartbeats 1000000
def q7l (l : List Ses) : List (List AV) := l.map fun s => [s.av]
theorem qxg (xs : List AV) (now : Int) : q08 P 109 [.sl 4 xs, u64 now] (fun x => x = .fn 128 [.rp [.sl 4 xs], .rp [u64 now]]) := by
 refine q09 tyOk Tryz.func109 rfl rfl fun K hK => ?_
 simp only [seval, go_sem, Tryz.ntmps109]
 apply hK
 simp only [seval, go_sem, Tryz.results109]
theorem q9b {now : Int} {l : List Ses} (i : Nat) : q7l (lives now (l.take i)) <+: q7l (lives now l) :=
 ((z4h i l).filter _).map _
theorem qo2 (l : List Ses) (now : Int) (hlen : l.length < 9223372036854775807) : qh7 P 128 [.rp [.sl 4 (avs l)], .rp [u64 now]] (q7l (lives now l)) := by
 refine qd0 tyOk Tryz.func128 rfl rfl rfl ?_
 intro y K hK
 simp only [seval, go_sem, Tryz.ntmps128]
 refine qbo tyOk (α := Nat) 0 [0, 1, 2, 6, 7, 8] (fun i => i ≤ l.length)
  (fun i => ⟨[.v y, .rp [.sl 4 (avs l)], .rp [u64 now], .any, .any, .any, .sl 4 (avs l), i64 l.length, i64 i] ++ List.replicate 15 .any, []⟩)
  (fun i => (q7l (lives now (l.take i)), false)) (fun i => l.length - i) 0 (z09 _) (z00 _) (by rw [q07]; rfl) rfl ?_
 intro i hi
 simp only [seval, go_sem]
 refine qai ?_ ?_ <;> intro h <;> simp only [seval, go_sem]
 · have hlt : i < l.length := by simpa using h
   have eg := q6y hlt
   have ew : IntKind.i64.wrap ((i : Int) + 1) = ((i + 1 : Nat) : Int) := by rw [wrap_i64 (by omega) (by omega)]; rfl
   have c1 : (0 : Int) ≤ (i : Int) ∧ Int.toNat (i : Int) < (avs l).length := by rw [q07]; omega
   simp only [seval, go_sem, eg, c1, Ses.av]
   (refine qyd (qnj _ _) rfl rfl rfl rfl ?_; rintro _ rfl)
   simp only [seval, go_sem]
   cases hl : (l[i]).lives now with
   | false =>
    have e1 : (!decide ((l[i]).un ≤ now)) = false := hl
    simp only [seval, go_sem, e1, ew]
    simp only [seval, go_sem, q60]
    all_goals exact ⟨i + 1, hlt, by omega, rfl, by rw [q6g hlt hl]⟩
   | true =>
    have e1 : (!decide ((l[i]).un ≤ now)) = true := hl
    simp only [seval, go_sem, e1]
    have e2 : q7l (lives now (l.take i)) ++ [[sess (l[i]).id (l[i]).st (l[i]).pr (l[i]).un]] = q7l (lives now (l.take (i + 1))) := by
     rw [q7u hlt hl]; simp [q7l]; rfl
    refine ⟨⟨by rw [e2]; exact q9b _, rfl⟩, ?_⟩
    intro b
    cases b with
    | true =>
     simp only [seval, go_sem, ew]
     simp only [seval, go_sem, q60]
     all_goals exact ⟨i + 1, hlt, by omega, rfl, by rw [e2]⟩
    | false =>
     simp only [seval, go_sem]
     all_goals exact hK _ _ _ (qhq ⟨by rw [e2]; exact q9b _, fun h => by cases h⟩)
 · have hge : i = l.length := by have : ¬ ((i : Int) < (l.length : Int)) := by simpa using h
                                 omega
   subst hge
   refine hK _ _ _ (qbp ⟨q9b _, fun _ => by rw [z0w]⟩)
def q9d (p1 i1 p2 i2 : Int) : Bool := decide (p2 < p1) || (p1 == p2 && decide (i1 < i2))
theorem qrw (i1 s1 p1 u1 i2 s2 p2 u2 : Int) : q08 P 110 [sess i1 s1 p1 u1, sess i2 s2 p2 u2] (fun x => x = bool (q9d p1 i1 p2 i2)) := by
 refine q09 tyOk Tryz.func110 rfl rfl fun K hK => ?_
 simp only [seval, go_sem, Tryz.ntmps110]
 refine q1v ?_ ?_ <;> intro h <;> simp only [seval, go_sem]
 · apply hK
   simp only [seval, go_sem, Tryz.results110]
   rw [q9d, h]
   rfl
 · refine q1v ?_ ?_ <;> intro h2 <;> simp only [seval, go_sem]
   · apply hK
     simp only [seval, go_sem, Tryz.results110]
     rw [q9d, h, h2]
     rfl
   · apply hK
     simp only [seval, go_sem, Tryz.results110]
     rw [q9d, h, h2]
     rfl
def q5k (b : Ses × Int) (s : Ses) : Ses × Int := (if b.2 == 0 || q9d s.pr s.id b.1.pr b.1.id then s else b.1, b.2 + 1)
def q3e (l : List Ses) : Ses × Int := l.foldl q5k (⟨0, 0, 0, 0⟩, 0)
theorem qux {l : List Ses} {i : Nat} (h : i < l.length) : q3e (l.take (i + 1)) = q5k (q3e (l.take i)) l[i] := by
 rw [q12 h, q3e, z3k]; rfl
theorem qdo (l : List Ses) : (q3e l).2 = l.length := by
 have : ∀ (l : List Ses) (b : Ses × Int), (l.foldl q5k b).2 = b.2 + l.length := by
  intro l
  induction l with
  | nil => simp
  | cons s l ih => intro b; simp only [z2o, ih, q5k, z02]; omega
 rw [q3e, this]; simp
abbrev pres (st pr n : Int) : AV := .agg [i64 st, i64 pr, i64 n]
def ofMem (b : Ses × Int) : List AB := [.box [i64 0, i64 0, i64 0], .box [i64 b.1.id, i64 b.1.st, i64 b.1.pr, u64 b.1.un], .box [i64 b.2]]
theorem aggr_Of (l : List Ses) (now : Int) (hlen : l.length < 9223372036854775807) :
 q08 P 79 [.sl 4 (avs l), u64 now] (fun x => x = pres (q3e (lives now l)).1.st (q3e (lives now l)).1.pr (q3e (lives now l)).2) := by
 refine qgj tyOk Tryz.func79 rfl rfl fun K hK => ?_
 simp only [seval, go_sem, Tryz.ntmps79]
 (refine q00 (qxg _ _) rfl ?_; rintro _ rfl)
 simp only [seval, go_sem]
 have hll : (lives now l).length ≤ l.length := z1n _ _
 refine q91 tyOk (qo2 l now hlen) (α := Nat) 3 3 [4, 5, 6] ([.any, .any, .any, .any, .ptr 0 0, .ptr 1 0, .ptr 2 0] ++ List.replicate 21 .any) (fun xs i => i = xs.length) (fun i => ofMem (q3e ((lives now l).take i))) 0 rfl rfl
  (fun x hx => by simp only [q7l, z1b] at hx; obtain ⟨s, _, rfl⟩ := hx; rfl) (z00 _) (z09 _) (by rfl) rfl rfl ?_ ?_
 · rintro xs x _ hpre rfl
   obtain ⟨hi, _, rfl⟩ := q7k hpre
   have hb := qux hi
   have hc := qdo ((lives now l).take xs.length)
   generalize (lives now l)[xs.length] = s at hb
   generalize q3e ((lives now l).take xs.length) = b at hb hc
   simp only [seval, go_sem, ofMem, Ses.av]
   have hw : IntKind.i64.wrap (b.2 + 1) = b.2 + 1 := by
    rw [wrap_i64 (by omega) (by rw [hc, z1l]; omega)]
   refine q1v ?_ ?_ <;> intro h
   · simp only [seval, go_sem, hw]
     simp only [seval, go_sem, q3b]
     all_goals exact ⟨_, rfl, by rw [hb]; simp only [q5k, h, z30, if_true]⟩
   · simp only [seval, go_sem]
     (refine q00 (qrw _ _ _ _ _ _ _ _) rfl ?_; rintro _ rfl)
     simp only [seval, go_sem]
     refine q02 ?_ ?_ <;> intro h2 <;> simp only [seval, go_sem, hw] <;> simp only [seval, go_sem, q3b]
     · exact ⟨_, rfl, by rw [hb]; simp only [q5k, h, h2, z2g, if_true]⟩
     · exact ⟨_, rfl, by rw [hb]; simp only [q5k, h, h2, z2g, z0n, if_false]⟩
 · rintro _ rfl
   have e1 : (lives now l).take (q7l (lives now l)).length = lives now l := by rw [q7l, z0f, z0w]
   simp only [seval, go_sem, ofMem, e1]
   apply hK
   simp only [seval, go_sem, Tryz.results79]
end Go.Proofs.YtdkcpcflfnakdaaGreat
namespace Go.Proofs.YtdkcpcflfnakdaaGreat
open Go Go.Proofs.YtdkcpcflfnakdaaGreat.Sym
set_option maxRecDepth 100000
set_option maxHeartbeats 1000000
structure En where
 l : List Ses
 t : Pr
 deriving DecidableEq
def En.av (e : En) : AV := .agg [.sl 4 (avs e.l), i64 e.t.st, i64 e.t.pr, i64 e.t.n]
def q8m : En := ⟨[], ⟨0, 0, 0⟩⟩
abbrev q7i : AV := .agg [.v (.slice none 0 0), i64 0, i64 0, i64 0]
theorem weak_en : weak q7i (En.av q8m) := .inr ⟨_, rfl, _, _, rfl, q1j 4, _, _, rfl, q0g _, _, _, rfl, q0g _, _, _, rfl, q0g _, rfl⟩
theorem qgs (xs : List AV) (hlen : xs.length ≤ 1000000) :
 ACall P 130 [] [.sl 4 xs] (fun x m' => x = .own 0 4 0 xs.length ∧ m' = [.row 138 4 xs]) := by
 have hm : xs.length ≤ maxLen := by simp only [maxLen]; omega
 have hby : xs.length * 48 ≤ 140737488355328 := by omega
 by_cases h0 : xs = []
 · subst h0
   refine ACall.empty fun a cap => ?_
   cases a with
   | none =>
    refine ACall.weaken (K := fun x m' => x = .v (.slice none 0 0) ∧ m' = []) (q0j.toA (q1f tyOk Tryz.func130 rfl rfl (N := 0) (M := 1) (z00 _) (by simp) ?_)) ?_
    · intro K hK
      simp only [seval, go_sem, Tryz.ntmps130]
      apply hK
      simp only [seval, go_sem, Tryz.results130]
    · rintro x m' ⟨rfl, rfl⟩
      exact ⟨_, _, q0c.adopt (i := 0) 138 4 rfl, rfl, rfl⟩
   | some a =>
    refine q0j.toA (q1f tyOk Tryz.func130 rfl rfl (N := 0) (M := 1) (z00 _) (by simp) ?_)
    intro K hK
    simp only [seval, go_sem, Tryz.ntmps130]
    apply hK
    simp only [seval, go_sem, Tryz.results130]
 · have hpos : 0 < xs.length := z3y.2 h0
   refine q0j.toA (q1f tyOk Tryz.func130 rfl rfl (N := 0) (M := 1) (z00 _) (by simp) ?_)
   intro K hK
   simp only [seval, go_sem, Tryz.ntmps130, hpos]
   refine ⟨⟨hm, hby⟩, ?_⟩
   apply hK
   simp only [seval, go_sem, Tryz.results130]
theorem qvb (xs : List AV) (i : Nat) (hi : i < xs.length) (hlen : xs.length ≤ 1000000) :
 ACall P 129 [.row 138 4 xs] [.own 0 4 0 xs.length, i64 (i : Int), i64 ((i + 1 : Nat) : Int)] (fun x m' => x = .own 0 4 0 (xs.length - 1) ∧ m' = [.row 138 4 (xs.take i ++ xs.drop (i + 1) ++ [q7i])]) := by
 refine ACall.weaken (K := fun x m' => x = .own 0 4 0 (xs.length - 1) ∧ ∃ N, m' = [.rowc 138 4 (xs.take i ++ xs.drop (i + 1) ++ [q7i]) N]) (q0j.toA (m := [_]) (q0j.room (by decide) fun N hN _ => ?_)) ?_
 · refine q3a tyOk Tryz.func129 rfl rfl (by simp) fun K hK => ?_
   simp only [seval, go_sem, Tryz.ntmps129]
   have f1 : ((i : Int) == ((i + 1 : Nat) : Int)) = false := by simp; omega
   simp only [seval, go_sem, z0g, f1]
   refine ⟨by omega, ?_⟩
   by_cases he : i + 1 = xs.length
   · have e1 : (xs.take i ++ xs.drop i).length = xs.length := by rw [z1o]
     have e2 : ((xs.take i ++ xs.drop i).take i ++ List.replicate (xs.length - i) (q7i)) ++ (xs.take i ++ xs.drop i).drop (i + (xs.length - i)) = xs.take i ++ xs.drop (i + 1) ++ [q7i] := by
      rw [z1o, z14 (by omega), z14 (by omega), show xs.length - i = 1 by omega, z0i, z0i]
      rfl
     have hni : ¬ i = xs.length := by omega
     refine q0a tyOk (by rfl) (by simp only [z02, z0a, Nat.reduceAdd, z09]) (by kernel_rfl) rfl ?_
     simp only [seval, go_sem, z0g, he]
     refine ⟨by omega, by omega, by omega, ?_⟩
     refine ⟨by kernel_rfl, ?_⟩
     simp only [seval, go_sem, hni, e1]
     refine ⟨by omega, by omega, ?_⟩
     apply hK
     simp only [seval, go_sem, Tryz.results129]
     simp only [e2]
     all_goals exact ⟨by congr 1; omega, N, rfl⟩
   · have hd : (xs.drop (i + 1)).length = xs.length - (i + 1) := by simp
     have ht : (xs.drop (i + 1)).take (xs.length - (i + 1)) = xs.drop (i + 1) := z07 (by simp)
     have hni : ¬ i + (xs.length - (i + 1)) = xs.length := by omega
     have e1 : (xs.take i ++ xs.drop (i + 1) ++ xs.drop (i + (xs.length - (i + 1)))).length = xs.length := by simp; omega
     have e2 : (xs.take i ++ xs.drop (i + 1) ++ xs.drop (i + (xs.length - (i + 1)))).take (i + (xs.length - (i + 1))) ++ List.replicate (xs.length - (i + (xs.length - (i + 1)))) (q7i) ++
      (xs.take i ++ xs.drop (i + 1) ++ xs.drop (i + (xs.length - (i + 1)))).drop (i + (xs.length - (i + 1)) + (xs.length - (i + (xs.length - (i + 1))))) = xs.take i ++ xs.drop (i + 1) ++ [q7i] := by
      rw [show xs.length - (i + (xs.length - (i + 1))) = 1 by omega, z14 (l := xs.take i ++ xs.drop (i + 1) ++ xs.drop (i + (xs.length - (i + 1)))) (by rw [e1]; omega), z0i,
       z0x (by simp; omega), z07 (by simp; omega)]
      rfl
     refine q0a tyOk (by rfl) (by simp only [z02, z0a, Nat.reduceAdd, z09]) (by kernel_rfl) rfl ?_
     simp only [seval, go_sem, z0g, he, ht, hd]
     refine ⟨by omega, by omega, by omega, ?_⟩
     refine ⟨by kernel_rfl, ?_⟩
     simp only [seval, go_sem, hni, e1]
     refine ⟨by omega, by omega, ?_⟩
     apply hK
     simp only [seval, go_sem, Tryz.results129]
     simp only [e2]
     all_goals exact ⟨by congr 1; omega, N, rfl⟩
 · rintro x m' ⟨rfl, N, rfl⟩
   exact ⟨_, _, q0c.unroom, rfl, rfl⟩
theorem qvz (xs : List AV) (v : AV) (i : Nat) (hi : i ≤ xs.length) (hlen : xs.length ≤ 1000000) :
 q0r P (fun _ => false) 131 [.row 138 4 xs] [.own 0 4 0 xs.length, i64 (i : Int), .sl 4 [v]] (fun x m' => x = .own 0 4 0 (xs.length + 1) ∧ m' = [.row 138 4 (xs.take i ++ [v] ++ xs.drop i)]) := by
 refine q0j.relocate (q0j.room (by decide) fun N hN _ => q1f tyOk Tryz.func131 rfl rfl (N := 0) (M := 2) (z00 _) (by simp) ?_)
 intro K hK
 simp only [seval, go_sem, -Int.reduceNatCast, -Int.reduceNatCast', -Nat.reduceSubDiff, Tryz.ntmps131]
 have w1 : IntKind.i64.wrap ((xs.length : Int) + ((1 : Nat) : Int)) = ((xs.length + 1 : Nat) : Int) := by rw [wrap_i64 (by omega) (by omega)]; rfl
 have w2 : IntKind.i64.wrap ((i : Int) + ((1 : Nat) : Int)) = ((i + 1 : Nat) : Int) := by rw [wrap_i64 (by omega) (by omega)]; rfl
 have w3 : IntKind.i64.wrap (((xs.length + 1 : Nat) : Int) - (i : Int)) = ((xs.length + 1 - i : Nat) : Int) := by rw [wrap_i64 (by omega) (by omega)]; omega
 have c1 : (((1 : Nat) : Int) == 0) = false := by decide
 by_cases hin : i = xs.length
 · subst hin
   simp only [seval, go_sem, -Int.reduceNatCast, -Int.reduceNatCast', -Nat.reduceSubDiff, z0g, c1]
   refine ⟨by omega, ?_⟩
   by_cases hr : xs.length + 1 ≤ N
   · simp only [seval, go_sem, -Int.reduceNatCast, -Int.reduceNatCast', -Nat.reduceSubDiff, hr]
     apply hK
     simp only [seval, go_sem, -Int.reduceNatCast, -Int.reduceNatCast', -Nat.reduceSubDiff, Tryz.results131, retK, ares, z1k, z0y, z0o, z0r, true_and, and_true, AV.ofResults, St.trunc, q06, q0e, AB.trunc, z0h, exists_eq_left']
     all_goals exact .inl ⟨N, [], by simp⟩
   · simp only [seval, go_sem, -Int.reduceNatCast, -Int.reduceNatCast', -Nat.reduceSubDiff, hr]
     refine ⟨⟨by simp only [maxLen]; omega, by omega⟩, ?_⟩
     apply hK
     simp only [seval, go_sem, -Int.reduceNatCast, -Int.reduceNatCast', -Nat.reduceSubDiff, Tryz.results131, retK, ares, z1k, z0y, z0o, z0r, true_and, and_true, AV.ofResults, St.trunc, q06, q0e, AB.trunc, z0h, exists_eq_left']
     all_goals exact .inr (by simp)
 · have hlt : i < xs.length := by omega
   have c2 : ((i : Int) == (xs.length : Int)) = false := by simp; omega
   by_cases hr : xs.length + 1 ≤ N
   · have d1 : decide ((N : Int) < ((xs.length + 1 : Nat) : Int)) = false := decide_eq_false (by omega)
     have n1 : ¬ i + 1 = xs.length + 1 := by omega
     have n2 : ¬ i = xs.length + 1 := by omega
     simp only [seval, go_sem, -Int.reduceNatCast, -Int.reduceNatCast', -Nat.reduceSubDiff, z0g, c1, c2, w1, w2, z3s, d1, hin, n1]
     refine ⟨by omega, by omega, by omega, ?_⟩
     refine q44 ?_
     simp only [seval, go_sem, -Int.reduceNatCast, -Int.reduceNatCast', -Nat.reduceSubDiff]
     refine qcn (q6v (tS := 85) (tR := 4) (e := 138) tyOk Tryz.func143 rfl rfl (by kernel_rfl) (by kernel_rfl) rfl rfl rfl (by decide) rfl rfl) ?_
     simp only [seval, go_sem, -Int.reduceNatCast, -Int.reduceNatCast', -Nat.reduceSubDiff]
     have ek : (xs.drop i).take (min (xs.length + 1 - (i + 1)) (xs.length + 1 - i)) = xs.drop i := z07 (by simp; omega)
     refine q0a tyOk (by rfl) (by simp only [z02, z0a, Nat.reduceAdd, z00]) (by kernel_rfl) rfl ?_
     simp only [seval, go_sem, -Int.reduceNatCast, -Int.reduceNatCast', -Nat.reduceSubDiff, z0g, w2, n1, n2, ek]
     refine ⟨by omega, by omega, by omega, ?_⟩
     refine ⟨by kernel_rfl, ?_⟩
     have es : List.take (xs.length + 1 - i) [v] = [v] := z07 (by simp; omega)
     have e3 : (xs.take (i + 1) ++ xs.drop i ++ xs.drop (i + 1 + (xs.drop i).length)).take i ++ [v] ++ (xs.take (i + 1) ++ xs.drop i ++ xs.drop (i + 1 + (xs.drop i).length)).drop (i + 1) = xs.take i ++ [v] ++ xs.drop i := by
      have hl : (xs.take (i + 1)).length = i + 1 := by simp; omega
      have hd : xs.drop (i + 1 + (xs.drop i).length) = [] := z14 (by simp; omega)
      rw [hd, z0i, z0x (by omega), z3q, z3z (by omega),
       z3o (by omega), z14 (by omega), z21]
     simp only [seval, go_sem, -Int.reduceNatCast, -Int.reduceNatCast', -Nat.reduceSubDiff, es]
     refine ⟨by omega, ⟨by omega, by simp; omega⟩, ?_⟩
     apply hK
     simp only [seval, go_sem, -Int.reduceNatCast, -Int.reduceNatCast', -Nat.reduceSubDiff, Tryz.results131, retK, ares, z1k, z0y, z0o, z0r, true_and, and_true, AV.ofResults, St.trunc, q06, q0e, AB.trunc, z0h, exists_eq_left']
     all_goals exact .inl ⟨N, [], by rw [e3, z0i]⟩
   · have d1 : decide ((N : Int) < ((xs.length + 1 : Nat) : Int)) = true := decide_eq_true (by omega)
     have g1 : ¬ i + (xs.length + 1 - i) ≤ N := by omega
     have g2 : ¬ i = i + (xs.length + 1 - i) := by omega
     have g3 : ¬ i + 1 = i + (xs.length + 1 - i) := by omega
     have g4 : List.take (i + (xs.length + 1 - i) - i) [v] = [v] := z07 (by simp; omega)
     have g5 : (xs.drop i).take (min (i + (xs.length + 1 - i) - (i + 1)) (xs.length - i)) = xs.drop i := z07 (by simp; omega)
     simp only [seval, go_sem, -Int.reduceNatCast, -Int.reduceNatCast', -Nat.reduceSubDiff, z0g, c1, c2, w1, w3, z3s, d1, hin, g1, g2, g4]
     refine ⟨by omega, by omega, ⟨by omega, by omega, by omega, by omega, by simp only [maxLen]; omega, by omega⟩, by omega, ⟨by omega, by simp; omega⟩, ?_⟩
     refine q0a tyOk (by rfl) (by simp only [z02, z0a, Nat.reduceAdd, z00]) (by kernel_rfl) rfl ?_
     simp only [seval, go_sem, -Int.reduceNatCast, -Int.reduceNatCast', -Nat.reduceSubDiff, z0g, w2, g3, g5, hin]
     have hB : (xs.take i ++ List.replicate (xs.length + 1 - i) (q7i)).take i = xs.take i := by
      rw [z0x (by simp; omega), z3q, z5o]
     have hli : (xs.take i).length = i := by simp; omega
     rw [hB]
     refine ⟨by omega, by omega, ⟨by omega, by omega, by simp; omega⟩, ?_⟩
     refine ⟨by kernel_rfl, ?_⟩
     apply hK
     simp only [seval, go_sem, -Int.reduceNatCast, -Int.reduceNatCast', -Nat.reduceSubDiff, Tryz.results131, retK, ares, z1k, z0y, z0o, z0r, and_true, AV.ofResults, St.trunc, q06, q0e, AB.trunc, z0h, exists_eq_left']
     have e4 : ∀ D : List AV, (xs.take i ++ [v] ++ D).take (i + 1) = xs.take i ++ [v] := fun D => by
      rw [z0x (by simp; omega), z07 (by simp; omega)]
     have e5 : (xs.take i ++ [v] ++ (xs.take i ++ List.replicate (xs.length + 1 - i) (q7i)).drop (i + 1)).drop (i + 1 + (xs.drop i).length) = [] := z14 (by simp; omega)
     refine .inr ?_
     rw [e4, e5, z0i]
     exact ⟨by congr 1; omega, rfl⟩
end Go.Proofs.YtdkcpcflfnakdaaGreat
namespace Go.Proofs.YtdkcpcflfnakdaaGreat
open Go Go.Proofs.YtdkcpcflfnakdaaGreat.Sym
set_option maxRecDepth 100000
set_option maxHeartbeats 1000000
theorem avs_refs (l : List Ses) : q05 (avs l) = [] := by
 induction l with
 | nil => rfl
 | cons s l ih => simp only [avs, z0r, q05] at ih ⊢; rw [ih]; rfl
theorem en_refs (k : ByteArray) (e : En) : q05 [.v (.string k), .agg [.sl 4 (avs e.l), i64 e.t.st, i64 e.t.pr, i64 e.t.n]] = [] := by
 simp [q05, AV.refs, avs_refs]
def q0n (m : List (ByteArray × En)) : AV := .agg [.sl 1 (m.map fun p => str p.1), .sl 4 (m.map fun p => En.av p.2)]
abbrev q1o (m : List (ByteArray × En)) : Prop := q3p ltS m
theorem qm8 (m : List (ByteArray × En)) (k : ByteArray) (hr : q1o m) (hlen : m.length ≤ 1000000) :
 q08 P 108 [q0n m, str k] (fun x => x = .tup [i64 ((lb ltS (m.map Prod.fst) k : Nat) : Int), bool (q1q ltS eqS (m.map Prod.fst) k)]) := by
 refine q09 tyOk Tryz.func108 rfl rfl fun K hK => ?_
 simp only [seval, go_sem, Tryz.ntmps108]
 have em : (m.map fun p => str p.1) = (m.map Prod.fst).map fun x => str x := by rw [z3f]; rfl
 simp only [seval, go_sem, q0n, em]
 (refine q00 (qk7 (m.map Prod.fst) hr k (by rw [z0f]; exact hlen)) rfl ?_; rintro _ rfl)
 simp only [seval, go_sem]
 apply hK
 simp only [seval, go_sem, Tryz.results108]
theorem qgc {m : List (ByteArray × En)} {k : ByteArray} (h : q1q ltS eqS (m.map Prod.fst) k = true) : lb ltS (m.map Prod.fst) k < m.length := by
 apply z2k
 intro hc
 rw [q88 (by rw [z0f]; omega)] at h
 cases h
theorem qh4 (m : List (ByteArray × En)) (k : ByteArray) (v : En) (hr : q1o m) (hlen : m.length ≤ 900000) :
 q08 P 113 [q0n m, str k, En.av v] (fun x => x = q0n (q2p ltS eqS m k v)) := by
 refine q09 tyOk Tryz.func113 rfl rfl fun K hK => ?_
 simp only [seval, go_sem, Tryz.ntmps113]
 have ev0 : En.av v = .agg [.sl 4 (avs v.l), i64 v.t.st, i64 v.t.pr, i64 v.t.n] := rfl
 have hfind := qm8 m k hr (by omega)
 unfold q0n at hfind
 simp only [seval, go_sem, q0n, ev0]
 (refine q00 hfind rfl ?_; rintro _ rfl)
 unfold q2p at hK
 have lm1 : (m.map fun p => str p.1).length ≤ 1000000 := by rw [z0f]; omega
 have lm2 : (m.map fun p => En.av p.2).length ≤ 1000000 := by rw [z0f]; omega
 have hle : lb ltS (m.map Prod.fst) k ≤ m.length := by have := qcw (lt := ltS) (m.map Prod.fst) k; rwa [z0f] at this
 cases hh : q1q ltS eqS (m.map Prod.fst) k
 · rw [hh] at hK
   simp only [seval, go_sem]
   refine q0a tyOk (by rfl) (by simp only [z02, z0a, Nat.reduceAdd, z00]) (by kernel_rfl) rfl ?_
   simp only [seval, go_sem]
   refine q2n (qd3 _ lm1) rfl rfl ?_
   simp only [seval, go_sem]
   refine q8z (qko _ (str k) (lb ltS (m.map Prod.fst) k) (by rw [z0f]; exact hle) lm1) 3 (by decide) rfl rfl rfl rfl ?_
   simp only [seval, go_sem]
   refine q2n (qgs _ lm2) rfl rfl ?_
   simp only [seval, go_sem]
   refine q8z (qvz _ (En.av v) (lb ltS (m.map Prod.fst) k) (by rw [z0f]; exact hle) lm2) 4 (by decide) rfl rfl rfl rfl ?_
   simp only [seval, go_sem]
   refine ⟨by kernel_rfl, ?_⟩
   apply hK
   simp only [Tryz.results113, retK, ares, z1k, z0t, z0z, AV.ofResults, St.trunc, q06, q0e, q50, q42, T, TI.isAgg, z0u, z0v, z13, z0y, z17, z0o, z01, z03, z02, z0a, Nat.reduceAdd, Nat.reduceLeDiff, z09, true_and, and_true, ↓reduceIte, z0n, z0h, exists_eq_left']
   rw [q1b (by simp; omega), q1b (by simp; omega)]
   simp only [q0n, z12, z38, z3n, z0r, z0o]
 · rw [hh] at hK
   have hl := qgc hh
   have eg : (m.map fun p => En.av p.2).getD (Int.toNat ((lb ltS (m.map Prod.fst) k : Nat) : Int)) .any = En.av m[lb ltS (m.map Prod.fst) k].2 := q2d hl
   have k1 : (0 : Int) ≤ ((lb ltS (m.map Prod.fst) k : Nat) : Int) ∧ Int.toNat ((lb ltS (m.map Prod.fst) k : Nat) : Int) < m.length := by omega
   simp only [seval, go_sem]
   refine q0a tyOk (by rfl) (by simp only [z02, z0a, Nat.reduceAdd, z00]) (by kernel_rfl) rfl ?_
   simp only [seval, go_sem]
   refine q2n (qgs _ lm2) rfl rfl ?_
   simp only [seval, go_sem]
   refine ⟨by kernel_rfl, ?_⟩
   have eg' : (m.map fun p => En.av p.2).getD (Int.toNat ((lb ltS (m.map Prod.fst) k : Nat) : Int)) .any = .agg [.sl 4 (avs (m[lb ltS (m.map Prod.fst) k].2).l), i64 (m[lb ltS (m.map Prod.fst) k].2).t.st, i64 (m[lb ltS (m.map Prod.fst) k].2).t.pr, i64 (m[lb ltS (m.map Prod.fst) k].2).t.n] := eg
   simp only [seval, go_sem, eg', k1, z0f]
   apply hK
   simp only [Tryz.results113, retK, ares, z1k, z0t, z0z, AV.ofResults, St.trunc, q06, q0e, q50, q42, T, TI.isAgg, z0u, z0v, z13, z0y, z17, z0o, z01, z03, z02, z0a, Nat.reduceAdd, Nat.reduceLeDiff, z09, true_and, and_true, ↓reduceIte, z0h, exists_eq_left']
   rw [← ev0]
   have he : m[lb ltS (m.map Prod.fst) k].1 = k := by
    have h1 := hh
    rw [q6r (by rw [z0f]; exact hl)] at h1
    have h2 := (q0t _ _).1 h1
    simpa using h2
   rw [q1b (by simp)]
   simp only [q0n, z4b, z0g]
   congr 2
   congr 1
   refine (qgg (f := fun p : ByteArray × En => str p.1) hl ?_).symm
   simp only [he]
theorem qid (m : List (ByteArray × En)) : q08 P 89 [q0n m] (fun x => x = .fn 111 [.rp [.sl 1 (m.map fun p => str p.1), .sl 4 (m.map fun p => En.av p.2)]]) := by
 refine q09 tyOk Tryz.func89 rfl rfl fun K hK => ?_
 simp only [seval, go_sem, Tryz.ntmps89, q0n]
 apply hK
 simp only [seval, go_sem, Tryz.results89]
def q3h (m : List (ByteArray × En)) : List (List AV) := m.map fun p => [str p.1, En.av p.2]
theorem qbz {m : List (ByteArray × En)} (i : Nat) : q3h (m.take i) <+: q3h m := (z4h i m).map _
theorem seq_se (m : List (ByteArray × En)) (hlen : m.length ≤ 1000000) : qh7 P 111 [.rp [.sl 1 (m.map fun p => str p.1), .sl 4 (m.map fun p => En.av p.2)]] (q3h m) := by
 refine qd0 tyOk Tryz.func111 rfl rfl rfl ?_
 intro y K hK
 simp only [seval, go_sem, Tryz.ntmps111, z0f]
 refine qbo tyOk (α := Nat) 0 [0, 1, 6, 7, 8] (fun i => i ≤ m.length)
  (fun i => ⟨[.v y, .rp [.sl 1 (m.map fun p => str p.1), .sl 4 (m.map fun p => En.av p.2)], .any, .any, .any, .any, .sl 1 (m.map fun p => str p.1), i64 m.length, i64 i, .any, .any, .any, .any, .any, .any, .any, .any, .any, .any, .any, .any, .any, .any], []⟩)
  (fun i => (q3h (m.take i), false)) (fun i => m.length - i) 0 (z09 _) (z00 _) rfl rfl ?_
 intro i hi
 simp only [seval, go_sem]
 refine qai ?_ ?_ <;> intro h <;> simp only [seval, go_sem]
 · have hlt : i < m.length := by simpa using h
   have e1 := q2d (f := fun p : ByteArray × En => str p.1) hlt
   have e2 := q2d (f := fun p : ByteArray × En => En.av p.2) hlt
   have c1 : (0 : Int) ≤ (i : Int) ∧ Int.toNat (i : Int) < m.length := by omega
   have ew : IntKind.i64.wrap ((i : Int) + 1) = ((i + 1 : Nat) : Int) := by rw [wrap_i64 (by omega) (by omega)]; rfl
   have e3 : q3h (m.take i) ++ [[str m[i].1, En.av m[i].2]] = q3h (m.take (i + 1)) := by
    rw [q12 hlt]; simp only [q3h, z12, z0r, z0o]
   simp only [En.av] at e3
   have e2' : (m.map fun p => En.av p.2).getD (Int.toNat (i : Int)) .any = .agg [.sl 4 (avs m[i].2.l), i64 m[i].2.t.st, i64 m[i].2.t.pr, i64 m[i].2.t.n] := e2
   simp only [seval, go_sem, e1, e2', c1, z0f]
   refine ⟨⟨by rw [e3]; exact qbz _, en_refs _ _⟩, ?_⟩
   intro b
   cases b with
   | true =>
    simp only [seval, go_sem, ew]
    simp only [seval, go_sem, q60]
    all_goals exact ⟨i + 1, hlt, by omega, rfl, by rw [e3]⟩
   | false =>
    simp only [seval, go_sem]
    all_goals exact hK _ _ _ (qhq ⟨by rw [e3]; exact qbz _, fun h => by cases h⟩)
 · have hge : i = m.length := by have : ¬ ((i : Int) < (m.length : Int)) := by simpa using h
                                 omega
   subst hge
   refine hK _ _ _ (qbp ⟨qbz _, fun _ => by rw [z0w]⟩)
theorem qu5 (m : List (ByteArray × En)) (k : ByteArray) (hr : q1o m) (hlen : m.length ≤ 1000000) :
 q08 P 78 [q0n m, str k] (fun x => x = .tup [if q1q ltS eqS (m.map Prod.fst) k = true then En.av (getG ltS eqS q8m m k).1 else q7i, bool (getG ltS eqS q8m m k).2]) := by
 refine q09 tyOk Tryz.func78 rfl rfl fun K hK => ?_
 simp only [seval, go_sem, Tryz.ntmps78]
 have hfind := qm8 m k hr hlen
 unfold q0n at hfind
 simp only [seval, go_sem, q0n]
 (refine q00 hfind rfl ?_; rintro _ rfl)
 unfold getG at hK
 cases hh : q1q ltS eqS (m.map Prod.fst) k
 · rw [hh] at hK
   simp only [seval, go_sem]
   apply hK
   simp only [seval, go_sem, Tryz.results78]
 · rw [hh] at hK
   have hl := qgc hh
   have eg : (m.map fun p => En.av p.2).getD (Int.toNat ((lb ltS (m.map Prod.fst) k : Nat) : Int)) .any = En.av ((m.map Prod.snd).getD (lb ltS (m.map Prod.fst) k) q8m) := by
    rw [q2d hl, z04, z11, z05 hl]; rfl
   have k1 : (0 : Int) ≤ ((lb ltS (m.map Prod.fst) k : Nat) : Int) ∧ Int.toNat ((lb ltS (m.map Prod.fst) k : Nat) : Int) < m.length := by omega
   obtain ⟨en, hen⟩ : ∃ en, (m.map Prod.snd).getD (lb ltS (m.map Prod.fst) k) q8m = en := ⟨_, rfl⟩
   rw [hen] at eg hK
   have eg' : (m.map fun p => En.av p.2).getD (Int.toNat ((lb ltS (m.map Prod.fst) k : Nat) : Int)) .any = .agg [.sl 4 (avs en.l), i64 en.t.st, i64 en.t.pr, i64 en.t.n] := eg
   simp only [seval, go_sem, eg', k1, z0f]
   apply hK
   simp only [seval, go_sem, Tryz.results78]
   all_goals rfl
theorem qri (m : List (ByteArray × En)) (k : ByteArray) (hr : q1o m) (hlen : m.length ≤ 1000000) :
 q08 P 78 [q0n m, str k] (fun x => x = .tup [En.av (getG ltS eqS q8m m k).1, bool (getG ltS eqS q8m m k).2]) := by
 refine (qu5 m k hr hlen).weaken (.inr ⟨_, rfl, _, _, rfl, ?_, _, _, rfl, q0g _, rfl⟩)
 unfold getG
 split
 · exact q0g _
 · exact weak_en
theorem qd9 (m : List (ByteArray × En)) (k : ByteArray) (hr : q1o m) (hlen : m.length ≤ 900000) :
 q08 P 112 [q0n m, str k] (fun x => x = q0n (q1l ltS eqS m k)) := by
 refine q09 tyOk Tryz.func112 rfl rfl fun K hK => ?_
 simp only [seval, go_sem, Tryz.ntmps112]
 have hfind := qm8 m k hr (by omega)
 unfold q0n at hfind
 simp only [seval, go_sem, q0n]
 (refine q00 hfind rfl ?_; rintro _ rfl)
 unfold q1l at hK
 have lm1 : (m.map fun p => str p.1).length ≤ 1000000 := by rw [z0f]; omega
 have lm2 : (m.map fun p => En.av p.2).length ≤ 1000000 := by rw [z0f]; omega
 cases hh : q1q ltS eqS (m.map Prod.fst) k
 · rw [hh] at hK
   simp only [seval, go_sem]
   apply hK
   simp only [Tryz.results112, retK, ares, z1k, z0t, z0z, AV.ofResults, St.trunc, q06, q0e, q50, q42, T, TI.isAgg, z0u, z0v, z13, z0y, z17, z0o, z01, z03, z02, z0a, Nat.reduceAdd, z09, true_and, and_true, ↓reduceIte, z0n, z0h, exists_eq_left']
   all_goals rfl
 · rw [hh] at hK
   have hl := qgc hh
   have w1 : IntKind.i64.wrap (((lb ltS (m.map Prod.fst) k : Nat) : Int) + 1) = ((lb ltS (m.map Prod.fst) k + 1 : Nat) : Int) := by rw [wrap_i64 (by omega) (by omega)]; rfl
   simp only [seval, go_sem]
   refine q0a tyOk (by rfl) (by simp only [z02, z0a, Nat.reduceAdd, z00]) (by kernel_rfl) rfl ?_
   simp only [seval, go_sem]
   refine q2n (qd3 _ lm1) rfl rfl ?_
   simp only [seval, go_sem, w1]
   refine qah (ql2 _ (lb ltS (m.map Prod.fst) k) (by rw [z0f]; exact hl) lm1) 2 rfl rfl rfl rfl rfl ?_
   simp only [seval, go_sem]
   refine q2n (qgs _ lm2) rfl rfl ?_
   simp only [seval, go_sem, w1]
   refine qah (qvb _ (lb ltS (m.map Prod.fst) k) (by rw [z0f]; exact hl) lm2) 3 rfl rfl rfl rfl rfl ?_
   simp only [seval, go_sem]
   refine ⟨by kernel_rfl, ?_⟩
   apply hK
   simp only [Tryz.results112, retK, ares, z1k, z0t, z0z, AV.ofResults, St.trunc, q06, q0e, q50, q42, T, TI.isAgg, z0u, z0v, z13, z0y, z17, z0o, z01, z03, z02, z0a, Nat.reduceAdd, Nat.reduceLeDiff, z09, true_and, and_true, ↓reduceIte, z0h, exists_eq_left']
   rw [qc3 (by rw [z0f]; exact hl), qc3 (by rw [z0f]; exact hl)]
   simp only [q0n, z12, z38, z3n]
end Go.Proofs.YtdkcpcflfnakdaaGreat
namespace Go.Proofs.YtdkcpcflfnakdaaGreat
open Go Go.Proofs.YtdkcpcflfnakdaaGreat.Sym
set_option maxRecDepth 100000
set_option maxHeartbeats 1000000
def addW (a b : Int) : Int := if IntKind.u64.wrap (18446744073709551615 - a) < b then 18446744073709551615 else IntKind.u64.wrap (a + b)
theorem qiy (a b : Int) : q08 P 94 [u64 a, u64 b] (fun x => x = u64 (addW a b)) := by
 refine q09 tyOk Tryz.func94 rfl rfl fun K hK => ?_
 simp only [seval, go_sem, Tryz.ntmps94]
 refine q02 ?_ ?_ <;> intro h <;> simp only [seval, go_sem]
 · apply hK
   simp only [seval, go_sem, Tryz.results94]
   rw [addW, if_pos (by simpa using h)]
 · apply hK
   simp only [seval, go_sem, Tryz.results94]
   rw [addW, if_neg (by simpa using h)]
abbrev Bk := List (ByteArray × En)
def ofP (l : List Ses) (now : Int) : Pr := ⟨(q3e (lives now l)).1.st, (q3e (lives now l)).1.pr, (q3e (lives now l)).2⟩
def q0o (m : Bk) (u : ByteArray) : En := (getG ltS eqS q8m m u).1
def q27 (m : Bk) (u : ByteArray) (l : List Ses) (now : Int) : Bk := if l.length = 0 then q1l ltS eqS m u else q2p ltS eqS m u ⟨l, ofP l now⟩
def q3u (m : Bk) (u : ByteArray) (l : List Ses) (now : Int) : List Chg := if ofP l now = (q0o m u).t then [] else [⟨u, (q0o m u).t, ofP l now⟩]
theorem qtp (l : List Ses) (now : Int) (h : l.length ≤ 1000000) : q08 P 79 [.sl 4 (avs l), u64 now] (fun x => x = .agg [i64 (ofP l now).st, i64 (ofP l now).pr, i64 (ofP l now).n]) := aggr_Of l now (by omega)
theorem qjn (m : Bk) (u : ByteArray) (hr : q1o m) (hlen : m.length ≤ 800000) : q08 P 78 [q0n m, str u]
 (fun x => x = .tup [.agg [.sl 4 (avs (q0o m u).l), i64 (q0o m u).t.st, i64 (q0o m u).t.pr, i64 (q0o m u).t.n], bool (getG ltS eqS q8m m u).2]) := qri m u hr (by omega)
theorem qw4 (m : Bk) (u : ByteArray) (l : List Ses) (now : Int) (hr : q1o m) (hlen : m.length ≤ 800000) (hl : l.length ≤ 800000) :
 q08 P 91 [q0n m, str u, .sl 4 (avs l), u64 now] (fun x => x = .tup [q0n (q27 m u l now), if q3u m u l now = [] then .v (.slice none 0 0) else .sl 7 (chgs (q3u m u l now))]) := by
 refine q09 tyOk Tryz.func91 rfl rfl fun K hK => ?_
 simp only [seval, go_sem, Tryz.ntmps91, q0n]
 (refine q00 (qjn m u hr hlen) rfl ?_; rintro _ rfl)
 simp only [seval, go_sem]
 (refine q00 (qtp l now (by omega)) rfl ?_; rintro _ rfl)
 simp only [seval, go_sem, qln]
 refine q02 ?_ ?_ <;> intro h
 · have hne : ¬ ofP l now = (q0o m u).t := by simpa using h
   have hc : q3u m u l now = [⟨u, (q0o m u).t, ofP l now⟩] := by rw [q3u, if_neg hne]
   simp only [seval, go_sem, q07]
   refine q02 ?_ ?_ <;> intro h2
   · have hl0 : l.length = 0 := by simpa using h2
     have hs : q27 m u l now = q1l ltS eqS m u := by rw [q27, if_pos hl0]
     simp only [seval, go_sem]
     (refine q00 (qd9 m u hr (by omega)) rfl ?_; rintro _ rfl)
     simp only [seval, go_sem, q0n]
     apply hK
     simp only [seval, go_sem, Tryz.results91]
     rw [hc, hs]
     try rfl
   · have hl0 : ¬ l.length = 0 := by simpa using h2
     have hs : q27 m u l now = q2p ltS eqS m u ⟨l, ofP l now⟩ := by rw [q27, if_neg hl0]
     have hw := qh4 m u ⟨l, ofP l now⟩ hr (by omega)
     unfold En.av at hw
     simp only [seval, go_sem]
     (refine q00 hw rfl ?_; rintro _ rfl)
     simp only [seval, go_sem, q0n]
     apply hK
     simp only [seval, go_sem, Tryz.results91]
     rw [hc, hs]
     try rfl
 · have hne : ofP l now = (q0o m u).t := by simpa using h
   have hc : q3u m u l now = [] := by rw [q3u, if_pos hne]
   simp only [seval, go_sem, q07]
   refine q02 ?_ ?_ <;> intro h2
   · have hl0 : l.length = 0 := by simpa using h2
     have hs : q27 m u l now = q1l ltS eqS m u := by rw [q27, if_pos hl0]
     simp only [seval, go_sem]
     (refine q00 (qd9 m u hr (by omega)) rfl ?_; rintro _ rfl)
     simp only [seval, go_sem, q0n]
     apply hK
     simp only [seval, go_sem, Tryz.results91]
     rw [hc, hs]
     try rfl
   · have hl0 : ¬ l.length = 0 := by simpa using h2
     have hs : q27 m u l now = q2p ltS eqS m u ⟨l, ofP l now⟩ := by rw [q27, if_neg hl0]
     have hw := qh4 m u ⟨l, ofP l now⟩ hr (by omega)
     unfold En.av at hw
     simp only [seval, go_sem]
     (refine q00 hw rfl ?_; rintro _ rfl)
     simp only [seval, go_sem, q0n]
     apply hK
     simp only [seval, go_sem, Tryz.results91]
     rw [hc, hs]
     try rfl
theorem q7n (m : Bk) (u : ByteArray) (l : List Ses) (now : Int) (hr : q1o m) (hlen : m.length ≤ 800000) (hl : l.length ≤ 800000) :
 q08 P 91 [q0n m, str u, .sl 4 (avs l), u64 now] (fun x => x = .tup [q0n (q27 m u l now), .sl 7 (chgs (q3u m u l now))]) := by
 refine (qw4 m u l now hr hlen hl).weaken (.inr ⟨_, rfl, _, _, rfl, q0g _, _, _, rfl, ?_, rfl⟩)
 split
 · rename_i h; rw [h]; exact q1j 7
 · exact q0g _
structure Opb where
 kind : Int
 u : ByteArray
 id : Int
 st : Int
 pr : Int
 ttl : Int
 us : List ByteArray
def Opb.av (o : Opb) : AV := .agg [i64 o.kind, str o.u, i64 o.id, i64 o.st, i64 o.pr, u64 o.ttl, .sl 1 (o.us.map fun x => str x)]
def q24 (n : Nat) (m : Bk) : Prop := q1o m ∧ m.length ≤ n ∧ ∀ p ∈ m, Up p.2.l ∧ p.2.l.length ≤ n
def q1t (m : Bk) (o : Opb) (now most : Int) : List Ses × Int :=
 let l := lives now (q0o m o.u).l
 if o.kind = 1 then setF l ⟨o.id, o.st, o.pr, addW now o.ttl⟩ most
 else if o.kind = 2 then q7v l o.id (addW now o.ttl)
 else if o.kind = 3 then (clear l o.id, if has l o.id = true then 0 else 3)
 else (l, 0)
def q2a (m : Bk) (o : Opb) (now most : Int) : Bk := q27 m o.u (q1t m o now most).1 now
def q32 (m : Bk) (o : Opb) (now most : Int) : List Chg := q3u m o.u (q1t m o now most).1 now
theorem qgd {n : Nat} {m : Bk} (h : q24 n m) (u : ByteArray) : Up (q0o m u).l ∧ (q0o m u).l.length ≤ n := by
 by_cases hk : u ∈ m.map Prod.fst
 · obtain ⟨⟨k, e⟩, hp, rfl⟩ := z1b.1 hk
   rw [q0o, qhb ordS q0t h.1 hp]
   exact h.2.2 _ hp
 · rw [q0o, qem ordS q0t h.1 hk]
   exact ⟨List.Pairwise.nil, z00 _⟩
theorem put_len {l : List Ses} (hr : Up l) (s : Ses) : (put l s).length ≤ l.length + 1 := by
 rw [← qr0 hr s]
 split
 · rw [z56]; omega
 · simp; omega
theorem setF_ok {l : List Ses} (hr : Up l) (s : Ses) (most : Int) : Up (setF l s most).1 ∧ (setF l s most).1.length ≤ l.length + 1 := by
 unfold setF
 split
 · exact ⟨hr, z3e _⟩
 · rw [qqn hr]; exact ⟨put_up hr s, put_len hr s⟩
theorem bmpS_id (id u : Int) (s : Ses) : (bmpS id u s).id = s.id := by unfold bmpS; split <;> rfl
theorem beatF_ok {l : List Ses} (hr : Up l) (id u : Int) : Up (q7v l id u).1 ∧ (q7v l id u).1.length = l.length := by
 unfold q7v
 split
 · refine ⟨?_, by simp⟩
   have e : ids (l.map (bmpS id u)) = ids l := by
    rw [ids, ids, z3f]
    exact z2p fun s _ => bmpS_id id u s
   show q8t ltI (ids (l.map (bmpS id u)))
   rw [e]; exact hr
 · exact ⟨hr, rfl⟩
theorem qge {n : Nat} {m : Bk} (h : q24 n m) (o : Opb) (now most : Int) : Up (q1t m o now most).1 ∧ (q1t m o now most).1.length ≤ n + 1 := by
 obtain ⟨h1, h2⟩ := qgd h o.u
 have h3 := qep h1 now
 have h4 : (lives now (q0o m o.u).l).length ≤ (q0o m o.u).l.length := z1n _ _
 unfold q1t
 simp only
 split
 · have := setF_ok h3 ⟨o.id, o.st, o.pr, addW now o.ttl⟩ most; exact ⟨this.1, by omega⟩
 · split
   · have := beatF_ok h3 o.id (addW now o.ttl); exact ⟨this.1, by omega⟩
   · split
     · exact ⟨qqp h3 _, by have : (clear (lives now (q0o m o.u).l) o.id).length ≤ _ := z1n _ _; simp only; omega⟩
     · exact ⟨h3, by simp only; omega⟩
end Go.Proofs.YtdkcpcflfnakdaaGreat
namespace Go.Proofs.YtdkcpcflfnakdaaGreat
open Go Go.Proofs.YtdkcpcflfnakdaaGreat.Sym
set_option maxRecDepth 100000
set_option maxHeartbeats 1000000
theorem qvt (n : Nat) (m : Bk) (o : Opb) (now most : Int) (h : q24 n m) (hn : n ≤ 700000) :
 q08 P 66 [q0n m, o.av, u64 now, i64 most] (fun x => x = .tup [q0n (q2a m o now most), .sl 7 (chgs (q32 m o now most)), i64 (q1t m o now most).2]) := by
 refine q09 tyOk Tryz.func66 rfl rfl fun K hK => ?_
 simp only [seval, go_sem, Tryz.ntmps66]
 obtain ⟨hw1, hw2⟩ := qgd h o.u
 have hlv := qep hw1 now
 have hll : (lives now (q0o m o.u).l).length ≤ (q0o m o.u).l.length := z1n _ _
 have hok := qge h o now most
 have hml := h.2.1
 simp only [seval, go_sem, q0n, Opb.av]
 (refine q00 (qjn m o.u h.1 (by omega)) rfl ?_; rintro _ rfl)
 simp only [seval, go_sem]
 (refine q00 (qku (q0o m o.u).l now (by omega)) rfl ?_; rintro _ rfl)
 simp only [seval, go_sem]
 (refine q00 (qiy now o.ttl) rfl ?_; rintro _ rfl)
 simp only [seval, go_sem]
 refine q02 ?_ ?_ <;> intro h1
 · have k1 : o.kind = 1 := by simpa using h1
   obtain ⟨⟨L, e⟩, hL⟩ : ∃ r, q1t m o now most = r := ⟨_, rfl⟩
   have hS := sess_Set (lives now (q0o m o.u).l) ⟨o.id, o.st, o.pr, addW now o.ttl⟩ most hlv (by omega)
   have e1 : setF (lives now (q0o m o.u).l) ⟨o.id, o.st, o.pr, addW now o.ttl⟩ most = (L, e) := by rw [← hL, q1t]; simp only [k1, if_true]
   rw [e1] at hS
   rw [hL] at hok hK
   simp only at hok
   simp only [seval, go_sem]
   (refine q00 hS rfl ?_; rintro _ rfl)
   simp only [seval, go_sem]
   (refine q00 (q7n m o.u L now h.1 (by omega) (by omega)) rfl ?_; rintro _ rfl)
   simp only [seval, go_sem, q0n]
   apply hK
   simp only [seval, go_sem, Tryz.results66]
   rw [q2a, q32, hL]
   try rfl
 · have k1 : ¬ o.kind = 1 := by simpa using h1
   simp only [seval, go_sem]
   refine q02 ?_ ?_ <;> intro h2
   · have k2 : o.kind = 2 := by simpa using h2
     obtain ⟨⟨L, e⟩, hL⟩ : ∃ r, q1t m o now most = r := ⟨_, rfl⟩
     have hS := qyj (lives now (q0o m o.u).l) o.id (addW now o.ttl) hlv (by omega)
     have e1 : q7v (lives now (q0o m o.u).l) o.id (addW now o.ttl) = (L, e) := by rw [← hL, q1t]; simp only [if_neg k1, if_pos k2]
     rw [e1] at hS
     rw [hL] at hok hK
     simp only at hok
     simp only [seval, go_sem]
     (refine q00 hS rfl ?_; rintro _ rfl)
     simp only [seval, go_sem]
     (refine q00 (q7n m o.u L now h.1 (by omega) (by omega)) rfl ?_; rintro _ rfl)
     simp only [seval, go_sem, q0n]
     apply hK
     simp only [seval, go_sem, Tryz.results66]
     rw [q2a, q32, hL]
     try rfl
   · have k2 : ¬ o.kind = 2 := by simpa using h2
     simp only [seval, go_sem]
     refine q02 ?_ ?_ <;> intro h3
     · have k3 : o.kind = 3 := by simpa using h3
       obtain ⟨⟨L, e⟩, hL⟩ : ∃ r, q1t m o now most = r := ⟨_, rfl⟩
       have hS := qu8 (lives now (q0o m o.u).l) o.id hlv (by omega)
       have e1 : (clear (lives now (q0o m o.u).l) o.id, if has (lives now (q0o m o.u).l) o.id = true then (0 : Int) else 3) = (L, e) := by rw [← hL, q1t]; simp only [if_neg k1, if_neg k2, if_pos k3]
       have e2 := congrArg Prod.fst e1
       have e3 := congrArg Prod.snd e1
       simp only at e2 e3
       rw [e2, e3] at hS
       rw [hL] at hok hK
       simp only at hok
       simp only [seval, go_sem]
       (refine q00 hS rfl ?_; rintro _ rfl)
       simp only [seval, go_sem]
       (refine q00 (q7n m o.u L now h.1 (by omega) (by omega)) rfl ?_; rintro _ rfl)
       simp only [seval, go_sem, q0n]
       apply hK
       simp only [seval, go_sem, Tryz.results66]
       rw [q2a, q32, hL]
       try rfl
     · have k3 : ¬ o.kind = 3 := by simpa using h3
       obtain ⟨⟨L, e⟩, hL⟩ : ∃ r, q1t m o now most = r := ⟨_, rfl⟩
       have e1 : (lives now (q0o m o.u).l, (0 : Int)) = (L, e) := by rw [← hL, q1t]; simp only [if_neg k1, if_neg k2, if_neg k3]
       have e2 := congrArg Prod.fst e1
       have e3 := congrArg Prod.snd e1
       simp only at e2 e3
       rw [hL] at hok hK
       simp only at hok
       rw [e2]
       rw [← e3] at hK
       rw [← e3] at hL
       simp only [seval, go_sem]
       (refine q00 (q7n m o.u L now h.1 (by omega) (by omega)) rfl ?_; rintro _ rfl)
       simp only [seval, go_sem, q0n]
       apply hK
       simp only [seval, go_sem, Tryz.results66]
       rw [q2a, q32, hL]
       try rfl
def q5f (now : Int) (s : Bk × List Chg) (p : ByteArray × En) : Bk × List Chg :=
 (q27 s.1 p.1 (lives now p.2.l) now, s.2 ++ q3u s.1 p.1 (lives now p.2.l) now)
def q21 (m : Bk) (now : Int) : Bk × List Chg := m.foldl (q5f now) (m, [])
def q14 (m : Bk) (now : Int) (i : Nat) : Bk × List Chg := (m.take i).foldl (q5f now) (m, [])
theorem qbd {m : Bk} {now : Int} {i : Nat} (h : i < m.length) : q14 m now (i + 1) = q5f now (q14 m now i) m[i] := by
 rw [q14, q12 h, z3k]; rfl
theorem qfd {m : Bk} (h : q1o m) (u : ByteArray) (l : List Ses) (now : Int) : q1o (q27 m u l now) ∧ (q27 m u l now).length ≤ m.length + 1 := by
 unfold q27
 split
 · exact ⟨qfi ordS q0t h _, z2q (qii _ _)⟩
 · exact ⟨qlb ordS q0t h _ _, qj2 _ _ _⟩
theorem qac (m : Bk) (u : ByteArray) (l : List Ses) (now : Int) : (q3u m u l now).length ≤ 1 := by
 unfold q3u; split <;> simp
theorem q83 {m : Bk} (h : q1o m) (now : Int) : ∀ i, q1o (q14 m now i).1 ∧ (q14 m now i).1.length ≤ m.length + i ∧ (q14 m now i).2.length ≤ i := by
 intro i
 induction i with
 | zero => exact ⟨h, z09 _, z09 _⟩
 | succ i ih =>
  by_cases hi : i < m.length
  · rw [qbd hi]
    have h1 := qfd ih.1 m[i].1 (lives now m[i].2.l) now
    have h2 := qac (q14 m now i).1 m[i].1 (lives now m[i].2.l) now
    refine ⟨h1.1, ?_, ?_⟩
    · have := h1.2; simp only [q5f]; omega
    · simp only [q5f, z0c]; omega
  · have e : q14 m now (i + 1) = q14 m now i := by
     rw [q14, q14, z07 (by omega), z07 (by omega)]
    rw [e]
    exact ⟨ih.1, by omega, by omega⟩
abbrev ebox (m : Bk) : AB := .box [.sl 1 (m.map fun p => str p.1), .sl 4 (m.map fun p => En.av p.2)]
theorem quy (n : Nat) (m : Bk) (now : Int) (h : q24 n m) (hn : n ≤ 200000) :
 q08 P 63 [q0n m, u64 now] (fun x => x = .tup [q0n (q21 m now).1, .sl 7 (chgs (q21 m now).2)]) := by
 refine qgj tyOk Tryz.func63 rfl rfl fun K hK => ?_
 simp only [seval, go_sem, Tryz.ntmps63]
 have hall := qid m
 unfold q0n at hall
 have hml := h.2.1
 simp only [seval, go_sem, q0n]
 (refine q00 hall rfl ?_; rintro _ rfl)
 simp only [seval, go_sem]
 refine qkt (q0c.adoptIn (b := 3) (c := 0) 163 7 rfl rfl) ?_
 refine q91 tyOk (seq_se m (by omega)) (α := Nat) 5 6 [2, 3, 4, 6, 7] ([.any, .any, .ptr 0 0, .ptr 1 0, .ptr 2 0, .any, .ptr 3 0, .ptr 4 0, .any, .any, .any, .any, .any, .any, .any, .any, .any, .any, .any, .any, .any, .any, .any, .any, .any, .any, .any, .any, .any, .any, .any, .any]) (fun xs i => i = xs.length ∧ i ≤ m.length)
  (fun i => [ebox m, .box [u64 now], .box [.v (.slice none 0 0), .v (.slice none 0 0)], .box [.own 5 7 0 (q14 m now i).2.length], ebox (q14 m now i).1, .row 163 7 (chgs (q14 m now i).2)]) 0 rfl rfl
  (fun x hx => by simp only [q3h, z1b] at hx; obtain ⟨p, _, rfl⟩ := hx; rfl) (z00 _) (by decide) (by rfl) ⟨rfl, z00 _⟩ rfl ?_ ?_
 · rintro xs x _ hpre ⟨rfl, hle⟩
   obtain ⟨hi, _, rfl⟩ := q7k hpre
   have hs := q83 h.1 now xs.length
   have hs2 := q83 h.1 now (xs.length + 1)
   have hnx := qbd (now := now) hi
   have hel := (h.2.2 _ (z1i hi)).2
   have ev0 : En.av m[xs.length].2 = .agg [.sl 4 (avs m[xs.length].2.l), i64 m[xs.length].2.t.st, i64 m[xs.length].2.t.pr, i64 m[xs.length].2.t.n] := rfl
   obtain ⟨s, hO⟩ : ∃ s, q14 m now xs.length = s := ⟨_, rfl⟩
   rw [hO] at hnx hs
   rw [hnx] at hs2
   simp only [hO]
   generalize m[xs.length] = p at *
   have hll : (lives now p.2.l).length ≤ p.2.l.length := z1n _ _
   have hst := q7n s.1 p.1 (lives now p.2.l) now hs.1 (by omega) (by omega)
   have hcl := qac s.1 p.1 (lives now p.2.l) now
   unfold q0n at hst
   simp only [seval, go_sem, ev0]
   refine q0a tyOk (by rfl) (by simp only [z02, z0a, Nat.reduceAdd, Nat.reduceLeDiff]) (by kernel_rfl) rfl ?_
   simp only [seval, go_sem]
   refine q16 (qku p.2.l now (by omega)) rfl ?_
   simp only [seval, go_sem]
   refine q16 hst rfl ?_
   simp only [seval, go_sem]
   refine ⟨by kernel_rfl, ?_⟩
   simp only [seval, go_sem, q5s]
   refine ⟨⟨by simp only [maxLen]; omega, by omega⟩, ?_⟩
   simp only [seval, go_sem, q3b]
   refine ⟨xs.length + 1, ⟨by first | rfl | simp, by omega⟩, ?_⟩
   rw [hnx]
   simp only [q5f, z0c, chgs, z12]
 · rintro _ ⟨rfl, hle⟩
   have e1 : (q3h m).length = m.length := by simp [q3h]
   have e2 : q14 m now m.length = q21 m now := by rw [q14, z0w, q21]
   rw [e1, e2]
   simp only [seval, go_sem]
   refine q0a tyOk (by rfl) (by simp only [z02, z0a, Nat.reduceAdd, z00]) (by kernel_rfl) rfl ?_
   simp only [seval, go_sem]
   refine ⟨by kernel_rfl, ?_⟩
   apply hK
   simp only [Tryz.results63, retK, ares, z1k, z0t, z0z, AV.ofResults, St.trunc, q06, q0e, q50, q42, T, TI.isAgg, z0u, z0v, z13, z0y, z17, z0o, z01, z03, z02, z0a, Nat.reduceAdd, Nat.reduceLeDiff, z09, true_and, and_true, ↓reduceIte, z0h, exists_eq_left']
   rw [q1b (q5s _)]
   try rfl
end Go.Proofs.YtdkcpcflfnakdaaGreat
namespace Go.Proofs.YtdkcpcflfnakdaaGreat
open Go Go.Proofs.YtdkcpcflfnakdaaGreat.Sym
set_option maxRecDepth 100000
set_option maxHeartbeats 1000000
section
variable {α β : Type} {lt eq : α → α → Bool}
theorem qmq (O : StrictOrd lt) {A D : List (α × β)} {k : α} {x : β} (h : q3p lt (A ++ (k, x) :: D)) :
 (∀ p ∈ A, lt p.1 k = true ∧ lt k p.1 = false) ∧ (∀ p ∈ D, lt k p.1 = true ∧ lt p.1 k = false) := by
 have hp := z2e.1 (q2r.1 h)
 have hc := z2f.1 hp.2.1
 have anti : ∀ a b, lt a b = true → lt b a = false := fun a b hab => by
  cases hb : lt b a with
  | false => rfl
  | true => have := O.trans _ _ _ hab hb; rw [O.irrefl] at this; cases this
 exact ⟨fun p hpA => by have := hp.2.2 p hpA (k, x) z3b; exact ⟨this, anti _ _ this⟩, fun p hpD => ⟨hc.1 p hpD, anti _ _ (hc.1 p hpD)⟩⟩
theorem with_mid (O : StrictOrd lt) (he : ∀ a b, eq a b = true ↔ a = b) {A D : List (α × β)} {k : α} {x : β} (v : β) (h : q3p lt (A ++ (k, x) :: D)) :
 q2p lt eq (A ++ (k, x) :: D) k v = A ++ (k, v) :: D := by
 obtain ⟨hA, hD⟩ := qmq O h
 rw [qdt O he h, z2n, z2n, z1p, z1p, O.irrefl, q3l (fun p hp => (hA p hp).1), q8h (l := D) (fun p hp => (hD p hp).2),
  q8h (l := A) (fun p hp => (hA p hp).2), q3l (fun p hp => (hD p hp).1)]
 simp
theorem qrx (O : StrictOrd lt) (he : ∀ a b, eq a b = true ↔ a = b) {A D : List (α × β)} {k : α} {x : β} (h : q3p lt (A ++ (k, x) :: D)) :
 q1l lt eq (A ++ (k, x) :: D) k = A ++ D := by
 obtain ⟨hA, hD⟩ := qmq O h
 have ne : ∀ a b, (lt a b = true ∨ lt b a = true) → eq a b = false := fun a b hab => by
  cases hb : eq a b with
  | false => rfl
  | true =>
   have := (he _ _).1 hb
   subst this
   rw [O.irrefl] at hab; simp at hab
 rw [q5r O he h, z2n, z1p, q3l (l := A) (fun p hp => by rw [ne _ _ (.inl (hA p hp).1)]; rfl), q3l (l := D) (fun p hp => by rw [ne _ _ (.inr (hD p hp).1)]; rfl), (he k k).2 rfl]
 simp
end
def qcd (now : Int) (p : ByteArray × En) : Option (ByteArray × En) := if (lives now p.2.l).length = 0 then none else some (p.1, ⟨lives now p.2.l, ofP (lives now p.2.l) now⟩)
theorem qv6 {m : Bk} (h : q1o m) (now : Int) : ∀ i, (q14 m now i).1 = (m.take i).filterMap (qcd now) ++ m.drop i := by
 intro i
 induction i with
 | zero => rfl
 | succ i ih =>
  by_cases hi : i < m.length
  · have hr := (q83 h now i).1
    rw [ih, z2i hi] at hr
    rw [qbd hi, q5f, ih, q12 hi, List.filterMap_append, z2i hi]
    simp only
    generalize (m.take i).filterMap (qcd now) = A at hr ⊢
    generalize m.drop (i + 1) = D at hr ⊢
    generalize m[i] = p at hr ⊢
    obtain ⟨k, e⟩ := p
    unfold q27
    by_cases hl : (lives now e.l).length = 0
    · rw [if_pos hl, qrx ordS q0t hr]
      simp [qcd, hl]
    · rw [if_neg hl, with_mid ordS q0t _ hr]
      simp [qcd, hl]
  · have e : q14 m now (i + 1) = q14 m now i := by
     rw [q14, q14, z07 (by omega), z07 (by omega)]
    rw [e, ih, z07 (by omega), z07 (l := m) (by omega), z14 (by omega), z14 (by omega)]
theorem qyf {m : Bk} (h : q1o m) (now : Int) : (q21 m now).1 = m.filterMap (qcd now) := by
 have := qv6 h now m.length
 rw [z0w, List.drop_length, z0i] at this
 rw [← this, q14, z0w, q21]
theorem qy3 {m : Bk} {now : Int} {p : ByteArray × En} (h : p ∈ m.filterMap (qcd now)) : ∃ q ∈ m, p = (q.1, ⟨lives now q.2.l, ofP (lives now q.2.l) now⟩) ∧ (lives now q.2.l).length ≠ 0 := by
 obtain ⟨q, hq, he⟩ := List.mem_filterMap.1 h
 unfold qcd at he
 split at he
 · cases he
 · rename_i hn; cases he; exact ⟨q, hq, rfl, hn⟩
theorem qf2 {n : Nat} {m : Bk} (h : q24 n m) (now : Int) : q24 n (q21 m now).1 := by
 have e := qyf h.1 now
 have hr := (q83 h.1 now m.length).1
 rw [show q14 m now m.length = q21 m now by rw [q14, z0w, q21]] at hr
 refine ⟨hr, ?_, ?_⟩
 · rw [e]; exact z1f (List.length_filterMap_le _ _) h.2.1
 · intro p hp
   rw [e] at hp
   obtain ⟨q, hq, rfl, _⟩ := qy3 hp
   have := h.2.2 q hq
   exact ⟨qep this.1 now, z1f (z1n _ _) this.2⟩
theorem qwa {m : Bk} (hr : q1o m) {u : ByteArray} {l : List Ses} {now : Int} {p : ByteArray × En} (h : p ∈ q27 m u l now) : p ∈ m ∨ (p = (u, ⟨l, ofP l now⟩) ∧ l.length ≠ 0) := by
 unfold q27 at h
 split at h
 · rw [q5r ordS q0t hr] at h
   exact .inl (z1v.1 h).1
 · rename_i hn
   rcases (qcf ordS q0t hr).1 h with h | h
   · exact .inr ⟨h, hn⟩
   · exact .inl h.1
theorem qf7 {n : Nat} {m : Bk} (h : q24 n m) (o : Opb) (now most : Int) : q24 (n + 1) (q2a m o now most) := by
 have hs := qfd h.1 o.u (q1t m o now most).1 now
 refine ⟨hs.1, z1f hs.2 (by have := h.2.1; omega), ?_⟩
 intro p hp
 rcases qwa h.1 hp with hp | ⟨rfl, _⟩
 · have := h.2.2 p hp; exact ⟨this.1, by omega⟩
 · exact qge h o now most
theorem q24.mono {n k : Nat} {m : Bk} (h : q24 n m) (hk : n ≤ k) : q24 k m := ⟨h.1, z1f h.2.1 hk, fun p hp => ⟨(h.2.2 p hp).1, z1f (h.2.2 p hp).2 hk⟩⟩
structure ActB where
 sw : Bool
 op : Opb
 by_ : Int
def ActB.av (a : ActB) : AV := .agg [bool a.sw, i64 a.op.kind, str a.op.u, i64 a.op.id, i64 a.op.st, i64 a.op.pr, u64 a.op.ttl, .sl 1 (a.op.us.map fun x => str x), u64 a.by_]
theorem nil_se : weak (.agg [.v (.slice none 0 0), .v (.slice none 0 0)]) (q0n []) := .inr ⟨_, rfl, _, _, rfl, q1j 1, _, _, rfl, q1j 4, rfl⟩
end Go.Proofs.YtdkcpcflfnakdaaGreat
namespace Go.Proofs.YtdkcpcflfnakdaaGreat
open Go Go.Proofs.YtdkcpcflfnakdaaGreat.Sym
set_option maxRecDepth 100000
set_option maxHeartbeats 1000000
abbrev u32 (n : Int) : AV := .v (.int .u32 n)
theorem qgh (xs : List AV) (hlen : xs.length ≤ 1000000) :
 ACall P 105 [] [.sl 1 xs] (fun x m' => x = .own 0 1 0 xs.length ∧ m' = [.row 130 1 xs]) := by
 have hm : xs.length ≤ maxLen := by simp only [maxLen]; omega
 have hby : xs.length * 4 ≤ 140737488355328 := by omega
 by_cases h0 : xs = []
 · subst h0
   refine ACall.empty fun a cap => ?_
   cases a with
   | none =>
    refine ACall.weaken (K := fun x m' => x = .v (.slice none 0 0) ∧ m' = []) (q0j.toA (q1f tyOk Tryz.func105 rfl rfl (N := 0) (M := 1) (z00 _) (by simp) ?_)) ?_
    · intro K hK
      simp only [seval, go_sem, Tryz.ntmps105]
      apply hK
      simp only [seval, go_sem, Tryz.results105]
    · rintro x m' ⟨rfl, rfl⟩
      exact ⟨_, _, q0c.adopt (i := 0) 130 1 rfl, rfl, rfl⟩
   | some a =>
    refine q0j.toA (q1f tyOk Tryz.func105 rfl rfl (N := 0) (M := 1) (z00 _) (by simp) ?_)
    intro K hK
    simp only [seval, go_sem, Tryz.ntmps105]
    apply hK
    simp only [seval, go_sem, Tryz.results105]
 · have hpos : 0 < xs.length := z3y.2 h0
   refine q0j.toA (q1f tyOk Tryz.func105 rfl rfl (N := 0) (M := 1) (z00 _) (by simp) ?_)
   intro K hK
   simp only [seval, go_sem, Tryz.ntmps105, hpos]
   refine ⟨⟨hm, hby⟩, ?_⟩
   apply hK
   simp only [seval, go_sem, Tryz.results105]
theorem qvr (xs : List AV) (i : Nat) (hi : i < xs.length) (hlen : xs.length ≤ 1000000) :
 ACall P 104 [.row 130 1 xs] [.own 0 1 0 xs.length, i64 (i : Int), i64 ((i + 1 : Nat) : Int)] (fun x m' => x = .own 0 1 0 (xs.length - 1) ∧ m' = [.row 130 1 (xs.take i ++ xs.drop (i + 1) ++ [u32 0])]) := by
 refine ACall.weaken (K := fun x m' => x = .own 0 1 0 (xs.length - 1) ∧ ∃ N, m' = [.rowc 130 1 (xs.take i ++ xs.drop (i + 1) ++ [u32 0]) N]) (q0j.toA (m := [_]) (q0j.room (by decide) fun N hN _ => ?_)) ?_
 · refine q3a tyOk Tryz.func104 rfl rfl (by simp) fun K hK => ?_
   simp only [seval, go_sem, Tryz.ntmps104]
   have f1 : ((i : Int) == ((i + 1 : Nat) : Int)) = false := by simp; omega
   simp only [seval, go_sem, z0g, f1]
   refine ⟨by omega, ?_⟩
   by_cases he : i + 1 = xs.length
   · have e1 : (xs.take i ++ xs.drop i).length = xs.length := by rw [z1o]
     have e2 : ((xs.take i ++ xs.drop i).take i ++ List.replicate (xs.length - i) (u32 0)) ++ (xs.take i ++ xs.drop i).drop (i + (xs.length - i)) = xs.take i ++ xs.drop (i + 1) ++ [u32 0] := by
      rw [z1o, z14 (by omega), z14 (by omega), show xs.length - i = 1 by omega, z0i, z0i]
      rfl
     have hni : ¬ i = xs.length := by omega
     refine q0a tyOk (by rfl) (by simp only [z02, z0a, Nat.reduceAdd, z09]) (by kernel_rfl) rfl ?_
     simp only [seval, go_sem, z0g, he]
     refine ⟨by omega, by omega, by omega, ?_⟩
     refine ⟨by kernel_rfl, ?_⟩
     simp only [seval, go_sem, hni, e1]
     refine ⟨by omega, by omega, ?_⟩
     apply hK
     simp only [seval, go_sem, Tryz.results104]
     simp only [e2]
     all_goals exact ⟨by congr 1; omega, N, rfl⟩
   · have hd : (xs.drop (i + 1)).length = xs.length - (i + 1) := by simp
     have ht : (xs.drop (i + 1)).take (xs.length - (i + 1)) = xs.drop (i + 1) := z07 (by simp)
     have hni : ¬ i + (xs.length - (i + 1)) = xs.length := by omega
     have e1 : (xs.take i ++ xs.drop (i + 1) ++ xs.drop (i + (xs.length - (i + 1)))).length = xs.length := by simp; omega
     have e2 : (xs.take i ++ xs.drop (i + 1) ++ xs.drop (i + (xs.length - (i + 1)))).take (i + (xs.length - (i + 1))) ++ List.replicate (xs.length - (i + (xs.length - (i + 1)))) (u32 0) ++
      (xs.take i ++ xs.drop (i + 1) ++ xs.drop (i + (xs.length - (i + 1)))).drop (i + (xs.length - (i + 1)) + (xs.length - (i + (xs.length - (i + 1))))) = xs.take i ++ xs.drop (i + 1) ++ [u32 0] := by
      rw [show xs.length - (i + (xs.length - (i + 1))) = 1 by omega, z14 (l := xs.take i ++ xs.drop (i + 1) ++ xs.drop (i + (xs.length - (i + 1)))) (by rw [e1]; omega), z0i,
       z0x (by simp; omega), z07 (by simp; omega)]
      rfl
     refine q0a tyOk (by rfl) (by simp only [z02, z0a, Nat.reduceAdd, z09]) (by kernel_rfl) rfl ?_
     simp only [seval, go_sem, z0g, he, ht, hd]
     refine ⟨by omega, by omega, by omega, ?_⟩
     refine ⟨by kernel_rfl, ?_⟩
     simp only [seval, go_sem, hni, e1]
     refine ⟨by omega, by omega, ?_⟩
     apply hK
     simp only [seval, go_sem, Tryz.results104]
     simp only [e2]
     all_goals exact ⟨by congr 1; omega, N, rfl⟩
 · rintro x m' ⟨rfl, N, rfl⟩
   exact ⟨_, _, q0c.unroom, rfl, rfl⟩
theorem quu (xs : List AV) (v : AV) (i : Nat) (hi : i ≤ xs.length) (hlen : xs.length ≤ 1000000) :
 q0r P (fun _ => false) 107 [.row 130 1 xs] [.own 0 1 0 xs.length, i64 (i : Int), .sl 1 [v]] (fun x m' => x = .own 0 1 0 (xs.length + 1) ∧ m' = [.row 130 1 (xs.take i ++ [v] ++ xs.drop i)]) := by
 refine q0j.relocate (q0j.room (by decide) fun N hN _ => q1f tyOk Tryz.func107 rfl rfl (N := 0) (M := 2) (z00 _) (by simp) ?_)
 intro K hK
 simp only [seval, go_sem, -Int.reduceNatCast, -Int.reduceNatCast', -Nat.reduceSubDiff, Tryz.ntmps107]
 have w1 : IntKind.i64.wrap ((xs.length : Int) + ((1 : Nat) : Int)) = ((xs.length + 1 : Nat) : Int) := by rw [wrap_i64 (by omega) (by omega)]; rfl
 have w2 : IntKind.i64.wrap ((i : Int) + ((1 : Nat) : Int)) = ((i + 1 : Nat) : Int) := by rw [wrap_i64 (by omega) (by omega)]; rfl
 have w3 : IntKind.i64.wrap (((xs.length + 1 : Nat) : Int) - (i : Int)) = ((xs.length + 1 - i : Nat) : Int) := by rw [wrap_i64 (by omega) (by omega)]; omega
 have c1 : (((1 : Nat) : Int) == 0) = false := by decide
 by_cases hin : i = xs.length
 · subst hin
   simp only [seval, go_sem, -Int.reduceNatCast, -Int.reduceNatCast', -Nat.reduceSubDiff, z0g, c1]
   refine ⟨by omega, ?_⟩
   by_cases hr : xs.length + 1 ≤ N
   · simp only [seval, go_sem, -Int.reduceNatCast, -Int.reduceNatCast', -Nat.reduceSubDiff, hr]
     apply hK
     simp only [seval, go_sem, -Int.reduceNatCast, -Int.reduceNatCast', -Nat.reduceSubDiff, Tryz.results107, retK, ares, z1k, z0y, z0o, z0r, true_and, and_true, AV.ofResults, St.trunc, q06, q0e, AB.trunc, z0h, exists_eq_left']
     all_goals exact .inl ⟨N, [], by simp⟩
   · simp only [seval, go_sem, -Int.reduceNatCast, -Int.reduceNatCast', -Nat.reduceSubDiff, hr]
     refine ⟨⟨by simp only [maxLen]; omega, by omega⟩, ?_⟩
     apply hK
     simp only [seval, go_sem, -Int.reduceNatCast, -Int.reduceNatCast', -Nat.reduceSubDiff, Tryz.results107, retK, ares, z1k, z0y, z0o, z0r, true_and, and_true, AV.ofResults, St.trunc, q06, q0e, AB.trunc, z0h, exists_eq_left']
     all_goals exact .inr (by simp)
 · have hlt : i < xs.length := by omega
   have c2 : ((i : Int) == (xs.length : Int)) = false := by simp; omega
   by_cases hr : xs.length + 1 ≤ N
   · have d1 : decide ((N : Int) < ((xs.length + 1 : Nat) : Int)) = false := decide_eq_false (by omega)
     have n1 : ¬ i + 1 = xs.length + 1 := by omega
     have n2 : ¬ i = xs.length + 1 := by omega
     simp only [seval, go_sem, -Int.reduceNatCast, -Int.reduceNatCast', -Nat.reduceSubDiff, z0g, c1, c2, w1, w2, z3s, d1, hin, n1]
     refine ⟨by omega, by omega, by omega, ?_⟩
     refine q44 ?_
     simp only [seval, go_sem, -Int.reduceNatCast, -Int.reduceNatCast', -Nat.reduceSubDiff]
     refine qcn (q6v (tS := 120) (tR := 4) (e := 130) tyOk Tryz.func126 rfl rfl (by kernel_rfl) (by kernel_rfl) rfl rfl rfl (by decide) rfl rfl) ?_
     simp only [seval, go_sem, -Int.reduceNatCast, -Int.reduceNatCast', -Nat.reduceSubDiff]
     have ek : (xs.drop i).take (min (xs.length + 1 - (i + 1)) (xs.length + 1 - i)) = xs.drop i := z07 (by simp; omega)
     refine q0a tyOk (by rfl) (by simp only [z02, z0a, Nat.reduceAdd, z00]) (by kernel_rfl) rfl ?_
     simp only [seval, go_sem, -Int.reduceNatCast, -Int.reduceNatCast', -Nat.reduceSubDiff, z0g, w2, n1, n2, ek]
     refine ⟨by omega, by omega, by omega, ?_⟩
     refine ⟨by kernel_rfl, ?_⟩
     have es : List.take (xs.length + 1 - i) [v] = [v] := z07 (by simp; omega)
     have e3 : (xs.take (i + 1) ++ xs.drop i ++ xs.drop (i + 1 + (xs.drop i).length)).take i ++ [v] ++ (xs.take (i + 1) ++ xs.drop i ++ xs.drop (i + 1 + (xs.drop i).length)).drop (i + 1) = xs.take i ++ [v] ++ xs.drop i := by
      have hl : (xs.take (i + 1)).length = i + 1 := by simp; omega
      have hd : xs.drop (i + 1 + (xs.drop i).length) = [] := z14 (by simp; omega)
      rw [hd, z0i, z0x (by omega), z3q, z3z (by omega),
       z3o (by omega), z14 (by omega), z21]
     simp only [seval, go_sem, -Int.reduceNatCast, -Int.reduceNatCast', -Nat.reduceSubDiff, es]
     refine ⟨by omega, ⟨by omega, by simp; omega⟩, ?_⟩
     apply hK
     simp only [seval, go_sem, -Int.reduceNatCast, -Int.reduceNatCast', -Nat.reduceSubDiff, Tryz.results107, retK, ares, z1k, z0y, z0o, z0r, true_and, and_true, AV.ofResults, St.trunc, q06, q0e, AB.trunc, z0h, exists_eq_left']
     all_goals exact .inl ⟨N, [], by rw [e3, z0i]⟩
   · have d1 : decide ((N : Int) < ((xs.length + 1 : Nat) : Int)) = true := decide_eq_true (by omega)
     have g1 : ¬ i + (xs.length + 1 - i) ≤ N := by omega
     have g2 : ¬ i = i + (xs.length + 1 - i) := by omega
     have g3 : ¬ i + 1 = i + (xs.length + 1 - i) := by omega
     have g4 : List.take (i + (xs.length + 1 - i) - i) [v] = [v] := z07 (by simp; omega)
     have g5 : (xs.drop i).take (min (i + (xs.length + 1 - i) - (i + 1)) (xs.length - i)) = xs.drop i := z07 (by simp; omega)
     simp only [seval, go_sem, -Int.reduceNatCast, -Int.reduceNatCast', -Nat.reduceSubDiff, z0g, c1, c2, w1, w3, z3s, d1, hin, g1, g2, g4]
     refine ⟨by omega, by omega, ⟨by omega, by omega, by omega, by omega, by simp only [maxLen]; omega, by omega⟩, by omega, ⟨by omega, by simp; omega⟩, ?_⟩
     refine q0a tyOk (by rfl) (by simp only [z02, z0a, Nat.reduceAdd, z00]) (by kernel_rfl) rfl ?_
     simp only [seval, go_sem, -Int.reduceNatCast, -Int.reduceNatCast', -Nat.reduceSubDiff, z0g, w2, g3, g5, hin]
     have hB : (xs.take i ++ List.replicate (xs.length + 1 - i) (u32 0)).take i = xs.take i := by
      rw [z0x (by simp; omega), z3q, z5o]
     have hli : (xs.take i).length = i := by simp; omega
     rw [hB]
     refine ⟨by omega, by omega, ⟨by omega, by omega, by simp; omega⟩, ?_⟩
     refine ⟨by kernel_rfl, ?_⟩
     apply hK
     simp only [seval, go_sem, -Int.reduceNatCast, -Int.reduceNatCast', -Nat.reduceSubDiff, Tryz.results107, retK, ares, z1k, z0y, z0o, z0r, and_true, AV.ofResults, St.trunc, q06, q0e, AB.trunc, z0h, exists_eq_left']
     have e4 : ∀ D : List AV, (xs.take i ++ [v] ++ D).take (i + 1) = xs.take i ++ [v] := fun D => by
      rw [z0x (by simp; omega), z07 (by simp; omega)]
     have e5 : (xs.take i ++ [v] ++ (xs.take i ++ List.replicate (xs.length + 1 - i) (u32 0)).drop (i + 1)).drop (i + 1 + (xs.drop i).length) = [] := z14 (by simp; omega)
     refine .inr ?_
     rw [e4, e5, z0i]
     exact ⟨by congr 1; omega, rfl⟩
def q34 (m : List (ByteArray × Int)) : AV := .agg [.sl 1 (m.map fun p => str p.1), .sl 1 (m.map fun p => u32 p.2)]
abbrev q33 (m : List (ByteArray × Int)) : Prop := q3p ltS m
theorem qly (m : List (ByteArray × Int)) (k : ByteArray) (hr : q33 m) (hlen : m.length ≤ 1000000) :
 q08 P 101 [q34 m, str k] (fun x => x = .tup [i64 ((lb ltS (m.map Prod.fst) k : Nat) : Int), bool (q1q ltS eqS (m.map Prod.fst) k)]) := by
 refine q09 tyOk Tryz.func101 rfl rfl fun K hK => ?_
 simp only [seval, go_sem, Tryz.ntmps101]
 have em : (m.map fun p => str p.1) = (m.map Prod.fst).map fun x => str x := by rw [z3f]; rfl
 simp only [seval, go_sem, q34, em]
 (refine q00 (qk7 (m.map Prod.fst) hr k (by rw [z0f]; exact hlen)) rfl ?_; rintro _ rfl)
 simp only [seval, go_sem]
 apply hK
 simp only [seval, go_sem, Tryz.results101]
theorem qgi {m : List (ByteArray × Int)} {k : ByteArray} (h : q1q ltS eqS (m.map Prod.fst) k = true) : lb ltS (m.map Prod.fst) k < m.length := by
 apply z2k
 intro hc
 rw [q88 (by rw [z0f]; omega)] at h
 cases h
theorem qpj (m : List (ByteArray × Int)) (k : ByteArray) (v : Int) (hr : q33 m) (hlen : m.length ≤ 900000) :
 q08 P 76 [q34 m, str k, u32 v] (fun x => x = q34 (q2p ltS eqS m k v)) := by
 refine q09 tyOk Tryz.func76 rfl rfl fun K hK => ?_
 simp only [seval, go_sem, Tryz.ntmps76]
 have hfind := qly m k hr (by omega)
 unfold q34 at hfind
 simp only [seval, go_sem, q34]
 (refine q00 hfind rfl ?_; rintro _ rfl)
 unfold q2p at hK
 have lm1 : (m.map fun p => str p.1).length ≤ 1000000 := by rw [z0f]; omega
 have lm2 : (m.map fun p => u32 p.2).length ≤ 1000000 := by rw [z0f]; omega
 have hle : lb ltS (m.map Prod.fst) k ≤ m.length := by have := qcw (lt := ltS) (m.map Prod.fst) k; rwa [z0f] at this
 cases hh : q1q ltS eqS (m.map Prod.fst) k
 · rw [hh] at hK
   simp only [seval, go_sem]
   refine q0a tyOk (by rfl) (by simp only [z02, z0a, Nat.reduceAdd, z00]) (by kernel_rfl) rfl ?_
   simp only [seval, go_sem]
   refine q2n (qd3 _ lm1) rfl rfl ?_
   simp only [seval, go_sem]
   refine q8z (qko _ (str k) (lb ltS (m.map Prod.fst) k) (by rw [z0f]; exact hle) lm1) 2 (by decide) rfl rfl rfl rfl ?_
   simp only [seval, go_sem]
   refine q2n (qgh _ lm2) rfl rfl ?_
   simp only [seval, go_sem]
   refine q8z (quu _ (u32 v) (lb ltS (m.map Prod.fst) k) (by rw [z0f]; exact hle) lm2) 3 (by decide) rfl rfl rfl rfl ?_
   simp only [seval, go_sem]
   refine ⟨by kernel_rfl, ?_⟩
   apply hK
   simp only [Tryz.results76, retK, ares, z1k, z0t, z0z, AV.ofResults, St.trunc, q06, q0e, q50, q42, T, TI.isAgg, z0u, z0v, z13, z0y, z17, z0o, z01, z03, z02, z0a, Nat.reduceAdd, Nat.reduceLeDiff, z09, true_and, and_true, ↓reduceIte, z0n, z0h, exists_eq_left']
   rw [q1b (by simp; omega), q1b (by simp; omega)]
   simp only [q34, z12, z38, z3n, z0r, z0o]
 · rw [hh] at hK
   have hl := qgi hh
   have eg : (m.map fun p => u32 p.2).getD (Int.toNat ((lb ltS (m.map Prod.fst) k : Nat) : Int)) .any = u32 m[lb ltS (m.map Prod.fst) k].2 := q2d hl
   have k1 : (0 : Int) ≤ ((lb ltS (m.map Prod.fst) k : Nat) : Int) ∧ Int.toNat ((lb ltS (m.map Prod.fst) k : Nat) : Int) < m.length := by omega
   simp only [seval, go_sem]
   refine q0a tyOk (by rfl) (by simp only [z02, z0a, Nat.reduceAdd, z00]) (by kernel_rfl) rfl ?_
   simp only [seval, go_sem]
   refine q2n (qgh _ lm2) rfl rfl ?_
   simp only [seval, go_sem]
   refine ⟨by kernel_rfl, ?_⟩
   simp only [seval, go_sem, eg, k1, z0f]
   apply hK
   simp only [Tryz.results76, retK, ares, z1k, z0t, z0z, AV.ofResults, St.trunc, q06, q0e, q50, q42, T, TI.isAgg, z0u, z0v, z13, z0y, z17, z0o, z01, z03, z02, z0a, Nat.reduceAdd, Nat.reduceLeDiff, z09, true_and, and_true, ↓reduceIte, z0h, exists_eq_left']
   have he : m[lb ltS (m.map Prod.fst) k].1 = k := by
    have h1 := hh
    rw [q6r (by rw [z0f]; exact hl)] at h1
    have h2 := (q0t _ _).1 h1
    simpa using h2
   rw [q1b (by simp)]
   simp only [q34, z4b, z0g]
   congr 2
   congr 1
   refine (qgg (f := fun p : ByteArray × Int => str p.1) hl ?_).symm
   simp only [he]
theorem qrj (m : List (ByteArray × Int)) : q08 P 99 [q34 m] (fun x => x = .fn 122 [.rp [.sl 1 (m.map fun p => str p.1), .sl 1 (m.map fun p => u32 p.2)]]) := by
 refine q09 tyOk Tryz.func99 rfl rfl fun K hK => ?_
 simp only [seval, go_sem, Tryz.ntmps99, q34]
 apply hK
 simp only [seval, go_sem, Tryz.results99]
def q4y (m : List (ByteArray × Int)) : List (List AV) := m.map fun p => [str p.1, u32 p.2]
theorem qcb {m : List (ByteArray × Int)} (i : Nat) : q4y (m.take i) <+: q4y m := (z4h i m).map _
theorem seq_su (m : List (ByteArray × Int)) (hlen : m.length ≤ 1000000) : qh7 P 122 [.rp [.sl 1 (m.map fun p => str p.1), .sl 1 (m.map fun p => u32 p.2)]] (q4y m) := by
 refine qd0 tyOk Tryz.func122 rfl rfl rfl ?_
 intro y K hK
 simp only [seval, go_sem, Tryz.ntmps122, z0f]
 refine qbo tyOk (α := Nat) 0 [0, 1, 6, 7, 8] (fun i => i ≤ m.length)
  (fun i => ⟨[.v y, .rp [.sl 1 (m.map fun p => str p.1), .sl 1 (m.map fun p => u32 p.2)], .any, .any, .any, .any, .sl 1 (m.map fun p => str p.1), i64 m.length, i64 i, .any, .any, .any, .any, .any, .any, .any, .any, .any, .any, .any, .any, .any, .any], []⟩)
  (fun i => (q4y (m.take i), false)) (fun i => m.length - i) 0 (z09 _) (z00 _) rfl rfl ?_
 intro i hi
 simp only [seval, go_sem]
 refine qai ?_ ?_ <;> intro h <;> simp only [seval, go_sem]
 · have hlt : i < m.length := by simpa using h
   have e1 := q2d (f := fun p : ByteArray × Int => str p.1) hlt
   have e2 := q2d (f := fun p : ByteArray × Int => u32 p.2) hlt
   have c1 : (0 : Int) ≤ (i : Int) ∧ Int.toNat (i : Int) < m.length := by omega
   have ew : IntKind.i64.wrap ((i : Int) + 1) = ((i + 1 : Nat) : Int) := by rw [wrap_i64 (by omega) (by omega)]; rfl
   have e3 : q4y (m.take i) ++ [[str m[i].1, u32 m[i].2]] = q4y (m.take (i + 1)) := by
    rw [q12 hlt]; simp only [q4y, z12, z0r, z0o]
   simp only [seval, go_sem, e1, e2, c1, z0f]
   refine ⟨⟨by rw [e3]; exact qcb _, rfl⟩, ?_⟩
   intro b
   cases b with
   | true =>
    simp only [seval, go_sem, ew]
    simp only [seval, go_sem, q60]
    all_goals exact ⟨i + 1, hlt, by omega, rfl, by rw [e3]⟩
   | false =>
    simp only [seval, go_sem]
    all_goals exact hK _ _ _ (qhq ⟨by rw [e3]; exact qcb _, fun h => by cases h⟩)
 · have hge : i = m.length := by have : ¬ ((i : Int) < (m.length : Int)) := by simpa using h
                                 omega
   subst hge
   refine hK _ _ _ (qbp ⟨qcb _, fun _ => by rw [z0w]⟩)
theorem qsi (m : List (ByteArray × Int)) (k : ByteArray) (hr : q33 m) (hlen : m.length ≤ 1000000) :
 q08 P 73 [q34 m, str k] (fun x => x = .tup [u32 (getG ltS eqS 0 m k).1, bool (getG ltS eqS 0 m k).2]) := by
 refine q09 tyOk Tryz.func73 rfl rfl fun K hK => ?_
 simp only [seval, go_sem, Tryz.ntmps73]
 have hfind := qly m k hr hlen
 unfold q34 at hfind
 simp only [seval, go_sem, q34]
 (refine q00 hfind rfl ?_; rintro _ rfl)
 unfold getG at hK
 cases hh : q1q ltS eqS (m.map Prod.fst) k
 · rw [hh] at hK
   simp only [seval, go_sem]
   apply hK
   simp only [seval, go_sem, Tryz.results73]
 · rw [hh] at hK
   have hl := qgi hh
   have eg : (m.map fun p => u32 p.2).getD (Int.toNat ((lb ltS (m.map Prod.fst) k : Nat) : Int)) .any = u32 ((m.map Prod.snd).getD (lb ltS (m.map Prod.fst) k) 0) := by
    rw [q2d hl, z04, z11, z05 hl]; rfl
   have k1 : (0 : Int) ≤ ((lb ltS (m.map Prod.fst) k : Nat) : Int) ∧ Int.toNat ((lb ltS (m.map Prod.fst) k : Nat) : Int) < m.length := by omega
   simp only [seval, go_sem, eg, k1, z0f]
   apply hK
   simp only [seval, go_sem, Tryz.results73]
theorem qlm (m : List (ByteArray × Int)) (k : ByteArray) (hr : q33 m) (hlen : m.length ≤ 900000) :
 q08 P 75 [q34 m, str k] (fun x => x = q34 (q1l ltS eqS m k)) := by
 refine q09 tyOk Tryz.func75 rfl rfl fun K hK => ?_
 simp only [seval, go_sem, Tryz.ntmps75]
 have hfind := qly m k hr (by omega)
 unfold q34 at hfind
 simp only [seval, go_sem, q34]
 (refine q00 hfind rfl ?_; rintro _ rfl)
 unfold q1l at hK
 have lm1 : (m.map fun p => str p.1).length ≤ 1000000 := by rw [z0f]; omega
 have lm2 : (m.map fun p => u32 p.2).length ≤ 1000000 := by rw [z0f]; omega
 cases hh : q1q ltS eqS (m.map Prod.fst) k
 · rw [hh] at hK
   simp only [seval, go_sem]
   apply hK
   simp only [Tryz.results75, retK, ares, z1k, z0t, z0z, AV.ofResults, St.trunc, q06, q0e, q50, q42, T, TI.isAgg, z0u, z0v, z13, z0y, z17, z0o, z01, z03, z02, z0a, Nat.reduceAdd, z09, true_and, and_true, ↓reduceIte, z0n, z0h, exists_eq_left']
   all_goals rfl
 · rw [hh] at hK
   have hl := qgi hh
   have w1 : IntKind.i64.wrap (((lb ltS (m.map Prod.fst) k : Nat) : Int) + 1) = ((lb ltS (m.map Prod.fst) k + 1 : Nat) : Int) := by rw [wrap_i64 (by omega) (by omega)]; rfl
   simp only [seval, go_sem]
   refine q0a tyOk (by rfl) (by simp only [z02, z0a, Nat.reduceAdd, z00]) (by kernel_rfl) rfl ?_
   simp only [seval, go_sem]
   refine q2n (qd3 _ lm1) rfl rfl ?_
   simp only [seval, go_sem, w1]
   refine qah (ql2 _ (lb ltS (m.map Prod.fst) k) (by rw [z0f]; exact hl) lm1) 2 rfl rfl rfl rfl rfl ?_
   simp only [seval, go_sem]
   refine q2n (qgh _ lm2) rfl rfl ?_
   simp only [seval, go_sem, w1]
   refine qah (qvr _ (lb ltS (m.map Prod.fst) k) (by rw [z0f]; exact hl) lm2) 3 rfl rfl rfl rfl rfl ?_
   simp only [seval, go_sem]
   refine ⟨by kernel_rfl, ?_⟩
   apply hK
   simp only [Tryz.results75, retK, ares, z1k, z0t, z0z, AV.ofResults, St.trunc, q06, q0e, q50, q42, T, TI.isAgg, z0u, z0v, z13, z0y, z17, z0o, z01, z03, z02, z0a, Nat.reduceAdd, Nat.reduceLeDiff, z09, true_and, and_true, ↓reduceIte, z0h, exists_eq_left']
   rw [qc3 (by rw [z0f]; exact hl), qc3 (by rw [z0f]; exact hl)]
   simp only [q34, z12, z38, z3n]
end Go.Proofs.YtdkcpcflfnakdaaGreat
namespace Go.Proofs.YtdkcpcflfnakdaaGreat
open Go Go.Proofs.YtdkcpcflfnakdaaGreat.Sym
set_option maxRecDepth 100000
set_option maxHeartbeats 1000000
structure Ev where
 u : ByteArray
 old : Pr
 new : Pr
 seq : Int
 deriving DecidableEq
def Ev.av (e : Ev) : AV := .agg [str e.u, i64 e.old.st, i64 e.old.pr, i64 e.old.n, i64 e.new.st, i64 e.new.pr, i64 e.new.n, u64 e.seq]
def evts (l : List Ev) : List AV := l.map Ev.av
theorem q1p (l : List Ev) : (evts l).length = l.length := by simp [evts]
theorem qgr (l : List Ev) (e : Ev) : evts l ++ [.agg [str e.u, i64 e.old.st, i64 e.old.pr, i64 e.old.n, i64 e.new.st, i64 e.new.pr, i64 e.new.n, u64 e.seq]] = evts (l ++ [e]) := by simp [evts, Ev.av]
def qhp (room : Int) (l : List Ev) (lost : Bool) : AB := .box [i64 room, .own 1 8 0 l.length, bool lost]
def q92 (room : Int) (l : List Ev) (lost : Bool) : List AB := [qhp room l lost, .row 49 8 (evts l)]
def putR (room : Int) (q : List Ev × Bool) (e : Ev) : List Ev × Bool := if room ≤ (q.1.length : Int) then (q.1, true) else (q.1 ++ [e], q.2)
theorem ring_Put (room : Int) (l : List Ev) (lost : Bool) (e : Ev) (hl : l.length ≤ 100000) : q0j P 1 93 (q92 room l lost) [.ptr 0 0, e.av]
 (fun x m' => (∃ b, x = bool b) ∧ m' = q92 room (putR room (l, lost) e).1 (putR room (l, lost) e).2) := by
 unfold q92 qhp
 refine q3a tyOk Tryz.func93 rfl rfl (by simp) fun K hK => ?_
 simp only [seval, go_sem, Tryz.ntmps93, Ev.av]
 refine q0a tyOk (by rfl) (by simp only [z02, z0a, Nat.reduceAdd, Nat.reduceLeDiff]) (by kernel_rfl) rfl ?_
 simp only [seval, go_sem]
 refine ⟨by kernel_rfl, ?_⟩
 refine q02 ?_ ?_ <;> intro h
 · have h' : room ≤ (l.length : Int) := by simpa using h
   simp only [seval, go_sem]
   apply hK
   simp only [Tryz.results93, retK, ares, z0t, AV.ofResults, St.trunc, q06, q0e, AB.trunc, z0u, z0v, z13, z0y, z0o, z0r, z02, z0a, Nat.reduceAdd, Nat.reduceLeDiff, and_true, ↓reduceIte, z0h, exists_eq_left']
   rw [putR, if_pos h']
   exact ⟨⟨_, rfl⟩, rfl, rfl⟩
 · have h' : ¬ room ≤ (l.length : Int) := by simpa using h
   simp only [seval, go_sem]
   refine q0a tyOk (by rfl) (by simp only [z02, z0a, Nat.reduceAdd, Nat.reduceLeDiff]) (by kernel_rfl) rfl ?_
   simp only [seval, go_sem, q1p]
   refine ⟨⟨by simp only [maxLen]; omega, by omega⟩, ?_⟩
   refine ⟨by kernel_rfl, ?_⟩
   apply hK
   simp only [Tryz.results93, retK, ares, z0t, AV.ofResults, St.trunc, q06, q0e, AB.trunc, z0u, z0v, z13, z0y, z0o, z0r, z02, z0a, Nat.reduceAdd, Nat.reduceLeDiff, and_true, ↓reduceIte, z0h, exists_eq_left']
   rw [putR, if_neg h']
   simp only [qgr, z0c, z20]
   exact ⟨⟨_, rfl⟩, trivial, trivial⟩
def q4x (l : List Ev) : List (List AV) := l.map fun e => [e.av]
theorem ring_seq (room : Int) (l : List Ev) (lost : Bool) (hlen : l.length ≤ 100000) : qh7 P 138 [.rp [.rp [i64 room, .sl 8 (evts l), bool lost]]] (q4x l) := by
 refine qd0 tyOk Tryz.func138 rfl rfl rfl ?_
 intro y K hK
 simp only [seval, go_sem, Tryz.ntmps138, q1p]
 refine qbo tyOk (α := Nat) 0 [0, 1, 8, 9, 10] (fun i => i ≤ l.length)
  (fun i => ⟨[.v y, .rp [.rp [i64 room, .sl 8 (evts l), bool lost]], .any, .any, .any, .any, .any, .any, .sl 8 (evts l), i64 l.length, i64 i, .any, .any, .any, .any, .any, .any, .any, .any], []⟩)
  (fun i => (q4x (l.take i), false)) (fun i => l.length - i) 0 (z09 _) (z00 _) rfl rfl ?_
 intro i hi
 simp only [seval, go_sem]
 refine qai ?_ ?_ <;> intro h <;> simp only [seval, go_sem]
 · have hlt : i < l.length := by simpa using h
   have e1 := q2d (f := Ev.av) hlt
   have c1 : (0 : Int) ≤ (i : Int) ∧ Int.toNat (i : Int) < l.length := by omega
   have ew : IntKind.i64.wrap ((i : Int) + 1) = ((i + 1 : Nat) : Int) := by rw [wrap_i64 (by omega) (by omega)]; rfl
   have e3 : q4x (l.take i) ++ [[l[i].av]] = q4x (l.take (i + 1)) := by
    rw [q12 hlt]; simp only [q4x, z12, z0r, z0o]
   have pre : q4x (l.take (i + 1)) <+: q4x l := (z4h _ l).map _
   change (evts l).getD _ _ = _ at e1
   unfold Ev.av at e1 e3
   simp only [seval, go_sem, e1, c1, q1p]
   refine ⟨⟨by rw [e3]; exact pre, rfl⟩, ?_⟩
   intro b
   cases b with
   | true =>
    simp only [seval, go_sem, ew]
    simp only [seval, go_sem, q60]
    all_goals exact ⟨i + 1, hlt, by omega, rfl, by rw [e3]⟩
   | false =>
    simp only [seval, go_sem]
    all_goals exact hK _ _ _ (qhq ⟨by rw [e3]; exact pre, fun h => by cases h⟩)
 · have hge : i = l.length := by have : ¬ ((i : Int) < (l.length : Int)) := by simpa using h
                                 omega
   subst hge
   refine hK _ _ _ (qbp ⟨(z4h _ l).map _, fun _ => by rw [z0w]⟩)
theorem ring_All (room : Int) (l : List Ev) (lost : Bool) (cs : List AV) : ACall P 121 [qhp room l lost, .row 49 8 (evts l), .box [.v (.slice none 0 0)]] [.ptr 0 0]
 (fun x m' => x = .fn 138 [.ptr 3 0] ∧ m' = [qhp room l lost, .row 49 8 (evts l), .box [.v (.slice none 0 0)], .box [.ptr 0 0]]) := by
 unfold qhp
 refine q0j.toA (q1f tyOk Tryz.func121 rfl rfl (N := 3) (M := 4) (by simp) (by simp) ?_)
 intro K hK
 simp only [seval, go_sem, Tryz.ntmps121]
 apply hK
 simp only [seval, go_sem, Tryz.results121]
theorem qyp (fz : List Nat) (l : List Ev) : q6p fz (evts l) = true := by
 induction l with
 | nil => rfl
 | cons e l ih => rw [evts, z0r, q6p, ← evts, ih]; rfl
theorem qsp (room : Int) (l : List Ev) (lost : Bool) (hl : l.length ≤ 100000) : ACall P 98 (q92 room l lost) [.ptr 0 0]
 (fun x m' => x = .tup [.sl 8 (evts l), bool lost] ∧ m' = [.box [i64 room, .v (.slice none 0 0), bool false], .row 49 8 (evts l)]) := by
 unfold q92
 have hall := ring_All room l lost []
 unfold qhp at hall ⊢
 refine qnr tyOk Tryz.func98 rfl rfl fun K hK => ?_
 simp only [seval, go_sem, Tryz.ntmps98]
 refine q17 (hall.mono ?_)
 rintro _ _ ⟨rfl, rfl⟩
 simp only [seval, go_sem]
 refine qkt (q0c.adoptIn (b := 2) (c := 0) 49 8 rfl rfl) ?_
 refine qut [0] [1, 0, 3] (by simp [St.adoptIn]) (by simp [St.adoptIn, AB.fzOk, q03, bks]) (by simp [St.adoptIn, bks]) ?_
 intro vs
 have hsl : (if 0 + l.length ≤ (evts l).length then AV.sl 8 ((evts l).take l.length) else AV.any) = .sl 8 (evts l) := q1b (q1p l)
 simp only [St.adoptIn, litT, St.colds, St.cold, qaq, coldV, AB.cold, q5u, List.set, z0r, z0o, z01, z03, z02, z0a, Nat.reduceAdd, Nat.reduceEqDiff, ↓reduceIte, z1u, z21, true_and, hsl, q18, AV.pure, z17, z4v, Nat.succ_ne_zero]
 refine q91 tyOk (ring_seq room l lost hl) (α := Nat) 4 5 [0, 4] ([.v (vs.getD 0 undef), .any, .any, .any, .ptr 2 0, .any, .any, .any, .any, .any, .any, .any, .any, .any, .any, .any, .any, .any, .any, .any, .any, .any, .any, .any, .any, .any]) (fun xs i => i = xs.length ∧ i ≤ l.length)
  (fun i => [.gone, .gone, .box [.own 4 8 0 i], .gone, .row 49 8 (evts (l.take i))]) 0 rfl rfl
  (fun x hx => by simp only [q4x, z1b] at hx; obtain ⟨p, _, rfl⟩ := hx; rfl) (by decide) (by decide) (by rfl) ⟨rfl, z00 _⟩ rfl ?_ ?_
 · rintro xs x _ hpre ⟨rfl, hle⟩
   obtain ⟨hi, _, rfl⟩ := q7k hpre
   have hn : evts (l.take xs.length) ++ [l[xs.length].av] = evts (l.take (xs.length + 1)) := by rw [q12 hi]; simp only [evts, z12, z0r, z0o]
   have hl2 : (evts (l.take xs.length)).length = xs.length := by rw [q1p, z1l]; omega
   generalize l[xs.length] = e at *
   unfold Ev.av at hn
   simp only [seval, go_sem, Ev.av, hl2]
   refine ⟨⟨by simp only [maxLen]; omega, by omega⟩, ?_⟩
   simp only [seval, go_sem, q3b]
   all_goals exact ⟨xs.length + 1, ⟨by first | rfl | simp, by omega⟩, by rw [hn]⟩
 · rintro _ ⟨rfl, hle⟩
   have e1 : (q4x l).length = l.length := by simp [q4x]
   rw [e1, z0w]
   refine ⟨by simp, by simp, ?_⟩
   simp only [qhj, q5q, List.elem_cons, List.elem_nil, Nat.reduceAdd, Nat.reduceBEq, ↓reduceIte, z0n, AV.bare, AB.bare, q6p, qyp, z4v, z3c, Nat.reduceLT, decide_true, decide_false, z2r, qsd, beq_self_eq_true]
   simp only [seval, go_sem]
   apply hK
   simp only [Tryz.results98, retK, ares, z0t, z0z, AV.ofResults, St.trunc, q06, q0e, AB.trunc, z0u, z0v, z13, z0y, z17, z0o, z0r, z01, z03, z02, z0a, Nat.reduceAdd, Nat.reduceLeDiff, true_and, and_true, ↓reduceIte, z0h, exists_eq_left']
   rw [q1b (q1p l)]
theorem qvn (room : Int) (l : List Ev) (lost : Bool) (hl : l.length ≤ 100000) : q0r P (fun i => i != 1) 98 (q92 room l lost) [.ptr 0 0]
 (fun x m' => x = .tup [.sl 8 (evts l), bool lost] ∧ m' = q92 room [] false) := by
 refine (qsp room l lost hl).readopt 0 1 1 49 8 ?_
 rintro x m' ⟨rfl, rfl⟩
 exact ⟨_, rfl, rfl, by simp, rfl, rfl⟩
