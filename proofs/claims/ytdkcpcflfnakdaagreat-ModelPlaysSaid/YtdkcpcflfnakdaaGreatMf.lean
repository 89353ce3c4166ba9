/- A text of the walk that proves a law of this seat; joined by a program. -/
import Derived.Test.YtdkcpcflfnakdaaGreatMe
import Derived.Test.YtdkcpcflfnakdaaGreatMc
set_option linter.unusedSimpArgs false
set_option linter.unusedVariables false
namespace Go.Proofs.YtdkcpcflfnakdaaGreat
open Go Go.Proofs.YtdkcpcflfnakdaaGreat.Sym
set_option maxRecDepth 100000
set_option maxHeartbeats 1000000
theorem q9w (m : Bk) (u : ByteArray) (l : List Ses) (now : Int) (hr : q1o m) (hm : m.length ≤ 10000) (hl : l.length ≤ 200) :
 q08 P 80 [.sl 5 (usrs m), str u, .sl 4 (avs l), u64 now] (fun x => x = .tup [.sl 5 (usrs (q27 m u l now)), .sl 7 (chgs (q3u m u l now))]) := by
 have h := qqs m u l now hm hl
 rw [becF_eq hr, qqt hr] at h
 refine h.weaken (.inr ⟨_, rfl, _, _, rfl, q0g _, _, _, rfl, ?_, rfl⟩)
 unfold q3u
 split
 · exact q1j 7
 · exact q0g _
theorem qn4 (m : Bk) (u : ByteArray) (hr : q1o m) (hm : m.length ≤ 10000) : q08 P 83 [.sl 5 (usrs m), str u]
 (fun x => x = .agg [str u, .sl 4 (avs (q0o m u).l), i64 (q0o m u).t.st, i64 (q0o m u).t.pr, i64 (q0o m u).t.n]) := by
 have h := qna m u hm
 rw [qqt hr] at h
 exact h
theorem qzh {l : List Ses} {id u : Int} {i : Nat} (h : i < l.length) : (l.take (i + 1)).map (bmpS id u) = (l.take i).map (bmpS id u) ++ [bmpS id u l[i]] := by
 rw [q12 h, z12]; rfl
theorem bump_un {s : Ses} {id u : Int} (h : s.id = id) (h2 : s.un < u) : bmpS id u s = { s with un := u } := by
 unfold bmpS; rw [if_pos (by simp [h]; exact h2)]
theorem qt7 {s : Ses} {id u : Int} (h : (s.id == id && decide (s.un < u)) = false) : bmpS id u s = s := by
 unfold bmpS; rw [if_neg (by rw [h]; decide)]
theorem qup (l : List Ses) (id u : Int) (hlen : l.length ≤ 10000) : q08 P 85 [.sl 4 (avs l), i64 id, u64 u] (fun x => x = .tup [.sl 4 (avs (q7v l id u).1), i64 (q7v l id u).2]) := by
 refine q09 tyOk Tryz.func85 rfl rfl fun K hK => ?_
 simp only [seval, go_sem, Tryz.ntmps85]
 (refine q00 (qgf l id hlen) rfl ?_; rintro _ rfl)
 unfold q7v at hK
 simp only [seval, go_sem]
 cases h : has l id
 · rw [h, if_neg (by decide)] at hK
   simp only [seval, go_sem]
   apply hK
   simp only [Tryz.results85, retK, ares, z1k, z0t, z0z, AV.ofResults, St.trunc, q06, q0e, z0u, z0v, z0o, true_and, and_true, z0h, exists_eq_left']
 · rw [h, if_pos rfl] at hK
   simp only [seval, go_sem]
   refine q1r (q0c.adopt (i := 8) 151 4 rfl) ?_
   refine q0d tyOk (α := Nat) 1 [0, 1, 2, 8, 9] (fun i => i ≤ l.length)
    (fun i => ⟨[.sl 4 (avs l), i64 id, u64 u, .any, .any, .any, .any, .any, .own 0 4 0 ((l.take i).map (bmpS id u)).length, i64 i, .any, .any, .any, .any, .any, .any, .any, .any, .any, .any, .any, .any, .any, .any, .any, .any, .any, .any, .any, .any, .any, .any, .any, .any, .any, .any, .any, .any, .any, .any, .any, .any, .any], [.row 151 4 (avs ((l.take i).map (bmpS id u)))]⟩)
    (fun i => l.length - i) 0 (z00 _) (z00 _) rfl ?_
   intro i hi
   have hf : ((l.take i).map (bmpS id u)).length ≤ 10000 := by simp; omega
   simp only [seval, go_sem, q07]
   refine q02 ?_ ?_ <;> intro h <;> simp only [seval, go_sem]
   · obtain ⟨hlt, eg, ew, c1⟩ := q8s (by omega) h
     have hb := qzh (id := id) (u := u) hlt
     generalize (l.take i).map (bmpS id u) = O at hf hb
     simp only [seval, go_sem, eg, c1, q07]
     refine q1v ?_ ?_ <;> intro h2
     · have h2' : l[i].id = id := by simpa using h2
       simp only [seval, go_sem]
       refine q02 ?_ ?_ <;> intro h3
       · have e1 := bump_un h2' (by simpa using h3)
         simp only [seval, go_sem, q07]
         refine ⟨⟨by first | omega | (simp only [maxLen]; omega), by first | omega | (simp only [maxLen]; omega)⟩, ?_⟩
         simp only [seval, go_sem, ew]
         simp only [seval, go_sem, q01]
         all_goals exact ⟨i + 1, hlt, by omega, by rw [hb, e1, ← q2t, z0c]; rfl⟩
       · have e1 : bmpS id u l[i] = l[i] := qt7 (by have h3' : decide (l[i].un < u) = false := h3; rw [h3', z2r])
         simp only [seval, go_sem, q07]
         refine ⟨⟨by first | omega | (simp only [maxLen]; omega), by first | omega | (simp only [maxLen]; omega)⟩, ?_⟩
         simp only [seval, go_sem, ew]
         simp only [seval, go_sem, q01]
         all_goals exact ⟨i + 1, hlt, by omega, by rw [hb, e1, ← q2t, z0c]; rfl⟩
     · have e1 : bmpS id u l[i] = l[i] := qt7 (by have h2' : (l[i].id == id) = false := h2; rw [h2', z23])
       simp only [seval, go_sem, q07]
       refine ⟨⟨by first | omega | (simp only [maxLen]; omega), by first | omega | (simp only [maxLen]; omega)⟩, ?_⟩
       simp only [seval, go_sem, ew]
       simp only [seval, go_sem, q01]
       all_goals exact ⟨i + 1, hlt, by omega, by rw [hb, e1, ← q2t, z0c]; rfl⟩
   · obtain rfl := q5z hi h
     apply hK
     simp only [Tryz.results85, retK, ares, z0t, z0z, AV.ofResults, St.trunc, q06, q0e, z0u, z0v, z13, z17, z0o, z01, z09, true_and, and_true, ↓reduceIte, z0h, exists_eq_left']
     rw [z0w, q1b (by rw [q07])]
theorem qrs (n : Nat) (m : Bk) (o : Opb) (now most : Int) (h : q24 n m) (hn : n ≤ 150) :
 q08 P 54 [.sl 5 (usrs m), o.av, u64 now, i64 most] (fun x => x = .tup [.sl 5 (usrs (q2a m o now most)), .sl 7 (chgs (q32 m o now most)), i64 (q1t m o now most).2]) := by
 refine q09 tyOk Tryz.func54 rfl rfl fun K hK => ?_
 simp only [seval, go_sem, Tryz.ntmps54]
 obtain ⟨hw1, hw2⟩ := qgd h o.u
 have hlv := qep hw1 now
 have hll : (lives now (q0o m o.u).l).length ≤ (q0o m o.u).l.length := z1n _ _
 have hok := qge h o now most
 have hml := h.2.1
 simp only [seval, go_sem, Opb.av]
 (refine q00 (qn4 m o.u h.1 (by omega)) rfl ?_; rintro _ rfl)
 simp only [seval, go_sem]
 (refine q00 (qdm (q0o m o.u).l now (by omega)) rfl ?_; rintro _ rfl)
 simp only [seval, go_sem]
 (refine q00 (qn5 now o.ttl) rfl ?_; rintro _ rfl)
 simp only [seval, go_sem]
 refine q02 ?_ ?_ <;> intro h1
 · have k1 : o.kind = 1 := by simpa using h1
   obtain ⟨⟨L, e⟩, hL⟩ : ∃ r, q1t m o now most = r := ⟨_, rfl⟩
   have hS := qx9 (lives now (q0o m o.u).l) ⟨o.id, o.st, o.pr, addW now o.ttl⟩ most (by omega)
   have e1 : setF (lives now (q0o m o.u).l) ⟨o.id, o.st, o.pr, addW now o.ttl⟩ most = (L, e) := by rw [← hL, q1t]; simp only [k1, if_true]
   rw [e1] at hS
   rw [hL] at hok hK
   simp only at hok
   simp only [seval, go_sem]
   (refine q00 hS rfl ?_; rintro _ rfl)
   simp only [seval, go_sem]
   (refine q00 (q9w m o.u L now h.1 (by omega) (by omega)) rfl ?_; rintro _ rfl)
   simp only [seval, go_sem]
   apply hK
   simp only [seval, go_sem, Tryz.results54]
   rw [q2a, q32, hL]
   try rfl
 · have k1 : ¬ o.kind = 1 := by simpa using h1
   simp only [seval, go_sem]
   refine q02 ?_ ?_ <;> intro h2
   · have k2 : o.kind = 2 := by simpa using h2
     obtain ⟨⟨L, e⟩, hL⟩ : ∃ r, q1t m o now most = r := ⟨_, rfl⟩
     have hS := qup (lives now (q0o m o.u).l) o.id (addW now o.ttl) (by omega)
     have e1 : q7v (lives now (q0o m o.u).l) o.id (addW now o.ttl) = (L, e) := by rw [← hL, q1t]; simp only [if_neg k1, if_pos k2]
     rw [e1] at hS
     rw [hL] at hok hK
     simp only at hok
     simp only [seval, go_sem]
     (refine q00 hS rfl ?_; rintro _ rfl)
     simp only [seval, go_sem]
     (refine q00 (q9w m o.u L now h.1 (by omega) (by omega)) rfl ?_; rintro _ rfl)
     simp only [seval, go_sem]
     apply hK
     simp only [seval, go_sem, Tryz.results54]
     rw [q2a, q32, hL]
     try rfl
   · have k2 : ¬ o.kind = 2 := by simpa using h2
     simp only [seval, go_sem]
     refine q02 ?_ ?_ <;> intro h3
     · have k3 : o.kind = 3 := by simpa using h3
       have hC := qdn (lives now (q0o m o.u).l) o.id (by omega)
       obtain ⟨⟨L, e⟩, hL⟩ : ∃ r, q1t m o now most = r := ⟨_, rfl⟩
       have e1 : (clear (lives now (q0o m o.u).l) o.id, if has (lives now (q0o m o.u).l) o.id = true then (0 : Int) else 3) = (L, e) := by rw [← hL, q1t]; simp only [if_neg k1, if_neg k2, if_pos k3]
       have e2 := congrArg Prod.fst e1
       have e3 := congrArg Prod.snd e1
       simp only at e2 e3
       rw [e2] at hC
       rw [hL] at hok hK
       simp only at hok
       simp only [seval, go_sem]
       (refine q00 (qgf (lives now (q0o m o.u).l) o.id (by omega)) rfl ?_; rintro _ rfl)
       cases hh : has (lives now (q0o m o.u).l) o.id with
       | true =>
        rw [hh, if_pos rfl] at e3
        subst e3
        simp only [seval, go_sem]
        (refine q00 hC rfl ?_; rintro _ rfl)
        simp only [seval, go_sem]
        (refine q00 (q9w m o.u L now h.1 (by omega) (by omega)) rfl ?_; rintro _ rfl)
        simp only [seval, go_sem]
        apply hK
        simp only [seval, go_sem, Tryz.results54]
        rw [q2a, q32, hL]
        try rfl
       | false =>
        rw [hh, if_neg (by decide)] at e3
        subst e3
        simp only [seval, go_sem]
        (refine q00 hC rfl ?_; rintro _ rfl)
        simp only [seval, go_sem]
        (refine q00 (q9w m o.u L now h.1 (by omega) (by omega)) rfl ?_; rintro _ rfl)
        simp only [seval, go_sem]
        apply hK
        simp only [seval, go_sem, Tryz.results54]
        rw [q2a, q32, hL]
        try rfl
     · have k3 : ¬ o.kind = 3 := by simpa using h3
       obtain ⟨⟨L, e⟩, hL⟩ : ∃ r, q1t m o now most = r := ⟨_, rfl⟩
       have e1 : (lives now (q0o m o.u).l, (0 : Int)) = (L, e) := by rw [← hL, q1t]; simp only [if_neg k1, if_neg k2, if_neg k3]
       have e2 := congrArg Prod.fst e1
       have e3 := congrArg Prod.snd e1
       simp only at e2 e3
       rw [hL] at hok hK
       simp only at hok
       rw [e2]
       rw [← e3] at hK
       rw [← e3] at hL
       simp only [seval, go_sem]
       (refine q00 (q9w m o.u L now h.1 (by omega) (by omega)) rfl ?_; rintro _ rfl)
       simp only [seval, go_sem]
       apply hK
       simp only [seval, go_sem, Tryz.results54]
       rw [q2a, q32, hL]
       try rfl
theorem qs0 (n : Nat) (m : Bk) (now : Int) (h : q24 n m) (hn : n ≤ 200) :
 q08 P 49 [.sl 5 (usrs m), u64 now] (fun x => x = .tup [.sl 5 (usrs (q21 m now).1), .sl 7 (chgs (q21 m now).2)]) := by
 refine q09 tyOk Tryz.func49 rfl rfl fun K hK => ?_
 simp only [seval, go_sem, Tryz.ntmps49]
 have hml := h.2.1
 refine q1r (q0c.adopt (i := 6) 145 7 rfl) ?_
 refine q0d tyOk (α := Nat) 1 [0, 1, 6, 7, 8] (fun i => i ≤ m.length)
  (fun i => ⟨[.sl 5 (usrs m), u64 now, .any, .any, .any, .any, .own 0 7 0 (q14 m now i).2.length, .sl 5 (usrs (q14 m now i).1), i64 i, .any, .any, .any, .any, .any, .any, .any, .any, .any, .any, .any, .any, .any, .any, .any, .any, .any, .any, .any, .any, .any, .any, .any, .any, .any, .any, .any, .any, .any, .any, .any, .any, .any], [.row 145 7 (chgs (q14 m now i).2)]⟩)
  (fun i => m.length - i) 0 (z00 _) (z00 _) rfl ?_
 intro i hi
 simp only [seval, go_sem, q1w]
 refine q02 ?_ ?_ <;> intro h2
 · have hlt : i < m.length := by simpa using h2
   have eg : (usrs m).getD (Int.toNat (i : Int)) .any = .agg [str m[i].1, .sl 4 (avs m[i].2.l), i64 m[i].2.t.st, i64 m[i].2.t.pr, i64 m[i].2.t.n] := q2d hlt
   have ew : IntKind.i64.wrap ((i : Int) + 1) = ((i + 1 : Nat) : Int) := by rw [wrap_i64 (by omega) (by omega)]; rfl
   have c1 : (0 : Int) ≤ (i : Int) ∧ Int.toNat (i : Int) < m.length := by omega
   have hs := q83 h.1 now i
   have hnx := qbd (now := now) hlt
   have hel := (h.2.2 _ (z1i hlt)).2
   obtain ⟨s, hO⟩ : ∃ s, q14 m now i = s := ⟨_, rfl⟩
   rw [hO] at hnx hs
   simp only [hO]
   generalize m[i] = p at *
   have hll : (lives now p.2.l).length ≤ p.2.l.length := z1n _ _
   have hcl := qac s.1 p.1 (lives now p.2.l) now
   simp only [seval, go_sem]
   refine q0a tyOk (by rfl) (by simp only [z02, z0a, Nat.reduceAdd, z00]) (by kernel_rfl) rfl ?_
   simp only [seval, go_sem, eg, c1, q1w]
   refine q16 (qdm p.2.l now (by omega)) rfl ?_
   simp only [seval, go_sem]
   refine q16 (q9w s.1 p.1 (lives now p.2.l) now hs.1 (by omega) (by omega)) rfl ?_
   simp only [seval, go_sem]
   refine ⟨by kernel_rfl, ?_⟩
   simp only [seval, go_sem, q5s]
   refine ⟨⟨by simp only [maxLen]; omega, by omega⟩, ?_⟩
   simp only [seval, go_sem, ew]
   simp only [seval, go_sem, q01]
   refine ⟨i + 1, hlt, by omega, ?_⟩
   rw [hnx]
   simp only [q5f, z0c, chgs, z12]
 · obtain rfl := q5z hi h2
   have e2 : q14 m now m.length = q21 m now := by rw [q14, z0w, q21]
   rw [e2]
   simp only [seval, go_sem]
   apply hK
   simp only [Tryz.results49, retK, ares, z0t, z0z, AV.ofResults, St.trunc, q06, q0e, z0u, z0v, z13, z17, z0o, z01, z09, true_and, and_true, ↓reduceIte, z0h, exists_eq_left']
   rw [q1b (q5s _)]
   try rfl
theorem qmf (m : Bk) (u : ByteArray) (now : Int) (hr : q1o m) (hm : m.length ≤ 10000) (hl : (q0o m u).l.length ≤ 200) :
 q08 P 60 [.sl 5 (usrs m), str u, u64 now] (fun x => x = .agg [i64 (ofP (q0o m u).l now).st, i64 (ofP (q0o m u).l now).pr, i64 (ofP (q0o m u).l now).n]) := by
 refine q09 tyOk Tryz.func60 rfl rfl fun K hK => ?_
 simp only [seval, go_sem, Tryz.ntmps60]
 (refine q00 (qn4 m u hr hm) rfl ?_; rintro _ rfl)
 simp only [seval, go_sem]
 (refine q00 (qq8 (q0o m u).l now hl) rfl ?_; rintro _ rfl)
 simp only [seval, go_sem]
 apply hK
 simp only [seval, go_sem, Tryz.results60]
end Go.Proofs.YtdkcpcflfnakdaaGreat
namespace Go.Proofs.YtdkcpcflfnakdaaGreat
open Go Go.Proofs.YtdkcpcflfnakdaaGreat.Sym
set_option maxRecDepth 100000
set_option maxHeartbeats 1000000
theorem qnf (e : Ev) (t : List Ev) : evts (e :: t) = .agg [str e.u, i64 e.old.st, i64 e.old.pr, i64 e.old.n, i64 e.new.st, i64 e.new.pr, i64 e.new.n, u64 e.seq] :: evts t := rfl
theorem rws_set (R : Rws) (b : Nat) (r : List Ev) : (rws R).set b (.sl 8 (evts r)) = rws (R.set b r) := by rw [rws, rws, z4b]
set_option maxHeartbeats 2000000 in
theorem qs8 (R : Rws) (hR : R.length ≤ 1000) (ht : total R ≤ 100000) (hr : ∀ i, (R.getD i []).length ≤ 100000) : q08 P 52 [.sl 1 (rws R)] (fun x => x = .sl 8 (evts (q3q R))) := by
 refine q09 tyOk Tryz.func52 rfl rfl fun K hK => ?_
 simp only [seval, go_sem, -Int.reduceNatCast, -Int.reduceNatCast', -Nat.reduceSubDiff, -Int.reduceToNat, Tryz.ntmps52, q3i]
 refine ⟨⟨by first | omega | (simp only [maxLen]; omega), by omega⟩, ?_⟩
 refine q1r (q0c.adopt (i := 4) 49 8 rfl) ?_
 refine q0d tyOk (α := List Ev × Rws) 2 [3, 4] (fun s => s.2.length = R.length ∧ s.1 ++ q3q s.2 = q3q R)
  (fun s => ⟨[.any, .any, .any, .own 0 1 0 R.length, .own 1 8 0 s.1.length, .any, .any, .any, .any, .any, .any, .any, .any, .any, .any, .any, .any, .any, .any, .any, .any, .any, .any, .any, .any, .any, .any, .any, .any, .any, .any, .any, .any, .any, .any, .any, .any, .any, .any, .any, .any, .any, .any, .any, .any, .any, .any, .any, .any, .any, .any, .any, .any, .any, .any, .any, .any, .any, .any, .any, .any, .any, .any, .any, .any], [.row 39 1 (rws s.2), .row 49 8 (evts s.1)]⟩)
  (fun s => total s.2) ([], R) (z00 _) ⟨rfl, rfl⟩ rfl ?_
 rintro ⟨out, Rm⟩ ⟨hl, hm⟩
 simp only at hl hm ⊢
 have hlen := congrArg List.length hm
 rw [z0c, q8b _ _ rfl, q8b _ _ rfl] at hlen
 have w0 : IntKind.i64.wrap ((R.length : Int) - 1) = (R.length : Int) - 1 - ((0 : Nat) : Int) := by rw [wrap_i64 (by omega) (by omega)]; omega
 simp only [seval, go_sem, -Int.reduceNatCast, -Int.reduceNatCast', -Nat.reduceSubDiff, -Int.reduceToNat, w0]
 refine q0d tyOk (α := Nat) 2 [3, 4, 5, 6] (fun k => k ≤ R.length)
  (fun k => ⟨[.any, .any, .any, .own 0 1 0 R.length, .own 1 8 0 out.length, i64 (bI (dn Rm k)), i64 ((R.length : Int) - 1 - (k : Int)), .any, .any, .any, .any, .any, .any, .any, .any, .any, .any, .any, .any, .any, .any, .any, .any, .any, .any, .any, .any, .any, .any, .any, .any, .any, .any, .any, .any, .any, .any, .any, .any, .any, .any, .any, .any, .any, .any, .any, .any, .any, .any, .any, .any, .any, .any, .any, .any, .any, .any, .any, .any, .any, .any, .any, .any, .any, .any], [.row 39 1 (rws Rm), .row 49 8 (evts out)]⟩)
  (fun k => R.length - k) 0 (z00 _) (z00 _) rfl ?_
 intro k hk
 simp only [seval, go_sem, -Int.reduceNatCast, -Int.reduceNatCast', -Nat.reduceSubDiff, -Int.reduceToNat]
 refine q02 ?_ ?_ <;> intro h
 · have hlt : k < R.length := by have := of_decide_eq_true h; omega
   obtain ⟨i, hi⟩ : ∃ i, i = R.length - 1 - k := ⟨_, rfl⟩
   have hiI : ((R.length : Int) - 1 - (k : Int)) = (i : Int) := by omega
   have hil : i < Rm.length := by omega
   have eg := qeb hil
   have ew : IntKind.i64.wrap ((i : Int) - 1) = (R.length : Int) - 1 - ((k + 1 : Nat) : Int) := by rw [wrap_i64 (by omega) (by omega)]; omega
   have c1 : (0 : Int) ≤ (i : Int) ∧ Int.toNat (i : Int) < R.length := by omega
   have c2 : Int.toNat (i : Int) < Rm.length := by omega
   have hdn : dn Rm (k + 1) = qay Rm (dn Rm k) i := by rw [dn, hl, hi]
   have hdb := qme Rm k (by omega)
   rw [hiI]
   simp only [seval, go_sem, -Int.reduceNatCast, -Int.reduceNatCast', -Nat.reduceSubDiff, -Int.reduceToNat]
   refine q0a tyOk (by rfl) (by simp only [z02, z0a, Nat.reduceAdd, z00]) (by kernel_rfl) rfl ?_
   simp only [seval, go_sem, -Int.reduceNatCast, -Int.reduceNatCast', -Nat.reduceSubDiff, -Int.reduceToNat, eg, c1, c2, q3i, q1p]
   cases hRi : Rm.getD i [] with
   | nil =>
    have hz : decide ((0 : Int) < ((0 : Nat) : Int)) = false := by decide
    rw [ql0 hRi] at hdn
    simp only [seval, go_sem, -Int.reduceNatCast, -Int.reduceNatCast', -Nat.reduceSubDiff, -Int.reduceToNat, hz]
    refine ⟨by kernel_rfl, ?_⟩
    simp only [seval, go_sem, -Int.reduceNatCast, -Int.reduceNatCast', -Nat.reduceSubDiff, -Int.reduceToNat, ew]
    simp only [seval, go_sem, -Int.reduceNatCast, -Int.reduceNatCast', -Nat.reduceSubDiff, -Int.reduceToNat, q01]
    all_goals exact ⟨k + 1, hlt, by omega, by rw [hdn]⟩
   | cons e t =>
    have hz : decide ((0 : Int) < ((t.length + 1 : Nat) : Int)) = true := decide_eq_true (by omega)
    have g0 : ∀ (x : AV) (l : List AV), (x :: l).getD (Int.toNat 0) .any = x := fun _ _ => rfl
    have c0 : Int.toNat 0 < t.length + 1 := z5p _
    cases hu : dn Rm k with
    | none =>
     rw [hu, qih hRi] at hdn
     have hz2 : decide (bI none < 0) = true := by decide
     simp only [seval, go_sem, -Int.reduceNatCast, -Int.reduceNatCast', -Nat.reduceSubDiff, -Int.reduceToNat, hz, hz2]
     refine ⟨by kernel_rfl, ?_⟩
     simp only [seval, go_sem, -Int.reduceNatCast, -Int.reduceNatCast', -Nat.reduceSubDiff, -Int.reduceToNat, ew]
     simp only [seval, go_sem, -Int.reduceNatCast, -Int.reduceNatCast', -Nat.reduceSubDiff, -Int.reduceToNat, q01]
     all_goals exact ⟨k + 1, hlt, by omega, by rw [hdn]; rfl⟩
    | some b =>
     rw [hu] at hdb
     obtain ⟨u1, f, u, u2, u3⟩ := hdb
     rw [hu, qil hRi u2] at hdn
     have hbl : b < Rm.length := u1.2
     have hbi : bI (some b) = (b : Int) := rfl
     have hz2 : decide ((b : Int) < 0) = false := decide_eq_false (by omega)
     have eg2 := qeb hbl
     rw [u2] at eg2
     have d1 : (0 : Int) ≤ (b : Int) ∧ Int.toNat (b : Int) < R.length := by omega
     have d2 : Int.toNat (b : Int) < Rm.length := by omega
     have e0 : Int.toNat 0 < u.length + 1 := z5p _
     rw [hRi] at eg
     simp only [seval, go_sem, -Int.reduceNatCast, -Int.reduceNatCast', -Nat.reduceSubDiff, -Int.reduceToNat, hz, hz2, hbi, eg, c1, c2, eg2, d1, d2, q3i, qnf, q1p, g0, c0, e0]
     refine ⟨by kernel_rfl, ?_⟩
     refine q02 ?_ ?_ <;> intro h3
     · have h3' : e.seq ≤ f.seq := of_decide_eq_true h3
       rw [if_pos h3'] at hdn
       simp only [seval, go_sem, -Int.reduceNatCast, -Int.reduceNatCast', -Nat.reduceSubDiff, -Int.reduceToNat, ew]
       simp only [seval, go_sem, -Int.reduceNatCast, -Int.reduceNatCast', -Nat.reduceSubDiff, -Int.reduceToNat, q01]
       all_goals exact ⟨k + 1, hlt, by omega, by rw [hdn]; rfl⟩
     · have h3' : ¬ e.seq ≤ f.seq := of_decide_eq_false h3
       rw [if_neg h3'] at hdn
       simp only [seval, go_sem, -Int.reduceNatCast, -Int.reduceNatCast', -Nat.reduceSubDiff, -Int.reduceToNat, ew]
       simp only [seval, go_sem, -Int.reduceNatCast, -Int.reduceNatCast', -Nat.reduceSubDiff, -Int.reduceToNat, q01]
       all_goals exact ⟨k + 1, hlt, by omega, by rw [hdn]; rfl⟩
 · obtain rfl : k = R.length := by have := of_decide_eq_false h; omega
   have hbo : dn Rm R.length = q5b Rm := by rw [← dn_eq, hl]
   rw [hbo]
   cases hb : q5b Rm with
   | none =>
    have hmn := ql1 hb
    rw [hmn, z0i] at hm
    have hz2 : decide (bI none < 0) = true := by decide
    simp only [seval, go_sem, -Int.reduceNatCast, -Int.reduceNatCast', -Nat.reduceSubDiff, -Int.reduceToNat, hz2]
    apply hK
    simp only [Tryz.results52, retK, ares, z0t, z0z, AV.ofResults, St.trunc, q06, q0e, z0u, z0v, z13, z17, z0o, z01, z03, Nat.reduceLeDiff, true_and, and_true, ↓reduceIte, z0h, exists_eq_left']
    rw [q1b (q1p out), hm]
   | some b =>
    obtain ⟨b1, e, t, b2, b3⟩ := qen hb
    have hbi : bI (some b) = (b : Int) := rfl
    have hz2 : decide ((b : Int) < 0) = false := decide_eq_false (by omega)
    have eg := qeb b1
    rw [b2] at eg
    have d1 : (0 : Int) ≤ (b : Int) ∧ Int.toNat (b : Int) < R.length := by omega
    have d2 : Int.toNat (b : Int) < Rm.length := by omega
    have g0 : ∀ (x : AV) (l : List AV), (x :: l).getD (Int.toNat 0) .any = x := fun _ _ => rfl
    have e0 : Int.toNat 0 < t.length + 1 := z5p _
    have hms := qeo hb b2
    have htd := q8n b2
    have hdr : q5a Rm b = Rm.set b t := by rw [q5a, b2]; rfl
    rw [hdr] at hms htd
    simp only [seval, go_sem, -Int.reduceNatCast, -Int.reduceNatCast', -Nat.reduceSubDiff, -Int.reduceToNat, hz2, hbi, eg, d1, d2, q3i, qnf, q1p, g0, e0]
    refine ⟨⟨by simp only [maxLen]; omega, by omega⟩, by show 1 ≤ t.length + 1; omega, ?_⟩
    simp only [seval, go_sem, -Int.reduceNatCast, -Int.reduceNatCast', -Nat.reduceSubDiff, -Int.reduceToNat, q01]
    refine ⟨(out ++ [e], Rm.set b t), ⟨by rw [z56]; exact hl, ?_⟩, ?_, ?_⟩
    · simp only
      rw [z1r, z53, ← hms]
      exact hm
    · simp only
      omega
    · have e1 : List.take t.length (evts t) = evts t := z07 (by rw [q1p]; exact z09 _)
      simp only [qgr, z0c, z20, z0g, e1]
      rw [← rws_set]
      rfl
end Go.Proofs.YtdkcpcflfnakdaaGreat
namespace Go.Proofs.YtdkcpcflfnakdaaGreat
open Go Go.Proofs.YtdkcpcflfnakdaaGreat.Sym
set_option maxRecDepth 100000
set_option maxHeartbeats 1000000
abbrev Prd := List (Int × ByteArray)
def pav (p : Int × ByteArray) : AV := .agg [i64 p.1, str p.2]
def pds (l : Prd) : List AV := l.map pav
theorem q3g (l : Prd) : (pds l).length = l.length := by simp [pds]
theorem qm5 {l : Prd} {i : Nat} (h : i < l.length) : (pds l).getD (Int.toNat (i : Int)) .any = .agg [i64 (l[i]).1, str (l[i]).2] := by
 rw [z0g]; simp [pds, List.getD, h, pav]
structure Df where
 room : Int
 pairs : Prd
 q : Nat → List Ev × Bool
def docC (D : Df) : List AV := [i64 D.room, .sl 2 (pds D.pairs), .sl 8 (evts (D.q 0).1), .sl 8 (evts (D.q 1).1), .sl 8 (evts (D.q 2).1), .sl 8 (evts (D.q 3).1), .sl 8 (evts (D.q 4).1), .sl 8 (evts (D.q 5).1), .sl 8 (evts (D.q 6).1), .sl 8 (evts (D.q 7).1),
 bool (D.q 0).2, bool (D.q 1).2, bool (D.q 2).2, bool (D.q 3).2, bool (D.q 4).2, bool (D.q 5).2, bool (D.q 6).2, bool (D.q 7).2]
def docB (D : Df) : AB := .box (docC D)
def isP (who : Int) (u : ByteArray) (p : Int × ByteArray) : Bool := p.1 == who && (p.2.toList == u.toList)
def watD (l : Prd) (who : Int) (u : ByteArray) : Bool := l.any (isP who u)
def cntD (l : Prd) (who : Int) : Nat := (l.filter fun p => p.1 == who).length
def unwD (l : Prd) (who : Int) (u : ByteArray) : Prd := l.filter fun p => !isP who u p
theorem qbc {α : Type} {l : List α} {i : Nat} (h : i < l.length) : l.take (i + 1) = l.take i ++ [l[i]] := z51 h
theorem qt6 (l : Prd) : (if 0 + l.length ≤ (pds l).length then AV.sl 2 (List.take l.length (pds l)) else .any) = .sl 2 (pds l) := by
 rw [if_pos (by rw [q3g]; omega), z07 (by rw [q3g]; omega)]
theorem qjm (l : Prd) (p : Int × ByteArray) : pds l ++ [.agg [i64 p.1, str p.2]] = pds (l ++ [p]) := by simp [pds, pav]
theorem qc6 (D : Df) (who : Int) (u : ByteArray) (hl : D.pairs.length ≤ 100000) : ACall P 56 [docB D] [.ptr 0 0, i64 who, str u]
 (fun x m' => x = bool (watD D.pairs who u) ∧ m' = [docB D]) := by
 refine q1a tyOk Tryz.func56 rfl rfl fun K hK => ?_
 simp only [seval, go_sem, Tryz.ntmps56]
 refine q0d tyOk (α := Nat) 1 [0, 1, 2, 7] (fun i => i ≤ D.pairs.length ∧ watD (D.pairs.take i) who u = false)
  (fun i => ⟨[.ptr 0 0, i64 who, str u, .any, .any, .any, .any, i64 i, .any, .any, .any, .any, .any, .any, .any, .any, .any, .any, .any, .any, .any, .any, .any, .any, .any, .any, .any, .any, .any, .any, .any, .any, .any, .any, .any, .any, .any, .any, .any], [docB D]⟩)
  (fun i => D.pairs.length - i) 0 (by simp) ⟨z00 _, rfl⟩ rfl ?_
 rintro i ⟨hi, hw⟩
 simp only [seval, go_sem, docB, docC, q3g]
 refine q02 ?_ ?_ <;> intro h
 · have hlt : i < D.pairs.length := by simpa using h
   have ew : IntKind.i64.wrap ((i : Int) + 1) = ((i + 1 : Nat) : Int) := by rw [wrap_i64 (by omega) (by omega)]; rfl
   have eg := qm5 hlt
   have c1 : (0 : Int) ≤ (i : Int) ∧ Int.toNat (i : Int) < D.pairs.length := by omega
   have hn : watD (D.pairs.take (i + 1)) who u = isP who u D.pairs[i] := by
    rw [qbc hlt, watD, z40]
    show (watD (D.pairs.take i) who u || _) = _
    rw [hw]; simp
   have hall : isP who u D.pairs[i] = true → watD D.pairs who u = true := fun h => z39.2 ⟨_, z1i hlt, h⟩
   generalize D.pairs[i] = p at *
   simp only [seval, go_sem, eg, c1, q3g]
   cases h1 : p.1 == who
   · have hp : isP who u p = false := by rw [isP, h1]; rfl
     simp only [seval, go_sem, ew]
     simp only [seval, go_sem, q01]
     all_goals exact ⟨i + 1, ⟨hlt, by rw [hn, hp]⟩, by omega, rfl⟩
   · cases h2 : p.2.toList == u.toList
     · have hp : isP who u p = false := by rw [isP, h1, h2]; rfl
       simp only [seval, go_sem, h2, eg, c1, q3g, ew]
       simp only [seval, go_sem, q01]
       all_goals exact ⟨i + 1, ⟨hlt, by rw [hn, hp]⟩, by omega, rfl⟩
     · have hp : isP who u p = true := by rw [isP, h1, h2]; rfl
       rw [hall hp] at hK
       simp only [seval, go_sem, h2, eg, c1, q3g]
       apply hK
       simp only [seval, go_sem, Tryz.results56]
       all_goals rfl
 · obtain rfl : i = D.pairs.length := by have := of_decide_eq_false h; omega
   rw [z0w] at hw
   rw [hw] at hK
   simp only [seval, go_sem]
   apply hK
   simp only [seval, go_sem, Tryz.results56]
   all_goals rfl
theorem qy2 (D : Df) (who : Int) (hl : D.pairs.length ≤ 100000) : ACall P 55 [docB D] [.ptr 0 0, i64 who]
 (fun x m' => x = i64 (cntD D.pairs who : Nat) ∧ m' = [docB D]) := by
 refine q1a tyOk Tryz.func55 rfl rfl fun K hK => ?_
 simp only [seval, go_sem, Tryz.ntmps55]
 refine q0d tyOk (α := Nat) 1 [0, 1, 5, 6] (fun i => i ≤ D.pairs.length)
  (fun i => ⟨[.ptr 0 0, i64 who, .any, .any, .any, i64 (cntD (D.pairs.take i) who : Nat), i64 i, .any, .any, .any, .any, .any, .any, .any, .any, .any, .any, .any, .any, .any, .any, .any, .any, .any, .any, .any, .any, .any, .any], [docB D]⟩)
  (fun i => D.pairs.length - i) 0 (by simp) (z00 _) rfl ?_
 intro i hi
 simp only [seval, go_sem, docB, docC, q3g]
 refine q02 ?_ ?_ <;> intro h
 · have hlt : i < D.pairs.length := by simpa using h
   have ew : IntKind.i64.wrap ((i : Int) + 1) = ((i + 1 : Nat) : Int) := by rw [wrap_i64 (by omega) (by omega)]; rfl
   have eg := qm5 hlt
   have c1 : (0 : Int) ≤ (i : Int) ∧ Int.toNat (i : Int) < D.pairs.length := by omega
   have hc : cntD (D.pairs.take i) who ≤ i := z1f (z1n _ _) (by rw [z1l]; omega)
   have hn : cntD (D.pairs.take (i + 1)) who = cntD (D.pairs.take i) who + (if (D.pairs[i]).1 == who then 1 else 0) := by
    rw [qbc hlt, cntD, cntD, z2n, z0c]
    congr 1
    rw [z1p, z55]
    split <;> rfl
   have ew2 : IntKind.i64.wrap ((cntD (D.pairs.take i) who : Int) + 1) = ((cntD (D.pairs.take i) who + 1 : Nat) : Int) := by rw [wrap_i64 (by omega) (by omega)]; rfl
   generalize D.pairs[i] = p at *
   simp only [seval, go_sem, eg, c1, q3g]
   cases h1 : p.1 == who
   · rw [h1] at hn
     simp only [seval, go_sem, ew]
     simp only [seval, go_sem, q01]
     all_goals exact ⟨i + 1, hlt, by omega, by rw [hn]; rfl⟩
   · rw [h1] at hn
     simp only [seval, go_sem, ew, ew2]
     simp only [seval, go_sem, q01]
     all_goals exact ⟨i + 1, hlt, by omega, by rw [hn]; rfl⟩
 · obtain rfl : i = D.pairs.length := by have := of_decide_eq_false h; omega
   rw [z0w]
   simp only [seval, go_sem]
   apply hK
   simp only [seval, go_sem, Tryz.results55]
   all_goals rfl
def q4c (l : Prd) (who : Int) (u : ByteArray) : Prd := if (cli who && !watD l who u) = true then l ++ [(who, u)] else l
theorem qyk (D : Df) (who : Int) (u : ByteArray) (hl : D.pairs.length ≤ 90000) : ACall P 57 [docB D] [.ptr 0 0, i64 who, str u]
 (fun x m' => m' = [docB { D with pairs := q4c D.pairs who u }]) := by
 refine q1a tyOk Tryz.func57 rfl rfl fun K hK => ?_
 simp only [seval, go_sem, Tryz.ntmps57]
 cases hc : cli who
 · have he : q4c D.pairs who u = D.pairs := by rw [q4c, hc]; rfl
   rw [he] at hK
   by_cases h1 : 0 ≤ who
   · have d1 : decide (0 ≤ who) = true := decide_eq_true h1
     have d1' : decide (who ≥ 0) = true := decide_eq_true h1
     have d2 : decide (who < 8) = false := by
      simp only [cli, d1, z0z] at hc
      exact hc
     simp only [seval, go_sem, d1, d2]
     apply hK
     simp only [Tryz.results57, retK, ares, z1k, z0t, AV.ofResults, St.trunc, q06, AB.trunc, z0y, z0o, z0r, z02, z0a, Nat.reduceAdd, and_true, z0h, exists_eq_left']
     all_goals rfl
   · have d1 : decide (0 ≤ who) = false := decide_eq_false h1
     have d1' : decide (who ≥ 0) = false := decide_eq_false h1
     simp only [seval, go_sem, d1]
     apply hK
     simp only [Tryz.results57, retK, ares, z1k, z0t, AV.ofResults, St.trunc, q06, AB.trunc, z0y, z0o, z0r, z02, z0a, Nat.reduceAdd, and_true, z0h, exists_eq_left']
     all_goals rfl
 · obtain ⟨k, hk, rfl⟩ := q2u hc
   have d1 : decide ((0 : Int) ≤ (k : Int)) = true := decide_eq_true (by omega)
   have d1' : decide ((k : Int) ≥ (0 : Int)) = true := decide_eq_true (by omega)
   have d2 : decide ((k : Int) < 8) = true := decide_eq_true (by omega)
   simp only [seval, go_sem, d1, d2]
   refine q17 (Sym.ACall.mono (qc6 D k u (by omega)) ?_)
   rintro _ _ ⟨rfl, rfl⟩
   cases hw : watD D.pairs k u
   · have he : q4c D.pairs k u = D.pairs ++ [((k : Int), u)] := by rw [q4c, hc, hw]; rfl
     rw [he] at hK
     simp only [seval, go_sem, docB, docC, q3g]
     refine ⟨⟨by simp only [maxLen]; omega, by omega⟩, ⟨by simp only [maxLen]; omega, by omega⟩, ?_⟩
     apply hK
     simp only [Tryz.results57, retK, ares, z0t, z0z, AV.ofResults, St.trunc, q06, q0e, AB.trunc, z13, z0y, z17, z0o, z0r, z01, z03, z02, z0a, Nat.reduceAdd, z09, true_and, and_true, ↓reduceIte, z0h, exists_eq_left']
     rw [qjm D.pairs ((k : Int), u), show D.pairs.length + 1 = (D.pairs ++ [((k : Int), u)]).length by simp, qt6]
     rfl
   · have he : q4c D.pairs k u = D.pairs := by rw [q4c, hc, hw]; rfl
     rw [he] at hK
     simp only [seval, go_sem]
     apply hK
     simp only [Tryz.results57, retK, ares, z1k, z0t, AV.ofResults, St.trunc, q06, AB.trunc, z0y, z0o, z0r, z02, z0a, Nat.reduceAdd, and_true, z0h, exists_eq_left']
     all_goals rfl
theorem qsc (D : Df) (who : Int) (u : ByteArray) (hl : D.pairs.length ≤ 90000) : ACall P 58 [docB D] [.ptr 0 0, i64 who, str u]
 (fun x m' => m' = [docB { D with pairs := unwD D.pairs who u }]) := by
 refine q1a tyOk Tryz.func58 rfl rfl fun K hK => ?_
 simp only [seval, go_sem, Tryz.ntmps58]
 refine q1r (q0c.adopt (i := 6) 156 2 rfl) ?_
 refine q0d tyOk (α := Nat) 2 [0, 1, 2, 6, 7] (fun i => i ≤ D.pairs.length)
  (fun i => ⟨[.ptr 0 0, i64 who, str u, .any, .any, .any, .own 1 2 0 (unwD (D.pairs.take i) who u).length, i64 i, .any, .any, .any, .any, .any, .any, .any, .any, .any, .any, .any, .any, .any, .any, .any, .any, .any, .any, .any, .any, .any, .any, .any, .any, .any, .any, .any, .any, .any, .any, .any, .any, .any, .any, .any, .any, .any, .any, .any, .any, .any, .any, .any, .any, .any], [docB D, .row 156 2 (pds (unwD (D.pairs.take i) who u))]⟩)
  (fun i => D.pairs.length - i) 0 (by simp) (z00 _) rfl ?_
 intro i hi
 simp only [seval, go_sem, docB, docC, q3g]
 refine q02 ?_ ?_ <;> intro h
 · have hlt : i < D.pairs.length := by simpa using h
   have ew : IntKind.i64.wrap ((i : Int) + 1) = ((i + 1 : Nat) : Int) := by rw [wrap_i64 (by omega) (by omega)]; rfl
   have eg := qm5 hlt
   have c1 : (0 : Int) ≤ (i : Int) ∧ Int.toNat (i : Int) < D.pairs.length := by omega
   have hc : (unwD (D.pairs.take i) who u).length ≤ i := z1f (z1n _ _) (by rw [z1l]; omega)
   have hn : unwD (D.pairs.take (i + 1)) who u = unwD (D.pairs.take i) who u ++ (if isP who u D.pairs[i] = true then [] else [D.pairs[i]]) := by
    rw [qbc hlt, unwD, unwD, z2n, z1p, z55]
    congr 1
    cases isP who u D.pairs[i] <;> rfl
   generalize unwD (D.pairs.take i) who u = R at *
   generalize D.pairs[i] = p at *
   have hpl : (pds R).length = R.length := q3g R
   simp only [seval, go_sem, eg, c1, q3g]
   cases h1 : p.1 == who
   · have hp : isP who u p = false := by rw [isP, h1]; rfl
     have h1' : (p.1 != who) = true := by rw [bne, h1]; rfl
     rw [hp] at hn
     simp only [z0n, if_false] at hn
     simp only [seval, go_sem, h1', eg, c1, q3g, ew]
     refine ⟨⟨by simp only [maxLen]; omega, by omega⟩, ?_⟩
     simp only [seval, go_sem, q01]
     all_goals exact ⟨i + 1, hlt, by omega, by rw [hn, ← qjm, z0c]; rfl⟩
   · have h1' : (p.1 != who) = false := by rw [bne, h1]; rfl
     cases h2 : p.2.toList == u.toList
     · have hp : isP who u p = false := by rw [isP, h1, h2]; rfl
       rw [hp] at hn
       simp only [z0n, if_false] at hn
       simp only [seval, go_sem, h1', h2, eg, c1, q3g, ew]
       refine ⟨⟨by simp only [maxLen]; omega, by omega⟩, ?_⟩
       simp only [seval, go_sem, q01]
       all_goals exact ⟨i + 1, hlt, by omega, by rw [hn, ← qjm, z0c]; rfl⟩
     · have hp : isP who u p = true := by rw [isP, h1, h2]; rfl
       rw [hp, if_pos rfl, z0i] at hn
       simp only [seval, go_sem, h1', h2, eg, c1, q3g, ew]
       simp only [seval, go_sem, q01]
       all_goals exact ⟨i + 1, hlt, by omega, by rw [hn]⟩
 · obtain rfl : i = D.pairs.length := by have := of_decide_eq_false h; omega
   rw [z0w]
   simp only [seval, go_sem]
   apply hK
   simp only [Tryz.results58, retK, ares, z0t, z0z, AV.ofResults, St.trunc, q06, q0e, AB.trunc, z13, z0y, z17, z0o, z0r, z01, z03, z02, z0a, Nat.reduceAdd, z09, true_and, and_true, ↓reduceIte, z0h, exists_eq_left']
   rw [qt6]; rfl
theorem qb5 {g : FuncId} {m : List AB} {args : List AV} {R R' : AV → List AB → Prop} (h : ACall P g m args R) (hk : ∀ x m1, R x m1 → ∃ x' m2, Sym.weak x x' ∧ q8r m1 m2 ∧ R' x' m2) : ACall P g m args R' := by
 refine ⟨h.1, fun Hd ι w vs hR => (h.2 Hd ι w vs hR).mono ?_⟩
 rintro e w' ⟨y, x, ι', m', rfl, hR', hE, hx⟩
 obtain ⟨x', m2, w1, w2, k⟩ := hk x m' hx
 obtain ⟨ι2, hR2, hE2⟩ := q0c.weak (s := ⟨[x], m'⟩) (s' := ⟨[x'], m2⟩) ⟨_, _, rfl, w1, rfl⟩ w2 Hd 0 ι' _ w' hR'
 exact ⟨y, x', ι2, m2, rfl, hR2, fun L => (hE L).trans (hE2 L), k⟩
def Df.setQ (D : Df) (k : Nat) (x : List Ev × Bool) : Df := { D with q := fun j => if j = k then x else D.q j }
def Df.drain (D : Df) (who : Int) : Df := if cli who = true then D.setQ who.toNat ([], false) else D
theorem qoe (D : Df) : (docC D).length = 18 := rfl
theorem doc_kill (D : Df) (b : Nat) : q1d b (docC D) = docC D := rfl
theorem doc_q (D : Df) {k : Nat} (hk : k < 8) : ∃ tl, List.drop (2 + k * 1) (docC D) = .sl 8 (evts (D.q k).1) :: tl := by
 rcases (by omega : k = 0 ∨ k = 1 ∨ k = 2 ∨ k = 3 ∨ k = 4 ∨ k = 5 ∨ k = 6 ∨ k = 7) with rfl | rfl | rfl | rfl | rfl | rfl | rfl | rfl <;> exact ⟨_, rfl⟩
theorem doc_l (D : Df) {k : Nat} (hk : k < 8) : ∃ tl, List.drop (10 + k * 1) (docC D) = bool (D.q k).2 :: tl := by
 rcases (by omega : k = 0 ∨ k = 1 ∨ k = 2 ∨ k = 3 ∨ k = 4 ∨ k = 5 ∨ k = 6 ∨ k = 7) with rfl | rfl | rfl | rfl | rfl | rfl | rfl | rfl <;> exact ⟨_, rfl⟩
theorem doc_weak (D : Df) {k : Nat} (hk : k < 8) : q2z (((docC D).set (2 + k) (.v (.slice none 0 0))).set (10 + k) (bool false)) (docC (D.setQ k ([], false))) := by
 have w : ∀ x xs ys, q2z xs ys → q2z (x :: xs) (x :: ys) := fun x xs ys h => ⟨_, _, rfl, q0g x, h⟩
 have n : ∀ xs ys, q2z xs ys → q2z (AV.v (.slice none 0 0) :: xs) (AV.sl 8 (evts []) :: ys) := fun xs ys h => ⟨_, _, rfl, q1j 8, h⟩
 rcases (by omega : k = 0 ∨ k = 1 ∨ k = 2 ∨ k = 3 ∨ k = 4 ∨ k = 5 ∨ k = 6 ∨ k = 7) with rfl | rfl | rfl | rfl | rfl | rfl | rfl | rfl <;>
  (refine w _ _ _ (w _ _ _ ?_)
   repeat' (first | exact rfl | refine n _ _ ?_ | refine w _ _ _ ?_))
theorem qyh (D : Df) (who : Int) : ACall P 51 [docB D] [.ptr 0 0, i64 who]
 (fun x m' => x = .tup [.sl 8 (evts (if cli who = true then (D.q who.toNat).1 else [])), bool (if cli who = true then (D.q who.toNat).2 else false)] ∧ m' = [docB (D.drain who)]) := by
 cases hc : cli who
 · have h : ACall P 51 [docB D] [.ptr 0 0, i64 who] (fun x m' => x = .tup [.v (.slice none 0 0), bool false] ∧ m' = [docB D]) := by
    refine q1a tyOk Tryz.func51 rfl rfl fun K hK => ?_
    simp only [seval, go_sem, Tryz.ntmps51]
    by_cases h1 : who < 0
    · have d1 : decide (who < 0) = true := decide_eq_true h1
      simp only [seval, go_sem, d1]
      apply hK
      simp only [seval, go_sem, Tryz.results51]
      all_goals rfl
    · have d1 : decide (who < 0) = false := decide_eq_false h1
      have d3 : decide (0 ≤ who) = true := decide_eq_true (by omega)
      have d4 : decide (who < 8) = false := by simp only [cli, d3, z0z] at hc; exact hc
      have d5 : ¬ who < 8 := of_decide_eq_false d4
      have d2 : decide (7 < who) = true := decide_eq_true (by omega)
      have d2' : decide (who > 7) = true := decide_eq_true (by omega)
      simp only [seval, go_sem, d1, d2]
      apply hK
      simp only [seval, go_sem, Tryz.results51]
      all_goals rfl
   refine qb5 h ?_
   rintro x m1 ⟨rfl, rfl⟩
   exact ⟨_, _, .inr ⟨_, rfl, _, _, rfl, q1j 8, q2g _⟩, ⟨_, _, rfl, ⟨_, rfl, q2g _⟩, rfl⟩, rfl, by rw [Df.drain, hc]; rfl⟩
 · obtain ⟨k, hk, rfl⟩ := q2u hc
   have d1 : decide ((k : Int) < 0) = false := decide_eq_false (by omega)
   have d2 : decide (7 < (k : Int)) = false := decide_eq_false (by omega)
   have d2' : decide ((k : Int) > 7) = false := decide_eq_false (by omega)
   have h : ACall P 51 [docB D] [.ptr 0 0, i64 k] (fun x m' => x = .tup [.sl 8 (evts (D.q k).1), bool (D.q k).2] ∧ m' = [.box (((docC D).set (2 + k) (.v (.slice none 0 0))).set (10 + k) (bool false))]) := by
    refine q1a tyOk Tryz.func51 rfl rfl fun K hK => ?_
    simp only [seval, go_sem, Tryz.ntmps51]
    obtain ⟨t1, e1⟩ := doc_q D hk
    obtain ⟨t2, e2⟩ := doc_l D hk
    have hkn : Int.toNat ((k : Nat) : Int) = k := z0g k
    have b1 : (0 : Int) ≤ (k : Int) := by omega
    have cl := qoe D
    simp only [seval, go_sem, d1, d2]
    refine q0a tyOk (by rfl) (by simp only [z02, z0a, Nat.reduceAdd, z09]) (by kernel_rfl) rfl ?_
    simp only [seval, go_sem, docB, hkn, e1, e2, b1, hk, z02, z50]
    refine ⟨by kernel_rfl, ?_⟩
    refine q0a tyOk (by rfl) (by simp only [z02, z0a, Nat.reduceAdd, z09]) (by kernel_rfl) rfl ?_
    simp only [seval, go_sem, hkn, b1, hk, z02, cl]
    refine ⟨by omega, by rw [z1l, z31, cl]; omega, ?_⟩
    refine ⟨by kernel_rfl, ?_⟩
    apply hK
    simp only [seval, go_sem, Tryz.results51]
    clear hK e1 e2 hkn b1 d1 d2 d2' hc
    rcases (by omega : k = 0 ∨ k = 1 ∨ k = 2 ∨ k = 3 ∨ k = 4 ∨ k = 5 ∨ k = 6 ∨ k = 7) with rfl | rfl | rfl | rfl | rfl | rfl | rfl | rfl <;> rfl
   refine qb5 h ?_
   rintro x m1 ⟨rfl, rfl⟩
   refine ⟨_, _, q0g _, ⟨_, _, rfl, ⟨_, rfl, doc_weak D hk⟩, rfl⟩, by simp, ?_⟩
   rw [Df.drain, hc, if_pos rfl, z0g]
   rfl
def q29 (D : Df) (c : Chg) (seq : Int) (n : Nat) : Df := { D with q := fun k => if (decide (k < n) && watD D.pairs k c.u) = true then putR D.room (D.q k) ⟨c.u, c.old, c.new, seq⟩ else D.q k }
theorem tell1D_0 (D : Df) (c : Chg) (seq : Int) : q29 D c seq 0 = D := by
 simp only [q29, z28, decide_false, z23, z0n, if_false]
theorem qy0 (D : Df) (c : Chg) (seq : Int) (j : Nat) : (q29 D c seq j).q j = D.q j := by
 simp [q29]
theorem qxz {D : Df} {c : Chg} {seq : Int} {j : Nat} (h : watD D.pairs j c.u = false) : q29 D c seq (j + 1) = q29 D c seq j := by
 have : ∀ k, (decide (k < j + 1) && watD D.pairs k c.u) = (decide (k < j) && watD D.pairs k c.u) := fun k => by
  by_cases hk : k = j
  · subst hk; rw [h]; simp
  · congr 1; simp only [decide_eq_decide]; omega
 simp only [q29, this]
theorem qvj {D : Df} {c : Chg} {seq : Int} {j : Nat} (h : watD D.pairs j c.u = true) : q29 D c seq (j + 1) = (q29 D c seq j).setQ j (putR D.room (D.q j) ⟨c.u, c.old, c.new, seq⟩) := by
 unfold q29 Df.setQ
 congr 1
 funext k
 by_cases hk : k = j
 · subst hk; simp [h]
 · have : decide (k < j + 1) = decide (k < j) := by simp only [decide_eq_decide]; omega
   rw [if_neg hk, this]
def q7s (D : Df) (l : List Chg) (seq : Int) : Df := l.foldl (fun D c => q29 D c seq 8) D
theorem qub {D : Df} {l : List Chg} {seq : Int} {i : Nat} (h : i < l.length) : q7s D (l.take (i + 1)) seq = q29 (q7s D (l.take i) seq) l[i] seq 8 := by
 rw [qbc h, q7s, z3k]; rfl
theorem qoi (D : Df) (l : List Chg) (seq : Int) : (q7s D l seq).pairs = D.pairs ∧ (q7s D l seq).room = D.room ∧ ∀ k, ((q7s D l seq).q k).1.length ≤ (D.q k).1.length + l.length := by
 induction l generalizing D with
 | nil => exact ⟨rfl, rfl, fun k => z09 _⟩
 | cons c l ih =>
  obtain ⟨h1, h2, h3⟩ := ih (q29 D c seq 8)
  refine ⟨h1, h2, fun k => z1f (h3 k) ?_⟩
  have : ((q29 D c seq 8).q k).1.length ≤ (D.q k).1.length + 1 := by
   simp only [q29]
   split
   · exact qoj _ _ _
   · omega
  rw [z02]; omega
theorem qdk (M : List AB) (n : Nat) : ∀ a b : List AV, q06 M n (a ++ b) = q06 M n a ++ q06 M n b
 | [], b => rfl
 | x :: a, b => by rw [z1u, q06, q06, qdk M n a b]; rfl
theorem doc_put (G : Df) {j : Nat} (hj : j < 8) (B : AB) (L : List Ev) : [AB.box (q06 [B, .row 49 8 (evts L)] 1 (List.take (2 + j * 1) (docC G) ++ [.own 1 8 0 L.length] ++ List.drop (2 + j * 1 + 1) (docC G)))] = [AB.box (docC (G.setQ j (L, (G.q j).2)))] := by
 have key : q06 [B, .row 49 8 (evts L)] 1 [.own 1 8 0 L.length] = [.sl 8 (evts L)] := by
  have e : List.take L.length (evts L) = evts L := z07 (by rw [q1p]; exact z09 _)
  simp [q06, q0e, q1p, e]
 rw [qdk, qdk, key]
 rcases (by omega : j = 0 ∨ j = 1 ∨ j = 2 ∨ j = 3 ∨ j = 4 ∨ j = 5 ∨ j = 6 ∨ j = 7) with rfl | rfl | rfl | rfl | rfl | rfl | rfl | rfl <;> rfl
theorem doc_Tell (D : Df) (l : List Chg) (seq : Int) (hl : D.pairs.length ≤ 90000) (hll : l.length ≤ 40000) (hq : ∀ k, (D.q k).1.length ≤ 40000) : ACall P 50 [docB D] [.ptr 0 0, .sl 7 (chgs l), u64 seq]
 (fun x m' => m' = [docB (q7s D l seq)]) := by
 refine q1a tyOk Tryz.func50 rfl rfl fun K hK => ?_
 simp only [seval, go_sem, Tryz.ntmps50]
 refine q0d tyOk (α := Nat) 1 [0, 1, 2, 6] (fun i => i ≤ l.length)
  (fun i => ⟨[.ptr 0 0, .sl 7 (chgs l), u64 seq, .any, .any, .any, i64 i, .any, .any, .any, .any, .any, .any, .any, .any, .any, .any, .any, .any, .any, .any, .any, .any, .any, .any, .any, .any, .any, .any, .any, .any, .any, .any, .any, .any, .any, .any, .any, .any, .any, .any, .any, .any, .any, .any, .any, .any, .any, .any, .any, .any, .any, .any, .any, .any, .any, .any, .any, .any, .any, .any, .any, .any, .any, .any, .any, .any, .any, .any, .any, .any, .any, .any, .any, .any, .any], [docB (q7s D (l.take i) seq)]⟩)
  (fun i => l.length - i) 0 (by simp) (z00 _) rfl ?_
 intro i hi
 simp only [seval, go_sem, q5s]
 refine q02 ?_ ?_ <;> intro h <;> simp only [seval, go_sem]
 · have hlt : i < l.length := by simpa using h
   have ew : IntKind.i64.wrap ((i : Int) + 1) = ((i + 1 : Nat) : Int) := by rw [wrap_i64 (by omega) (by omega)]; rfl
   have c1 : (0 : Int) ≤ (i : Int) ∧ Int.toNat (i : Int) < l.length := by omega
   obtain ⟨o1, o2, o3⟩ := qoi D (l.take i) seq
   have hn := qub (D := D) (seq := seq) hlt
   have hlen : (l.take i).length = i := by rw [z1l]; omega
   generalize hD : q7s D (l.take i) seq = E at *
   have hEl : E.pairs.length ≤ 90000 := by rw [o1]; exact hl
   have hEq : ∀ k, (E.q k).1.length ≤ 80000 := fun k => by have := o3 k; have := hq k; omega
   have eg : (chgs l).getD (Int.toNat (i : Int)) .any = (l[i]).av := by rw [z0g]; simp [chgs, List.getD, hlt]
   generalize l[i] = c at *
   refine q0d tyOk (α := Nat) 1 [0, 1, 2, 6, 7] (fun j => j ≤ 8)
    (fun j => ⟨[.ptr 0 0, .sl 7 (chgs l), u64 seq, .any, .any, .any, i64 i, i64 j, .any, .any, .any, .any, .any, .any, .any, .any, .any, .any, .any, .any, .any, .any, .any, .any, .any, .any, .any, .any, .any, .any, .any, .any, .any, .any, .any, .any, .any, .any, .any, .any, .any, .any, .any, .any, .any, .any, .any, .any, .any, .any, .any, .any, .any, .any, .any, .any, .any, .any, .any, .any, .any, .any, .any, .any, .any, .any, .any, .any, .any, .any, .any, .any, .any, .any, .any, .any], [docB (q29 E c seq j)]⟩)
    (fun j => 8 - j) 0 (by simp) (z00 _) (by rw [tell1D_0]; rfl) ?_
   intro j hj
   simp only [seval, go_sem]
   refine q02 ?_ ?_ <;> intro h8
   · have hj8 : j < 8 := by have := of_decide_eq_true h8; omega
     have ewj : IntKind.i64.wrap ((j : Int) + 1) = ((j + 1 : Nat) : Int) := by rw [wrap_i64 (by omega) (by omega)]; rfl
     simp only [seval, go_sem, eg, c1, q5s, Chg.av]
     refine q17 (Sym.ACall.mono (qc6 (q29 E c seq j) j c.u (by exact z1f hEl (by decide))) ?_)
     rintro _ _ ⟨rfl, rfl⟩
     show _
     cases hw : watD E.pairs j c.u
     · have hw' : watD (q29 E c seq j).pairs j c.u = false := hw
       simp only [seval, go_sem, hw', ewj]
       simp only [seval, go_sem, q01]
       all_goals exact ⟨j + 1, hj8, by omega, by rw [qxz hw]; rfl⟩
     · have hw' : watD (q29 E c seq j).pairs j c.u = true := hw
       have hyes := qvj (seq := seq) hw
       have hGj := qy0 E c seq j
       have hGr : (q29 E c seq j).room = E.room := rfl
       simp only [seval, go_sem, hw']
       generalize q29 E c seq j = G at *
       obtain ⟨t1, e1⟩ := doc_q G hj8
       obtain ⟨t2, e2⟩ := doc_l G hj8
       have hkn : Int.toNat ((j : Nat) : Int) = j := z0g j
       have b1 : (0 : Int) ≤ (j : Int) := by omega
       have cl := qoe G
       have e0 : (docC G).headD .any = i64 G.room := rfl
       have hq1 := hEq j
       refine q0a tyOk (by rfl) (by simp only [z02, z0a, Nat.reduceAdd, z09]) (by kernel_rfl) rfl ?_
       simp only [seval, go_sem, docB, hkn, e1, b1, hj8, z02, z50, cl, e0, q1p, hGj]
       refine ⟨by kernel_rfl, ?_⟩
       refine q02 ?_ ?_ <;> intro hr
       · have hr' : G.room ≤ ((E.q j).1.length : Int) := of_decide_eq_true hr
         simp only [seval, go_sem, hkn, b1, hj8, z02, cl]
         refine ⟨by omega, ?_⟩
         simp only [seval, go_sem, ewj]
         simp only [seval, go_sem, q01]
         refine ⟨j + 1, hj8, by omega, ?_⟩
         rw [hyes, putR, if_pos (by rw [← hGr]; exact hr'), ← hGj]
         clear hK hyes hGj hq1 e1 e2 ewj hkn hw hw' hj h8 b1 hr hr'
         rcases (by omega : j = 0 ∨ j = 1 ∨ j = 2 ∨ j = 3 ∨ j = 4 ∨ j = 5 ∨ j = 6 ∨ j = 7) with rfl | rfl | rfl | rfl | rfl | rfl | rfl | rfl <;> rfl
       · have hr' : ¬ G.room ≤ ((E.q j).1.length : Int) := of_decide_eq_false hr
         simp only [seval, go_sem]
         refine q0a tyOk (by rfl) (by simp only [z02, z0a, Nat.reduceAdd, z09]) (by kernel_rfl) rfl ?_
         simp only [seval, go_sem, hkn, e1, b1, hj8, z02, z50, cl, q1p, hGj, eg, c1, q5s, Chg.av, doc_kill]
         refine ⟨⟨by simp only [maxLen]; omega, by omega⟩, ⟨by simp only [maxLen]; omega, by omega⟩, by omega, ?_⟩
         refine ⟨by kernel_rfl, ?_⟩
         simp only [seval, go_sem, ewj]
         simp only [seval, go_sem, q01]
         refine ⟨j + 1, hj8, by omega, ?_⟩
         rw [hyes, putR, if_neg (by rw [← hGr]; exact hr')]
         have hev : evts (E.q j).1 ++ [.agg [str c.u, i64 c.old.st, i64 c.old.pr, i64 c.old.n, i64 c.new.st, i64 c.new.pr, i64 c.new.n, u64 seq]] = evts ((E.q j).1 ++ [⟨c.u, c.old, c.new, seq⟩]) := by simp [evts, Ev.av]
         have hln : (E.q j).1.length + 1 = ((E.q j).1 ++ [(⟨c.u, c.old, c.new, seq⟩ : Ev)]).length := by simp
         rw [hev, hln, doc_put G hj8, hGj]
   · obtain rfl : j = 8 := by have := of_decide_eq_false h8; omega
     simp only [seval, go_sem, ew]
     simp only [seval, go_sem, q01]
     all_goals exact ⟨i + 1, hlt, by omega, by rw [hn]; rfl⟩
 · obtain rfl : i = l.length := by have := of_decide_eq_false h; omega
   rw [z0w]
   apply hK
   simp only [seval, go_sem, Tryz.results50]
   all_goals rfl
end Go.Proofs.YtdkcpcflfnakdaaGreat
namespace Go.Proofs.YtdkcpcflfnakdaaGreat
open Go Go.Proofs.YtdkcpcflfnakdaaGreat.Sym
set_option maxRecDepth 100000
set_option maxHeartbeats 1000000
set_option maxHeartbeats 2000000
structure Dt where
 c : Cf
 t : Tm
 b : Nat → Bk
 f : Nat → Df
def dlen (n : Nat) : Nat := 3 + n
def q53 (n pad : Nat) : List AV := (List.range n).map (fun j => .ptr (3 + j) 0) ++ List.replicate pad .any
def dRow (n : Nat) (b : Nat → Bk) : List AV := (List.range n).map fun j => .sl 5 (usrs (b j))
def docT (n pad : Nat) (D : Dt) : List AB :=
 .box [i64 D.c.s, i64 D.c.k, i64 D.c.q, i64 D.c.w, i64 D.c.r, u64 D.c.e, u64 D.c.st, u64 D.t.now, u64 D.t.seq, bool D.t.cl, .own 1 1 0 n, .own 2 1 0 n] ::
  .row 96 1 (dRow n D.b) :: .box (q53 n pad) :: (List.range n).map fun j => docB (D.f j)
def Dt.setF (D : Dt) (s : Nat) (F : Df) : Dt := { D with f := fun j => if j = s then F else D.f j }
def Dt.setB (D : Dt) (s : Nat) (b : Bk) : Dt := { D with b := fun j => if j = s then b else D.b j }
section
variable (n pad : Nat) (D : Dt) (r : List AB)
theorem q0y : (docT n pad D).length = dlen n := by simp [docT, dlen]; omega
theorem q4i : (docT n pad D ++ r).length = dlen n + r.length := by rw [z0c, q0y]
theorem dm_add (r' : List AB) : (docT n pad D ++ r) ++ r' = docT n pad D ++ (r ++ r') := z1r _ _ _
theorem dm_0 : (docT n pad D ++ r)[0]? = some (.box [i64 D.c.s, i64 D.c.k, i64 D.c.q, i64 D.c.w, i64 D.c.r, u64 D.c.e, u64 D.c.st, u64 D.t.now, u64 D.t.seq, bool D.t.cl, .own 1 1 0 n, .own 2 1 0 n]) := rfl
theorem dm_1 : (docT n pad D ++ r)[1]? = some (.row 96 1 (dRow n D.b)) := rfl
theorem dm_2 : (docT n pad D ++ r)[2]? = some (.box (q53 n pad)) := rfl
theorem dm_0n : (docT n pad D)[0]? = some (.box [i64 D.c.s, i64 D.c.k, i64 D.c.q, i64 D.c.w, i64 D.c.r, u64 D.c.e, u64 D.c.st, u64 D.t.now, u64 D.t.seq, bool D.t.cl, .own 1 1 0 n, .own 2 1 0 n]) := rfl
theorem dm_1n : (docT n pad D)[1]? = some (.row 96 1 (dRow n D.b)) := rfl
theorem dm_2n : (docT n pad D)[2]? = some (.box (q53 n pad)) := rfl
theorem qbb (k : Nat) : (docT n pad D ++ r)[dlen n + k]? = r[k]? := by
 rw [z18 (by rw [q0y]; omega), q0y, show dlen n + k - dlen n = k by omega]
theorem dm_at0 : (docT n pad D ++ r)[dlen n]? = r[0]? := qbb n pad D r 0
theorem dm_at1 : (docT n pad D ++ r)[dlen n + 1]? = r[1]? := qbb n pad D r 1
theorem dm_at2 : (docT n pad D ++ r)[dlen n + 2]? = r[2]? := qbb n pad D r 2
theorem dm_at3 : (docT n pad D ++ r)[dlen n + 3]? = r[3]? := qbb n pad D r 3
theorem dm_at4 : (docT n pad D ++ r)[dlen n + 4]? = r[4]? := qbb n pad D r 4
theorem dm_s (k : Nat) (x : AB) : (docT n pad D ++ r).set (dlen n + k) x = docT n pad D ++ r.set k x := by
 rw [z4c _ _ (by rw [q0y]; omega), q0y, show dlen n + k - dlen n = k by omega]
theorem dm_s0 {x : AB} : (docT n pad D ++ r).set (dlen n) x = docT n pad D ++ r.set 0 x := dm_s n pad D r 0 x
theorem dm_s1 {x : AB} : (docT n pad D ++ r).set (dlen n + 1) x = docT n pad D ++ r.set 1 x := dm_s n pad D r 1 x
theorem dm_s2 {x : AB} : (docT n pad D ++ r).set (dlen n + 2) x = docT n pad D ++ r.set 2 x := dm_s n pad D r 2 x
theorem dm_s3 {x : AB} : (docT n pad D ++ r).set (dlen n + 3) x = docT n pad D ++ r.set 3 x := dm_s n pad D r 3 x
theorem dm_setT {a b : Int} {c : Bool} : (docT n pad D ++ r).set 0 (.box [i64 D.c.s, i64 D.c.k, i64 D.c.q, i64 D.c.w, i64 D.c.r, u64 D.c.e, u64 D.c.st, u64 a, u64 b, bool c, .own 1 1 0 n, .own 2 1 0 n]) = docT n pad { D with t := ⟨a, b, c⟩ } ++ r := rfl
theorem dm_setTn {a b : Int} {c : Bool} : (docT n pad D).set 0 (.box [i64 D.c.s, i64 D.c.k, i64 D.c.q, i64 D.c.w, i64 D.c.r, u64 D.c.e, u64 D.c.st, u64 a, u64 b, bool c, .own 1 1 0 n, .own 2 1 0 n]) = docT n pad { D with t := ⟨a, b, c⟩ } := rfl
end
theorem q86 (n : Nat) (b : Nat → Bk) : (dRow n b).length = n := by simp [dRow]
theorem qhn {n s : Nat} (b : Nat → Bk) (h : s < n) : (dRow n b).getD (Int.toNat (s : Int)) .any = .sl 5 (usrs (b s)) := by
 simp [dRow, z04, h]
theorem qoz {n s : Nat} (b : Nat → Bk) (v : Bk) (h : s < n) : (dRow n b).set (Int.toNat (s : Int)) (.sl 5 (usrs v)) = dRow n (fun j => if j = s then v else b j) := by
 apply z1e
 intro i
 simp only [dRow, z5k, z11, z0g, z0f, List.length_range]
 by_cases e : s = i
 · subst e
   simp [h]
 · rw [if_neg e]
   by_cases hi : i < n
   · simp [hi, z37 e]
   · simp [hi]
theorem dm_setB {n pad s : Nat} (D : Dt) (r : List AB) (v : Bk) (h : s < n) : (docT n pad D ++ r).set 1 (.row 96 1 ((dRow n D.b).set (Int.toNat (s : Int)) (.sl 5 (usrs v)))) = docT n pad (D.setB s v) ++ r := by
 rw [qoz D.b v h]; rfl
theorem dm_setBn {n pad s : Nat} (D : Dt) (v : Bk) (h : s < n) : (docT n pad D).set 1 (.row 96 1 ((dRow n D.b).set (Int.toNat (s : Int)) (.sl 5 (usrs v)))) = docT n pad (D.setB s v) := by
 rw [qoz D.b v h]; rfl
theorem qxh {n pad s : Nat} (h : s < n) : (List.drop (s * 1) (q53 n pad)).headD .any = .ptr (3 + s) 0 ∧ 0 < (List.drop (s * 1) (q53 n pad)).length := by
 have hl : s * 1 < (q53 n pad).length := by simp [q53]; omega
 refine ⟨?_, by rw [z31]; omega⟩
 rw [z2i hl, z44]
 simp only [q53, z4t]
 rw [z32 (by simpa using h)]
 simp
theorem qd6 {n pad s : Nat} (h : s < n) : (List.drop (Int.toNat (s : Int) * 1) (q53 n pad)).headD .any = .ptr (3 + s) 0 ∧ 0 < (List.drop (Int.toNat (s : Int) * 1) (q53 n pad)).length := by
 rw [z0g]; exact qxh h
theorem qec {n pad s : Nat} (D : Dt) (r : List AB) (h : s < n) : (docT n pad D ++ r)[3 + s]? = some (docB (D.f s)) := by
 rw [z0j (by rw [q0y]; simp only [dlen]; omega), docT, show 3 + s = s + 1 + 1 + 1 by omega]
 simp [h]
theorem qyv (n pad : Nat) : ∀ b ∈ q03 (q53 n pad), ∃ j < n, b = 3 + j := by
 have h1 : ∀ (l : List Nat) b, b ∈ q03 (l.map (fun j => AV.ptr (3 + j) 0)) → ∃ j ∈ l, b = 3 + j := by
  intro l b hb
  induction l with
  | nil => simp [q03] at hb
  | cons j l ih =>
   simp only [z0r, q03, bks, z0q, z1j] at hb
   rcases hb with rfl | hb
   · exact ⟨j, by simp, rfl⟩
   · obtain ⟨k, hk, e⟩ := ih hb; exact ⟨k, by simp [hk], e⟩
 have h2 : ∀ k, q03 (List.replicate k AV.any) = [] := by
  intro k
  induction k with
  | zero => rfl
  | succ k ih => simp [z3p, q03, bks, ih]
 intro b hb
 rw [q53, q4j, h2, z0i] at hb
 obtain ⟨j, hj, e⟩ := h1 _ b hb
 exact ⟨j, by simpa using hj, e⟩
theorem qts (D : Df) : q03 (docC D) = [] := rfl
theorem dm_ids {n pad i : Nat} {D : Dt} {cs : List AV} (h : (docT n pad D)[i]? = some (.box cs)) : ∀ b ∈ q03 cs, b < dlen n := by
 intro b hb
 by_cases h3 : i < 3
 · have c : i = 0 ∨ i = 1 ∨ i = 2 := by omega
   rcases c with rfl | rfl | rfl
   · rw [dm_0n] at h; cases h
     simp only [q03, bks, z21, z0i, z4z, or_false, z1u, z26] at hb
     simp only [dlen]; omega
   · rw [dm_1n] at h; cases h
   · rw [dm_2n] at h; cases h
     obtain ⟨j, hj, rfl⟩ := qyv n pad b hb
     simp only [dlen]; omega
 · obtain ⟨j, rfl⟩ := z2a (z1x h3)
   have hl := (z08.1 h).1
   rw [q0y, dlen] at hl
   have := qec (pad := pad) D [] (show j < n by omega)
   rw [z0i, h] at this
   cases this
   rw [qts] at hb; cases hb
theorem qfx (n pad : Nat) (D : Dt) : (docT n pad D).all (AB.inR (dlen n)) = true := by
 refine z0l.2 fun blk hb => ?_
 obtain ⟨i, hi⟩ := z1m hb
 cases blk with
 | box cs => exact z0l.2 fun b hb => decide_eq_true (dm_ids hi b hb)
 | _ => rfl
theorem qkp {n pad : Nat} {D : Dt} {f : AB → AB} (h1 : ∀ cs, (∀ b ∈ q03 cs, b < dlen n) → f (.box cs) = .box cs) (h2 : ∀ blk, (∀ cs, blk ≠ .box cs) → f blk = blk) : (docT n pad D).map f = docT n pad D := by
 apply z1e
 intro i
 rw [z11]
 cases h : (docT n pad D)[i]? with
 | none => rfl
 | some blk =>
  simp only [z19]
  congr 1
  by_cases hb : ∃ cs, blk = .box cs
  · obtain ⟨cs, rfl⟩ := hb
    exact h1 cs (dm_ids h)
  · exact h2 blk (fun cs hc => hb ⟨cs, hc⟩)
section
variable (n pad : Nat) (D : Dt) (r : List AB)
theorem qou {X : List AB} {N : Nat} (h : dlen n ≤ N) : (docT n pad D).map (AB.trunc X N) = docT n pad D :=
 qkp (fun cs hc => by simp only [AB.trunc]; rw [q31 cs (fun b hb => z10 (hc b hb) h)]) (fun blk hb => by cases blk <;> first | rfl | exact absurd rfl (hb _))
theorem dm_kill {b : Nat} (h : dlen n ≤ b) : (docT n pad D).map (AB.kill b) = docT n pad D :=
 qkp (fun cs hc => by simp only [AB.kill]; rw [q45 cs (fun c hb => by have := hc c hb; omega)]) (fun blk hb => by cases blk <;> first | rfl | exact absurd rfl (hb _))
theorem dm_shut {X : List AB} {b : Nat} (h : dlen n ≤ b) : (docT n pad D).map (AB.shut X b) = docT n pad D :=
 qkp (fun cs hc => by simp only [AB.shut]; rw [q8g cs (fun c hb => by have := hc c hb; omega)]) (fun blk hb => by cases blk <;> first | rfl | exact absurd rfl (hb _))
theorem qq5 (k : Nat) : (docT n pad D ++ r).map (AB.kill (dlen n + k)) = docT n pad D ++ r.map (AB.kill (dlen n + k)) := by rw [z12, dm_kill n pad D (by omega)]
theorem qxr : (docT n pad D ++ r).map (AB.kill (dlen n)) = docT n pad D ++ r.map (AB.kill (dlen n)) := qq5 n pad D r 0
theorem qq6 {X : List AB} (k : Nat) : (docT n pad D ++ r).map (AB.shut X (dlen n + k)) = docT n pad D ++ r.map (AB.shut X (dlen n + k)) := by rw [z12, dm_shut n pad D (by omega)]
theorem qxs {X : List AB} : (docT n pad D ++ r).map (AB.shut X (dlen n)) = docT n pad D ++ r.map (AB.shut X (dlen n)) := qq6 n pad D r 0
theorem dm_tk (k : Nat) : (docT n pad D ++ r).take (dlen n + k) = docT n pad D ++ r.take k := by
 rw [z4y, q0y, z07 (by rw [q0y]; omega), show dlen n + k - dlen n = k by omega]
theorem dm_ret {X : List AB} : ((docT n pad D ++ r).take (dlen n)).map (AB.trunc X (dlen n)) = docT n pad D := by
 have := dm_tk n pad D r 0
 rw [z1y] at this
 rw [this, z13, z0i, qou n pad D (z09 _)]
theorem dm_retn {X : List AB} : ((docT n pad D).take (dlen n)).map (AB.trunc X (dlen n)) = docT n pad D := by
 have := dm_ret n pad D [] (X := X)
 rwa [z0i] at this
theorem dm_rn {X : List AB} (k : Nat) : ((docT n pad D ++ r).take (dlen n + k)).map (AB.trunc X (dlen n + k)) = docT n pad D ++ (r.take k).map (AB.trunc X (dlen n + k)) := by
 rw [dm_tk, z12, qou n pad D (by omega)]
theorem dm_rn1 {X : List AB} : ((docT n pad D ++ r).take (dlen n + 1)).map (AB.trunc X (dlen n + 1)) = docT n pad D ++ (r.take 1).map (AB.trunc X (dlen n + 1)) := dm_rn n pad D r 1
theorem dm_rn2 {X : List AB} : ((docT n pad D ++ r).take (dlen n + 2)).map (AB.trunc X (dlen n + 2)) = docT n pad D ++ (r.take 2).map (AB.trunc X (dlen n + 2)) := dm_rn n pad D r 2
theorem dm_rn3 {X : List AB} : ((docT n pad D ++ r).take (dlen n + 3)).map (AB.trunc X (dlen n + 3)) = docT n pad D ++ (r.take 3).map (AB.trunc X (dlen n + 3)) := dm_rn n pad D r 3
theorem dm_rn4 {X : List AB} : ((docT n pad D ++ r).take (dlen n + 4)).map (AB.trunc X (dlen n + 4)) = docT n pad D ++ (r.take 4).map (AB.trunc X (dlen n + 4)) := dm_rn n pad D r 4
end
theorem dl_z {n : Nat} : (dlen n = 0) = False := by simp [dlen]
theorem dl_1 {n : Nat} : (1 ≤ dlen n) = True := by simp [dlen]; omega
theorem ql3 {n : Nat} : (dlen n ≤ 0) = False := by simp [dlen]
theorem dl_n1 {n : Nat} : (dlen n ≤ 1) = False := by simp [dlen]; omega
theorem dl_n2 {n : Nat} : (dlen n ≤ 2) = False := by simp [dlen]; omega
theorem dl_k0 {n k : Nat} : (dlen n + k ≤ 0) = False := by simp [dlen]
theorem dl_k1 {n k : Nat} : (dlen n + k ≤ 1) = False := by simp [dlen]; omega
theorem dl_k2 {n k : Nat} : (dlen n + k ≤ 2) = False := by simp [dlen]; omega
theorem dl_kl {n k j : Nat} : (dlen n + k ≤ dlen n + j) = (k ≤ j) := by simp
theorem dl_kl0 {n k : Nat} : (dlen n + k ≤ dlen n) = (k ≤ 0) := propext (by constructor <;> omega)
theorem dl_l {n k : Nat} : (dlen n = dlen n + k) = (k = 0) := by simp
theorem dl_r {n k : Nat} : (dlen n + k = dlen n) = (k = 0) := by simp
theorem dl_b {n j k : Nat} : (dlen n + j = dlen n + k) = (j = k) := by simp
theorem dl_le {n k : Nat} : (dlen n ≤ dlen n + k) = True := by simp
theorem dl_0 {n : Nat} : (0 = dlen n) = False := by simp [dlen]; omega
theorem dl_0k {n k : Nat} : (0 = dlen n + k) = False := by simp [dlen]; omega
theorem qa1 {g : FuncId} {args0 args : List AV} {K0 K : AV → List AB → Prop} {n pad s : Nat} (D : Dt) (r : List AB) (hs : s < n) (h : ACall P g [docB (D.f s)] args0 K0) (ha : args = q0i [3 + s] args0) (hb : (q03 args0).all (fun b => decide (b < 1)) = true)
 (hK : ∀ x m', K0 x m' → ∃ F', m' = [docB F'] ∧ K (ren [3 + s] x) (docT n pad (D.setF s F') ++ r)) : ACall P g (docT n pad D ++ r) args K := by
 refine h.frame [3 + s] (by simp) (by simp [renM, qec D r hs]; rfl) ha hb rfl ?_
 intro x m' hx
 obtain ⟨F', rfl, hv⟩ := hK x m' hx
 refine ⟨rfl, ?_⟩
 have : putL (docT n pad D ++ r) [3 + s] (renM [3 + s] [docB F']) = docT n pad (D.setF s F') ++ r := by
  show (docT n pad D ++ r).set (3 + s) (AB.ren [3 + s] (docB F')) = _
  have e : AB.ren [3 + s] (docB F') = docB F' := by
   have := q7q (l := [3 + s]) (qts F')
   simp only [docB, AB.ren, this]
  rw [e]
  apply z1e
  intro i
  rw [z5k]
  by_cases hi : 3 + s = i
  · subst hi
    rw [if_pos rfl, if_pos (by rw [q4i]; simp only [dlen]; omega), qec (D.setF s F') r hs]
    simp [Dt.setF]
  · rw [if_neg hi]
    by_cases h1 : i < dlen n
    · by_cases h3 : i < 3
      · have c : i = 0 ∨ i = 1 ∨ i = 2 := by omega
        rcases c with rfl | rfl | rfl <;> rfl
      · obtain ⟨j, rfl⟩ := z2a (z1x h3)
        have hj : j < n := by simp only [dlen] at h1; omega
        rw [qec D r hj, qec (D.setF s F') r hj]
        have : j ≠ s := by omega
        simp [Dt.setF, this]
    · obtain ⟨k, rfl⟩ := z2a (z1x h1)
      rw [qbb, qbb]
 rw [this]; exact hv
attribute [go_sem] dm_0 dm_1 dm_2 dm_0n dm_1n dm_2n dm_at0 dm_at1 dm_at2 dm_at3 dm_at4 dm_s0 dm_s1 dm_s2 dm_s3 dm_setT dm_setTn q0y q4i dm_add qq5 qxr qq6 qxs dl_z dl_1 dl_l dl_r dl_b dl_le dl_0 dl_0k ql3 dl_n1 dl_n2 dl_k0 dl_k1 dl_k2 dl_kl dl_kl0 dm_retn dm_ret dm_rn1 dm_rn2 dm_rn3 dm_rn4
end Go.Proofs.YtdkcpcflfnakdaaGreat
namespace Go.Proofs.YtdkcpcflfnakdaaGreat
open Go Go.Proofs.YtdkcpcflfnakdaaGreat.Sym
set_option maxRecDepth 100000
set_option maxHeartbeats 1000000
set_option maxHeartbeats 2000000
theorem hash_two (x : Int) : IntKind.u64.wrap (shlF .u64 x 40 + IntKind.u64.wrap (x * 435)) = IntKind.u64.wrap (x * 1099511628211) := by
 have e : shlF .u64 x 40 = IntKind.u64.wrap (x * 1099511627776) := by
  unfold shlF; rfl
 rw [e, z2z, z2z, z2z, z2z]
 omega
theorem ref02_Of (u : ByteArray) (hl : u.size ≤ 1000000) : q08 P 82 [str u] (fun x => x = u64 (qcy u)) := by
 refine q09 tyOk Tryz.func82 rfl rfl fun K hK => ?_
 simp only [seval, go_sem, Tryz.ntmps82]
 refine q0d tyOk (α := Nat) 0 [0, 3, 4] (fun i => i ≤ u.size)
  (fun i => ⟨[str u, .any, .any, u64 (qhg u i), i64 i, .any, .any, .any, .any, .any, .any, .any, .any, .any, .any, .any, .any, .any, .any, .any, .any, .any, .any, .any], []⟩)
  (fun i => u.size - i) 0 (z00 _) (z00 _) rfl ?_
 intro i hi
 simp only [seval, go_sem]
 refine q02 ?_ ?_ <;> intro h <;> simp only [seval, go_sem]
 · have hlt : i < u.size := by simpa using h
   have c1 : (0 : Int) ≤ (i : Int) ∧ Int.toNat (i : Int) < u.size := by omega
   have ew : IntKind.i64.wrap ((i : Int) + 1) = ((i + 1 : Nat) : Int) := by rw [wrap_i64 (by omega) (by omega)]; rfl
   simp only [seval, go_sem, c1, ew, hash_two]
   simp only [seval, go_sem, q01]
   all_goals exact ⟨i + 1, hlt, by omega, rfl⟩
 · have hge : i = u.size := by have : ¬ ((i : Int) < (u.size : Int)) := by simpa using h
                               omega
   subst hge
   apply hK
   simp only [seval, go_sem, Tryz.results82]
   all_goals rfl
theorem qh0 (u : ByteArray) (n : Int) (hl : u.size ≤ 1000000) (h1 : 1 ≤ n) (h2 : n ≤ 1000) : q08 P 53 [str u, i64 n] (fun x => x = i64 (strI n u)) := by
 refine q09 tyOk Tryz.func53 rfl rfl fun K hK => ?_
 simp only [seval, go_sem, Tryz.ntmps53]
 have d1 : decide (n < 1) = false := decide_eq_false (by omega)
 have w1 : IntKind.u64.wrap n = n := by rw [z2z]; omega
 have hs := qm0 h1 h2 u
 have w2 : IntKind.i64.wrap ((qcy u).tmod n) = strI n u := (by rw [z4f]; unfold strI at *; omega)
 have hn : ¬ n = 0 := by omega
 simp only [seval, go_sem, d1]
 (refine q00 (ref02_Of u hl) rfl ?_; rintro _ rfl)
 simp only [seval, go_sem, w1, w2, hn]
 apply hK
 simp only [seval, go_sem, Tryz.results53]
end Go.Proofs.YtdkcpcflfnakdaaGreat
namespace Go.Proofs.YtdkcpcflfnakdaaGreat
open Go Go.Proofs.YtdkcpcflfnakdaaGreat.Sym
set_option maxRecDepth 100000
set_option maxHeartbeats 1000000
set_option maxHeartbeats 2000000
structure DOk (n B : Nat) (D : Dt) : Prop where
 n1 : 1 ≤ n
 n8 : n ≤ 8
 s : D.c.s = n
 b : ∀ j, q24 B (D.b j)
 p : ∀ j, (D.f j).pairs.length ≤ B
 q : ∀ j k, ((D.f j).q k).1.length ≤ 100
 B : B ≤ 150
def Dt.tick (D : Dt) (by_ : Int) : Dt := { D with t := ⟨addW D.t.now by_, D.t.seq, D.t.cl⟩ }
def Dt.take (D : Dt) : Dt := { D with t := ⟨D.t.now, addW D.t.seq 1, D.t.cl⟩ }
def Dt.shut (D : Dt) : Dt := { D with t := ⟨D.t.now, D.t.seq, true⟩ }
theorem qtj (a b : Int) : q08 P 47 [u64 a, u64 b] (fun x => x = u64 (addW a b)) := qn5 a b
theorem doc_Tick (n pad : Nat) (D : Dt) (by_ : Int) : ACall P 26 (docT n pad D) [.ptr 0 0, u64 by_] (fun x m' => x = .tup [] ∧ m' = docT n pad (D.tick by_)) := by
 refine q1a tyOk Tryz.func26 rfl rfl fun K hK => ?_
 rw [q0y] at hK ⊢
 simp only [seval, go_sem, Tryz.ntmps26]
 (refine q00 (qtj D.t.now by_) rfl ?_; rintro _ rfl)
 simp only [seval, go_sem]
 apply hK
 simp only [seval, go_sem, Tryz.results26]
 all_goals first | rfl | exact ⟨rfl, rfl⟩
theorem qps (n pad : Nat) (D : Dt) : ACall P 48 (docT n pad D) [.ptr 0 0] (fun x m' => x = u64 (addW D.t.seq 1) ∧ m' = docT n pad D.take) := by
 refine q1a tyOk Tryz.func48 rfl rfl fun K hK => ?_
 rw [q0y] at hK ⊢
 simp only [seval, go_sem, Tryz.ntmps48]
 (refine q00 (qtj D.t.seq 1) rfl ?_; rintro _ rfl)
 simp only [seval, go_sem]
 apply hK
 simp only [seval, go_sem, Tryz.results48]
 all_goals first | rfl | exact ⟨rfl, rfl⟩
def q51 (n : Nat) (D : Dt) (u : ByteArray) : Pr := ofP (q0o (D.b (stN n u)) u).l D.t.now
theorem qfq {n pad B : Nat} {D : Dt} (h : DOk n B D) (u : ByteArray) (hl : u.size ≤ 1000000) : ACall P 30 (docT n pad D) [.ptr 0 0, str u] (fun x m' => x = (q51 n D u).av ∧ m' = docT n pad D) := by
 refine q1a tyOk Tryz.func30 rfl rfl fun K hK => ?_
 rw [q0y] at hK ⊢
 simp only [seval, go_sem, Tryz.ntmps30]
 have hs := qat h.n1 h.n8 u
 have hS := qh0 u D.c.s hl (by rw [h.s]; have := h.n1; omega) (by rw [h.s]; have := h.n8; omega)
 rw [show strI D.c.s u = ((stN n u : Nat) : Int) by rw [h.s]; exact hs.2] at hS
 unfold q51 at hK
 generalize stN n u = k at *
 have c1 : (0 : Int) ≤ ((k : Nat) : Int) ∧ Int.toNat ((k : Nat) : Int) < n := by omega
 have hb := qhn D.b hs.1
 have hP := qmf (D.b k) u D.t.now (h.b k).1 (by have := (h.b k).2.1; have := h.B; omega) (by have := (qgd (h.b k) u).2; have := h.B; omega)
 refine q0a tyOk (by rfl) (by simp only [q4i, z02, z0a, dlen]; omega) (by kernel_rfl) rfl ?_
 simp only [seval, go_sem]
 refine q16 hS rfl ?_
 simp only [seval, go_sem, c1, hb, q86]
 refine q16 hP rfl ?_
 simp only [seval, go_sem]
 refine ⟨by kernel_rfl, ?_⟩
 apply hK
 simp only [seval, go_sem, Tryz.results30]
 all_goals first | rfl | exact ⟨rfl, rfl⟩
theorem qpt {n pad B s : Nat} {D : Dt} (h : DOk n B D) (r : List AB) (hs : s < n) (l : List Chg) (seq : Int) (hl : l.length ≤ 40000) :
 ACall P 50 (docT n pad D ++ r) [.ptr (3 + s) 0, .sl 7 (chgs l), u64 seq] (fun x m' => m' = docT n pad (D.setF s (q7s (D.f s) l seq)) ++ r) :=
 qa1 D r hs (doc_Tell (D.f s) l seq (by have := h.p s; have := h.B; omega) hl (fun k => by have := h.q s k; omega)) rfl rfl (by rintro x m' rfl; exact ⟨_, rfl, rfl⟩)
def Dt.tell (D : Dt) (s : Nat) (l : List Chg) (seq : Int) : Dt := D.setF s (q7s (D.f s) l seq)
def Dt.sweep (n : Nat) (D : Dt) (s : Int) : Dt :=
 if (decide (s < 0) || decide ((n : Int) ≤ s)) = true then D
 else (D.take.setB s.toNat (q21 (D.b s.toNat) D.t.now).1).tell s.toNat (q21 (D.b s.toNat) D.t.now).2 (addW D.t.seq 1)
theorem dok_setB {n B : Nat} {D : Dt} (h : DOk n B D) (s : Nat) {b : Bk} (hb : q24 B b) : DOk n B (D.setB s b) :=
 ⟨h.n1, h.n8, h.s, fun j => by
  simp only [Dt.setB]
  split
  · exact hb
  · exact h.b j, h.p, h.q, h.B⟩
theorem dok_t {n B : Nat} {D : Dt} (h : DOk n B D) (t : Tm) : DOk n B { D with t := t } := ⟨h.n1, h.n8, h.s, h.b, h.p, h.q, h.B⟩
theorem qxk {n pad B : Nat} {D : Dt} (h : DOk n B D) (s : Int) : ACall P 27 (docT n pad D) [.ptr 0 0, i64 s] (fun x m' => x = .tup [] ∧ m' = docT n pad (D.sweep n s)) := by
 refine q1a tyOk Tryz.func27 rfl rfl fun K hK => ?_
 rw [q0y] at hK ⊢
 simp only [seval, go_sem, Tryz.ntmps27]
 unfold Dt.sweep at hK
 cases h1 : decide (s < 0) with
 | true =>
  rw [h1] at hK
  simp only [seval, go_sem]
  apply hK
  simp only [seval, go_sem, Tryz.results27]
  all_goals rfl
 | false =>
  rw [h1] at hK
  simp only [seval, go_sem]
  refine q02 ?_ ?_ <;> intro h2
  · have h2 : decide ((n : Int) ≤ s) = true := h2
    rw [h2] at hK
    simp only [seval, go_sem]
    apply hK
    simp only [seval, go_sem, Tryz.results27]
    all_goals rfl
  · have h2 : decide ((n : Int) ≤ s) = false := h2
    rw [h2] at hK
    have hs0 : ¬ s < 0 := of_decide_eq_false h1
    have hs1 : ¬ (n : Int) ≤ s := of_decide_eq_false h2
    obtain ⟨k, rfl⟩ : ∃ k : Nat, s = (k : Int) := ⟨s.toNat, by omega⟩
    have hk : k < n := by omega
    have hb := qhn D.b hk
    have c1 : (0 : Int) ≤ ((k : Nat) : Int) ∧ Int.toNat ((k : Nat) : Int) < n := by omega
    have hS := qs0 B (D.b k) D.t.now (h.b _) (by have := h.B; omega)
    have hset := dm_setBn (pad := pad) ⟨D.c, ⟨D.t.now, addW D.t.seq 1, D.t.cl⟩, D.b, D.f⟩ (q21 (D.b k) D.t.now).1 hk
    obtain ⟨hp1, hp2⟩ := qd6 (pad := pad) hk
    have hcl : (q21 (D.b k) D.t.now).2.length ≤ B := by
     have h3 := (q83 (h.b k).1 D.t.now (D.b k).length).2.2
     have h4 := (h.b k).2.1
     unfold q14 at h3
     rw [z0w] at h3
     unfold q21
     omega
    have hT := qpt (pad := pad) (dok_setB (dok_t h ⟨D.t.now, addW D.t.seq 1, D.t.cl⟩) k (qf2 (h.b k) D.t.now)) [] hk (q21 (D.b k) D.t.now).2 (addW D.t.seq 1) (by have := h.B; omega)
    rw [z0i] at hT
    simp only [seval, go_sem]
    refine q17 (Sym.ACall.mono (qps n pad D) ?_)
    rintro _ _ ⟨rfl, rfl⟩
    simp only [seval, go_sem]
    refine q0a tyOk (by rfl) (by simp only [q0y, dlen]; omega) (by kernel_rfl) rfl ?_
    simp only [seval, go_sem, c1, hb, q86, Dt.take]
    refine q16 hS rfl ?_
    simp only [seval, go_sem, c1, hb, q86]
    refine ⟨by kernel_rfl, ?_⟩
    simp only [seval, go_sem, hset, c1, hp1, hp2]
    refine q17 (Sym.ACall.mono hT ?_)
    rintro x m' rfl
    rw [z0i]
    simp only [seval, go_sem]
    apply hK
    simp only [seval, go_sem, Tryz.results27]
    simp only [z0g]
    all_goals rfl
def q73 (D : Dt) (i : Nat) : Nat := ((List.range i).map fun j => sumL (D.b j)).sum
theorem qkx (D : Dt) (i : Nat) : q73 D (i + 1) = q73 D i + sumL (D.b i) := by
 simp [q73, z2j]
theorem qq2 {D : Dt} (h : ∀ j, q24 200 (D.b j)) : ∀ i, q73 D i ≤ 40000 * i
 | 0 => by simp [q73]
 | i + 1 => by
  have h1 := qq2 h i
  have h2 := qkw (h i)
  rw [qkx]; omega
theorem usr_at {m : Bk} {i : Nat} (h : i < m.length) : (usrs m).getD (Int.toNat (i : Int)) .any = .agg [str m[i].1, .sl 4 (avs m[i].2.l), i64 m[i].2.t.st, i64 m[i].2.t.pr, i64 m[i].2.t.n] := q2d (f := usr) h
theorem qvw {n pad B : Nat} {D : Dt} (h : DOk n B D) : ACall P 32 (docT n pad D) [.ptr 0 0] (fun x m' => x = i64 (q73 D n : Nat) ∧ m' = docT n pad D) := by
 have hb : ∀ j, q24 200 (D.b j) := fun j => (h.b j).mono (by have := h.B; omega)
 have hn8 := h.n8
 refine q1a tyOk Tryz.func32 rfl rfl fun K hK => ?_
 rw [q0y] at hK ⊢
 simp only [seval, go_sem, Tryz.ntmps32]
 refine q0d tyOk (α := Nat) (dlen n) [0, 3, 4] (fun i => i ≤ n)
  (fun i => ⟨[.ptr 0 0, .any, .any, i64 (q73 D i : Nat), i64 i, .any, .any, .any, .any, .any, .any, .any, .any, .any, .any, .any, .any, .any, .any, .any, .any, .any, .any, .any, .any, .any, .any, .any, .any, .any, .any, .any, .any, .any, .any, .any, .any, .any, .any, .any, .any, .any], docT n pad D⟩)
  (fun i => n - i) 0 (by simp) (z00 _) ?_ ?_
 · simp only [seval, go_sem]
   all_goals rfl
 intro i hi
 simp only [seval, go_sem]
 refine q02 ?_ ?_ <;> intro hf
 · have hlt : i < n := by simpa using hf
   have eb := qhn D.b hlt
   have ew : IntKind.i64.wrap ((i : Int) + 1) = ((i + 1 : Nat) : Int) := by rw [wrap_i64 (by omega) (by omega)]; rfl
   have hs := qq2 hb i
   have hs2 := qkw (hb i)
   have hs3 := qkx D i
   have b1 : (0 : Int) ≤ (i : Int) ∧ Int.toNat (i : Int) < n := by omega
   have hbi := hb i
   simp only [seval, go_sem]
   refine q0d tyOk (α := Nat) (dlen n) [0, 3, 4, 5] (fun j => j ≤ (D.b i).length)
    (fun j => ⟨[.ptr 0 0, .any, .any, i64 (q73 D i + sumL ((D.b i).take j) : Nat), i64 i, i64 j, .any, .any, .any, .any, .any, .any, .any, .any, .any, .any, .any, .any, .any, .any, .any, .any, .any, .any, .any, .any, .any, .any, .any, .any, .any, .any, .any, .any, .any, .any, .any, .any, .any, .any, .any, .any], docT n pad D⟩)
    (fun j => (D.b i).length - j) 0 (by simp) (z00 _) ?_ ?_
   · simp only [seval, go_sem]
     all_goals rfl
   intro j hj
   simp only [seval, go_sem, eb, b1, q86, q1w]
   refine q02 ?_ ?_ <;> intro hf2
   · have hlt2 : j < (D.b i).length := by simpa using hf2
     have eu := usr_at hlt2
     have ew2 : IntKind.i64.wrap ((j : Int) + 1) = ((j + 1 : Nat) : Int) := by rw [wrap_i64 (by have := hbi.2.1; omega) (by have := hbi.2.1; omega)]; rfl
     have b2 : (0 : Int) ≤ (j : Int) ∧ Int.toNat (j : Int) < (D.b i).length := by omega
     have hn := qj3 hlt2
     have hsl := qpl hbi j
     have hml := hbi.2.1
     have hel := (hbi.2.2 _ (z1i hlt2)).2
     have ew3 : IntKind.i64.wrap (((q73 D i + sumL ((D.b i).take j) : Nat) : Int) + (((D.b i)[j].2.l.length : Nat) : Int)) = ((q73 D i + sumL ((D.b i).take (j + 1)) : Nat) : Int) := by
      have : 200 * j ≤ 200 * 200 := z4l _ (by omega)
      rw [hn, wrap_i64 (by omega) (by omega)]; omega
     generalize (D.b i)[j] = p at *
     simp only [seval, go_sem, eb, b1, b2, eu, q86, q1w, q07, ew2, ew3]
     simp only [seval, go_sem, q01]
     all_goals exact ⟨j + 1, hlt2, by omega, rfl⟩
   · obtain rfl : j = (D.b i).length := by have := of_decide_eq_false hf2; omega
     rw [z0w, ← hs3]
     simp only [seval, go_sem, ew]
     simp only [seval, go_sem, q01]
     all_goals exact ⟨i + 1, hlt, by omega, rfl⟩
 · obtain rfl : i = n := by have := of_decide_eq_false hf; omega
   simp only [seval, go_sem]
   apply hK
   simp only [seval, go_sem, Tryz.results32]
   try rfl
end Go.Proofs.YtdkcpcflfnakdaaGreat
namespace Go.Proofs.YtdkcpcflfnakdaaGreat
open Go Go.Proofs.YtdkcpcflfnakdaaGreat.Sym
set_option maxRecDepth 100000
set_option maxHeartbeats 1000000
set_option maxHeartbeats 4000000
theorem qqe {n pad B s : Nat} {D : Dt} (h : DOk n B D) (r : List AB) (hs : s < n) (who : Int) (u : ByteArray) :
 ACall P 56 (docT n pad D ++ r) [.ptr (3 + s) 0, i64 who, str u] (fun x m' => x = bool (watD (D.f s).pairs who u) ∧ m' = docT n pad D ++ r) :=
 qa1 D r hs (qc6 (D.f s) who u (by have := h.p s; have := h.B; omega)) rfl rfl (by
  rintro x m' ⟨rfl, rfl⟩; refine ⟨_, rfl, rfl, ?_⟩
  have : D.setF s (D.f s) = D := by
   cases D with
   | mk c t b f => simp only [Dt.setF, Dt.mk.injEq, true_and]; funext j; split <;> simp_all
  rw [this])
theorem qv7 (D : Dt) (s : Nat) : D.setF s (D.f s) = D := by
 cases D with
 | mk c t b f => simp only [Dt.setF, Dt.mk.injEq, true_and]; funext j; split <;> simp_all
theorem qyg {n pad B s : Nat} {D : Dt} (h : DOk n B D) (r : List AB) (hs : s < n) (who : Int) :
 ACall P 55 (docT n pad D ++ r) [.ptr (3 + s) 0, i64 who] (fun x m' => x = i64 (cntD (D.f s).pairs who : Nat) ∧ m' = docT n pad D ++ r) :=
 qa1 D r hs (qy2 (D.f s) who (by have := h.p s; have := h.B; omega)) rfl rfl (by
  rintro x m' ⟨rfl, rfl⟩; exact ⟨_, rfl, rfl, by rw [qv7]⟩)
def Dt.watchF (D : Dt) (s : Nat) (who : Int) (u : ByteArray) : Dt := D.setF s { D.f s with pairs := q4c (D.f s).pairs who u }
def Dt.unwatchF (D : Dt) (s : Nat) (who : Int) (u : ByteArray) : Dt := D.setF s { D.f s with pairs := unwD (D.f s).pairs who u }
theorem qnm {n pad B s : Nat} {D : Dt} (h : DOk n B D) (r : List AB) (hs : s < n) (who : Int) (u : ByteArray) :
 ACall P 57 (docT n pad D ++ r) [.ptr (3 + s) 0, i64 who, str u] (fun x m' => m' = docT n pad (D.watchF s who u) ++ r) :=
 qa1 D r hs (qyk (D.f s) who u (by have := h.p s; have := h.B; omega)) rfl rfl (by rintro x m' rfl; exact ⟨_, rfl, rfl⟩)
theorem qsy {n pad B s : Nat} {D : Dt} (h : DOk n B D) (r : List AB) (hs : s < n) (who : Int) (u : ByteArray) :
 ACall P 58 (docT n pad D ++ r) [.ptr (3 + s) 0, i64 who, str u] (fun x m' => m' = docT n pad (D.unwatchF s who u) ++ r) :=
 qa1 D r hs (qsc (D.f s) who u (by have := h.p s; have := h.B; omega)) rfl rfl (by rintro x m' rfl; exact ⟨_, rfl, rfl⟩)
theorem qzg {n pad s : Nat} {D : Dt} (r : List AB) (hs : s < n) (who : Int) (hw : cli who = true) :
 ACall P 51 (docT n pad D ++ r) [.ptr (3 + s) 0, i64 who] (fun x m' => x = .tup [.sl 8 (evts ((D.f s).q who.toNat).1), bool ((D.f s).q who.toNat).2] ∧ m' = docT n pad (D.setF s ((D.f s).drain who)) ++ r) :=
 qa1 D r hs (qyh (D.f s) who) rfl rfl (by
  rintro x m' ⟨rfl, rfl⟩
  rw [if_pos hw, if_pos hw]
  refine ⟨_, rfl, ?_, rfl⟩
  simp only [ren, q0i])
theorem dm_ren (n pad : Nat) (D : Dt) : renM (List.range' 0 (dlen n)) (docT n pad D) = docT n pad D := by
 have : ∀ l : List AB, renM (List.range' 0 (dlen n)) l = l.map (AB.ren (List.range' 0 (dlen n))) := by
  intro l; induction l with
  | nil => rfl
  | cons b l ih => rw [renM, ih]; rfl
 rw [this]
 exact qkp (fun cs hc => by simp only [AB.ren]; rw [q4n cs hc]) (fun blk hb => by cases blk <;> first | rfl | exact absurd rfl (hb _))
theorem doc_in {g : FuncId} {args : List AV} {K0 K : AV → List AB → Prop} {n pad : Nat} {D : Dt} {r : List AB} (h : ACall P g (docT n pad D) args K0) (hb : (q03 args).all (fun b => decide (b < 3)) = true)
 (hK : ∀ x m', K0 x m' → bks x = [] ∧ ∃ D', m' = docT n pad D' ∧ K x (docT n pad D' ++ r)) : ACall P g (docT n pad D ++ r) args K := by
 have hb' : ∀ b ∈ q03 args, b < dlen n := fun b hm => by have := z0l.1 hb b hm; simp only [decide_eq_true_eq] at this; simp only [dlen]; omega
 refine h.frame (List.range' 0 (dlen n)) z2c ?_ (q4n args hb').symm (by rw [z22]; exact z0l.2 fun b hm => decide_eq_true (hb' b hm)) (by rw [z22]; exact qfx n pad D) ?_
 · rw [dm_ren]
   apply z1e
   intro i
   by_cases hi : i < dlen n
   · rw [z11, q38 hi, z11]
     simp only [z19, z16]
     rw [z0j (by rw [q0y]; exact hi), z05 (by rw [q0y]; exact hi)]
     rfl
   · rw [z0p (by simp; omega), z0p (by simp [q0y]; omega)]
 · intro x m' hx
   obtain ⟨hbx, D', rfl, hv⟩ := hK x m' hx
   refine ⟨by rw [q0y, q0y], ?_⟩
   rw [dm_ren, qj7 hbx]
   have : putL (docT n pad D ++ r) (List.range' 0 (dlen n)) (docT n pad D') = docT n pad D' ++ r := by
    apply z1e
    intro i
    by_cases hi : i < dlen n
    · obtain ⟨z, hg⟩ : ∃ z, (docT n pad D')[i]? = some z := ⟨_, z05 (by rw [q0y]; exact hi)⟩
      rw [q9m _ _ _ i i z z2c (by rw [q38 hi, z16]) hg (by rw [q4i]; omega), z0j (by rw [q0y]; exact hi), hg]
    · rw [q6m _ _ _ _ (fun hm => by have := (q39.1 hm).2; omega)]
      obtain ⟨k, rfl⟩ := z2a (z1x hi)
      rw [qbb, qbb]
   rw [this]; exact hv
theorem qoh {n pad B : Nat} {D : Dt} (h : DOk n B D) (u : ByteArray) (hl : u.size ≤ 1000000) (r : List AB) : ACall P 30 (docT n pad D ++ r) [.ptr 0 0, str u] (fun x m' => x = (q51 n D u).av ∧ m' = docT n pad D ++ r) :=
 doc_in (qfq h u hl) rfl (by rintro x m' ⟨rfl, rfl⟩; exact ⟨rfl, D, rfl, rfl, rfl⟩)
theorem dtake_in (n pad : Nat) (D : Dt) (r : List AB) : ACall P 48 (docT n pad D ++ r) [.ptr 0 0] (fun x m' => x = u64 (addW D.t.seq 1) ∧ m' = docT n pad D.take ++ r) :=
 doc_in (qps n pad D) rfl (by rintro x m' ⟨rfl, rfl⟩; exact ⟨rfl, D.take, rfl, rfl, rfl⟩)
def Dt.drains (D : Dt) (who : Int) (i : Nat) : Dt := { D with f := fun j => if j < i then (D.f j).drain who else D.f j }
theorem qxy (D : Dt) (who : Int) : D.drains who 0 = D := by
 simp only [Dt.drains, z28, if_false]
theorem qr3 (D : Dt) (who : Int) (i : Nat) : (D.drains who i).setF i (((D.drains who i).f i).drain who) = D.drains who (i + 1) := by
 simp only [Dt.drains, Dt.setF, Nat.lt_irrefl, if_false]
 congr 1
 funext j
 by_cases h1 : j = i
 · subst h1; simp
 · rw [if_neg h1]
   by_cases h2 : j < i
   · rw [if_pos h2, if_pos (by omega)]
   · rw [if_neg h2, if_neg (by omega)]
theorem qvu (D : Dt) (who : Int) (i : Nat) : (D.drains who i).f i = D.f i := by simp [Dt.drains]
def q5v (D : Dt) (who : Int) (i : Nat) : Rws := (List.range i).map fun j => ((D.f j).q who.toNat).1
def qcs (D : Dt) (who : Int) (i : Nat) : Bool := (List.range i).any fun j => ((D.f j).q who.toNat).2
theorem qls (D : Dt) (who : Int) (i : Nat) : q5v D who (i + 1) = q5v D who i ++ [((D.f i).q who.toNat).1] := by simp [q5v, z2j]
theorem qu6 (D : Dt) (who : Int) (i : Nat) : qcs D who (i + 1) = (qcs D who i || ((D.f i).q who.toNat).2) := by simp [qcs, z2j]
theorem qnt (D : Dt) (who : Int) (i : Nat) : (q5v D who i).length = i := by simp [q5v]
def q4o (D : Dt) (who : Int) (i : Nat) : Nat := ((List.range i).map fun j => cntD (D.f j).pairs who).sum
theorem qi8 (D : Dt) (who : Int) (i : Nat) : q4o D who (i + 1) = q4o D who i + cntD (D.f i).pairs who := by
 simp [q4o, z2j]
theorem qtn (l : Prd) (who : Int) : cntD l who ≤ l.length := z1n _ _
theorem qn9 {n B : Nat} {D : Dt} (h : DOk n B D) (who : Int) : ∀ i, q4o D who i ≤ B * i
 | 0 => by simp [q4o]
 | i + 1 => by
  have h1 := qn9 h who i
  have h2 := qtn (D.f i).pairs who
  have h3 := h.p i
  rw [qi8, z5q]; omega
def qlc (n : Nat) (D : Dt) (who : Int) (u : ByteArray) : Bool := (!watD (D.f (stN n u)).pairs who u) && decide (D.c.w ≤ (q4o D who n : Nat))
def Dt.write (n : Nat) (D : Dt) (o : Opb) : Dt :=
 if D.t.cl = true then D.take else (D.take.setB (stN n o.u) (q2a (D.b (stN n o.u)) o D.t.now D.c.k)).tell (stN n o.u) (q32 (D.b (stN n o.u)) o D.t.now D.c.k) (addW D.t.seq 1)
def docR (n : Nat) (D : Dt) (who : Int) (o : Opb) : Rp :=
 if (badO o || !inB who 0 7) = true then errR 1
 else if (o.kind == 1 || (o.kind == 2 || o.kind == 3)) = true then (if D.t.cl = true then errR 5 else errR (q1t (D.b (stN n o.u)) o D.t.now D.c.k).2)
 else if (o.kind == 8) = true then ⟨0, none, some (q3q (q5v D who n)), qcs D who n⟩
 else if D.t.cl = true then errR 5
 else if (o.kind == 6) = true then errR (if qlc n D who o.u = true then 4 else 0)
 else if (o.kind == 7) = true then errR 0
 else if (o.kind == 9) = true then errR 0
 else ⟨0, some ((q4m o).map (q51 n D)), none, false⟩
def qel (n : Nat) (D : Dt) (who : Int) (o : Opb) : Dt :=
 if (badO o || !inB who 0 7) = true then D
 else if (o.kind == 1 || (o.kind == 2 || o.kind == 3)) = true then D.write n o
 else if (o.kind == 8) = true then D.drains who n
 else if D.t.cl = true then D
 else if (o.kind == 6) = true then (if qlc n D who o.u = true then D else D.watchF (stN n o.u) who o.u)
 else if (o.kind == 7) = true then D.unwatchF (stN n o.u) who o.u
 else if (o.kind == 9) = true then D.shut
 else D
theorem kind_of {o : Opb} (h : badO o = false) : o.kind = 1 ∨ o.kind = 2 ∨ o.kind = 3 ∨ o.kind = 4 ∨ o.kind = 5 ∨ o.kind = 6 ∨ o.kind = 7 ∨ o.kind = 8 ∨ o.kind = 9 := by
 by_cases h1 : (o.kind == 1 || (o.kind == 2 || o.kind == 3)) = true
 · simp only [z1q, beq_iff_eq] at h1; omega
 · by_cases h8 : (o.kind == 8) = true
   · simp only [beq_iff_eq] at h8; omega
   · by_cases h6 : (o.kind == 6) = true
     · simp only [beq_iff_eq] at h6; omega
     · by_cases h7 : (o.kind == 7) = true
       · simp only [beq_iff_eq] at h7; omega
       · by_cases h9 : (o.kind == 9) = true
         · simp only [beq_iff_eq] at h9; omega
         · have := kinds h (by simpa using h1) (by simpa using h8) (by simpa using h6) (by simpa using h7) (by simpa using h9)
           simp only [z1q, beq_iff_eq] at this; omega
end Go.Proofs.YtdkcpcflfnakdaaGreat
namespace Go.Proofs.YtdkcpcflfnakdaaGreat
open Go Go.Proofs.YtdkcpcflfnakdaaGreat.Sym
set_option maxRecDepth 100000
set_option maxHeartbeats 1000000
set_option maxHeartbeats 8000000
theorem tk_c (D : Dt) : D.take.c = D.c := rfl
theorem tk_b (D : Dt) : D.take.b = D.b := rfl
theorem qlq (D : Dt) : D.take.t.now = D.t.now := rfl
theorem tk_cl (D : Dt) : D.take.t.cl = D.t.cl := rfl
theorem doc_Do {n pad B : Nat} {D : Dt} (h : DOk n B D) (hB : B + 1 ≤ 150) (who : Int) (o : Opb) (ho : OpOk o) : ACall P 28 (docT n pad D) [.ptr 0 0, i64 who, o.av]
 (fun x m' => x = (docR n D who o).av ∧ m' = docT n pad (qel n D who o)) := by
 refine q1a tyOk Tryz.func28 rfl rfl fun K hK => ?_
 rw [q0y] at hK ⊢
 simp only [seval, go_sem, Tryz.ntmps28]
 have hBad := ref_Bad o ho.l
 have hs0 := qat h.n1 h.n8 o.u
 have hS := qh0 o.u D.c.s (by have := ho.u; omega) (by rw [h.s]; have := h.n1; omega) (by rw [h.s]; have := h.n8; omega)
 rw [show strI D.c.s o.u = ((stN n o.u : Nat) : Int) by rw [h.s]; exact hs0.2] at hS
 have hbb : badO o = badO o := rfl
 unfold docR qel at hK
 unfold Opb.av at hBad
 simp only [seval, go_sem, Opb.av]
 (refine q00 hBad rfl ?_; rintro _ rfl)
 cases hb : badO o with
 | true =>
  simp only [hb, z30, ↓reduceIte] at hK
  simp only [seval, go_sem]
  apply hK
  simp only [seval, go_sem, Tryz.results28]
  all_goals first | rfl | exact ⟨rfl, rfl⟩
 | false =>
 simp only [seval, go_sem]
 by_cases w1 : who < 0
 · have d1 : decide (who < 0) = true := decide_eq_true w1
   have hi : inB who 0 7 = false := by unfold inB; rw [decide_eq_false (by omega)]; rfl
   simp only [hb, hi, z2t, z3c, ↓reduceIte] at hK
   simp only [seval, go_sem, d1]
   apply hK
   simp only [seval, go_sem, Tryz.results28]
   all_goals first | rfl | exact ⟨rfl, rfl⟩
 have d1 : decide (who < 0) = false := decide_eq_false w1
 by_cases w2 : 7 < who
 · have d2 : decide (7 < who) = true := decide_eq_true w2
   have d2' : decide (who > 7) = true := decide_eq_true w2
   have hi : inB who 0 7 = false := by unfold inB; rw [decide_eq_false (by omega : ¬ who ≤ 7), z2r]
   simp only [hb, hi, z2t, z3c, ↓reduceIte] at hK
   simp only [seval, go_sem, d1, d2]
   apply hK
   simp only [seval, go_sem, Tryz.results28]
   all_goals first | rfl | exact ⟨rfl, rfl⟩
 have d2 : decide (7 < who) = false := decide_eq_false w2
 have d2' : decide (who > 7) = false := decide_eq_false w2
 have hi : inB who 0 7 = true := by unfold inB; rw [decide_eq_true (by omega), decide_eq_true (by omega)]; rfl
 have hcl := qqd hi
 simp only [hb, hi, z4k, Bool.or_self, z0n, ↓reduceIte] at hK
 simp only [seval, go_sem, d1, d2]
 have hk := kind_of hb
 obtain ⟨kd, u, id, st, pr, ttl, us⟩ := o
 obtain ⟨ho1, ho2, ho3⟩ := ho
 simp only at hk hK hS hs0 ho1 ho2 ho3 ⊢
 have hs := hs0.1
 have hM1 : ∀ (o : Opb), DOk n (B + 1) (D.take.setB (stN n u) (q2a (D.b (stN n u)) o D.t.now D.c.k)) := fun o =>
  ⟨h.n1, h.n8, h.s, fun j => by
   simp only [Dt.setB]
   split
   · exact qf7 (h.b _) o _ _
   · exact (h.b j).mono (z3e _), fun j => z2q (h.p j), h.q, hB⟩
 obtain ⟨k, hkk⟩ : ∃ k, stN n u = k := ⟨_, rfl⟩
 rw [hkk] at hS hs hK hM1
 have c1 : (0 : Int) ≤ ((k : Nat) : Int) ∧ Int.toNat ((k : Nat) : Int) < n := by omega
 have hbk := qhn D.b hs
 obtain ⟨hp1, hp2⟩ := qd6 (pad := pad) hs
 have hset (v : Bk) (r : List AB) := dm_setB (pad := pad) D.take r v hs
 simp only [tk_b] at hset
 by_cases hk3 : kd < 4
 · have kw : (kd == 1 || (kd == 2 || kd == 3)) = true := by simp only [z1q, beq_iff_eq]; omega
   have k8 : (kd == 8) = false := beq_eq_false_iff_ne.2 (by omega)
   have k4 : decide (kd < 4) = true := decide_eq_true hk3
   simp only [kw, ↓reduceIte] at hK
   simp only [seval, go_sem, k8, k4]
   have hW := qrs B (D.b k) ⟨kd, u, id, st, pr, ttl, us⟩ D.t.now D.c.k (h.b k) h.B
   unfold Opb.av at hW
   simp only at hW
   have hT := qpt (pad := pad) (hM1 ⟨kd, u, id, st, pr, ttl, us⟩) [.box [i64 kd, str u, i64 id, i64 st, i64 pr, u64 ttl, .sl 1 (us.map fun x => str x)], .box [i64 0, .v (.slice none 0 0), .v (.slice none 0 0), bool false], .box [i64 0, .v (.slice none 0 0), .v (.slice none 0 0), bool false]] hs (q32 (D.b k) ⟨kd, u, id, st, pr, ttl, us⟩ D.t.now D.c.k) (addW D.t.seq 1) (by
    unfold q32 q3u; split <;> simp)
   refine q17 (Sym.ACall.mono (dtake_in n pad D _) ?_)
   rintro _ _ ⟨rfl, rfl⟩
   cases hc : D.t.cl with
   | true =>
    simp only [hc, Dt.write, ↓reduceIte] at hK
    simp only [seval, go_sem, tk_c, qlq, tk_cl, hc]
    apply hK
    simp only [seval, go_sem, Tryz.results28]
    all_goals first | rfl | exact ⟨rfl, rfl⟩
   | false =>
    simp only [hc, Dt.write, z0n, ↓reduceIte] at hK
    simp only [hkk] at hK
    simp only [seval, go_sem, tk_c, qlq, tk_cl, hc]
    refine q0a tyOk (by rfl) (by simp only [q4i, z02, z0a, dlen]; omega) (by kernel_rfl) rfl ?_
    simp only [seval, go_sem, tk_c, qlq, tk_cl]
    refine q16 hS rfl ?_
    simp only [seval, go_sem]
    refine ⟨by kernel_rfl, ?_⟩
    refine q0a tyOk (by rfl) (by simp only [q4i, z02, z0a, dlen]; omega) (by kernel_rfl) rfl ?_
    simp only [seval, go_sem, tk_c, tk_b, qlq, tk_cl, hbk, c1, q86]
    refine q16 hW rfl ?_
    simp only [seval, go_sem]
    refine ⟨by kernel_rfl, ?_⟩
    simp only [seval, go_sem, tk_b, hset, hbk, c1, hp1, hp2, q86]
    refine q17 (Sym.ACall.mono hT ?_)
    rintro _ _ rfl
    simp only [seval, go_sem]
    apply hK
    simp only [seval, go_sem, Tryz.results28]
    all_goals first | rfl | exact ⟨rfl, rfl⟩
 have kw : (kd == 1 || (kd == 2 || kd == 3)) = false := by
  rw [beq_eq_false_iff_ne.2 (by omega), beq_eq_false_iff_ne.2 (by omega), beq_eq_false_iff_ne.2 (by omega)]; rfl
 have k4 : decide (kd < 4) = false := decide_eq_false hk3
 simp only [kw, z0n, ↓reduceIte] at hK
 by_cases e8 : kd = 8
 · have k8 : (kd == 8) = true := beq_iff_eq.2 e8
   simp only [k8, ↓reduceIte] at hK
   simp only [seval, go_sem, k8]
   refine q1r (q0c.adopt (i := 8) 39 1 rfl) ?_
   simp only [seval, go_sem]
   refine q0d tyOk (α := Nat) (dlen n + 4) [0, 1, 5, 6, 7, 8, 9] (fun i => i ≤ n)
    (fun i => ⟨[.ptr 0 0, i64 who, .any, .any, .any, .ptr (dlen n) 0, .ptr (dlen n + 1) 0, .ptr (dlen n + 2) 0, .own (dlen n + 3) 1 0 i, i64 i, .any, .any, .any, .any, .any, .any, .any, .any, .any, .any, .any, .any, .any, .any, .any, .any, .any, .any, .any, .any, .any, .any, .any, .any, .any, .any, .any, .any, .any, .any, .any, .any, .any, .any, .any, .any, .any, .any, .any, .any, .any, .any, .any, .any, .any, .any, .any, .any, .any, .any, .any, .any, .any, .any, .any, .any, .any, .any, .any, .any, .any, .any, .any, .any, .any, .any, .any, .any, .any, .any, .any, .any, .any, .any, .any, .any, .any, .any, .any, .any, .any, .any, .any, .any, .any, .any, .any, .any, .any, .any, .any, .any, .any, .any, .any, .any, .any, .any, .any, .any, .any, .any, .any, .any, .any, .any, .any, .any, .any, .any, .any, .any, .any, .any, .any, .any, .any, .any, .any, .any, .any, .any, .any, .any, .any, .any, .any, .any, .any, .any, .any, .any, .any, .any, .any, .any, .any, .any, .any, .any, .any, .any, .any, .any, .any, .any, .any, .any, .any, .any, .any, .any, .any, .any, .any, .any, .any, .any, .any, .any, .any, .any, .any, .any, .any, .any, .any, .any, .any, .any, .any, .any, .any, .any, .any, .any, .any, .any, .any, .any, .any, .any, .any, .any, .any, .any, .any, .any, .any, .any, .any, .any, .any, .any, .any, .any, .any, .any, .any, .any, .any, .any, .any, .any, .any, .any, .any, .any, .any, .any, .any, .any, .any, .any, .any, .any, .any, .any, .any, .any, .any, .any, .any, .any, .any, .any, .any, .any, .any, .any, .any, .any, .any, .any, .any, .any, .any, .any, .any, .any, .any, .any, .any, .any, .any, .any, .any, .any, .any], docT n pad (D.drains who i) ++ [.box [i64 kd, str u, i64 id, i64 st, i64 pr, u64 ttl, .sl 1 (us.map fun x => str x)], .box [i64 0, .v (.slice none 0 0), .v (.slice none 0 0), bool false], .box [i64 0, .v (.slice none 0 0), .v (.slice none 0 0), bool (qcs D who i)], .row 39 1 (rws (q5v D who i))]⟩)
    (fun i => n - i) 0 (by omega) (z00 _) ?_ ?_
   · rw [qxy]
     simp only [seval, go_sem]
     all_goals rfl
   intro i hi
   have hpll : (q53 n pad).length = n + pad := by simp [q53]
   simp only [seval, go_sem]
   refine q02 ?_ ?_ <;> intro hc
   · have hlt : i < n := by simpa using hc
     have c2 : (0 : Int) ≤ ((i : Nat) : Int) ∧ Int.toNat ((i : Nat) : Int) < n := by omega
     obtain ⟨hq1, hq2⟩ := qd6 (pad := pad) hlt
     have hn8 := h.n8
     have ew2 : IntKind.i64.wrap ((i : Int) + 1) = ((i + 1 : Nat) : Int) := by rw [wrap_i64 (by omega) (by omega)]; rfl
     have hl := qnt D who i
     simp only [seval, go_sem, c2, hq1, hq2]
     refine q17 (Sym.ACall.mono (qzg (D := D.drains who i) (pad := pad) _ hlt who hcl) ?_)
     rintro x m' ⟨rfl, rfl⟩
     rw [qr3, qvu]
     simp only [seval, go_sem, q3i, hl]
     refine ⟨⟨by simp only [maxLen]; omega, by omega⟩, ?_⟩
     have er : rws (q5v D who i) ++ [.sl 8 (evts ((D.f i).q who.toNat).1)] = rws (q5v D who (i + 1)) := by rw [qls, rws, rws, z12]; rfl
     have el := qu6 D who i
     cases hL : qcs D who i with
     | true =>
      rw [hL, z30] at el
      simp only [seval, go_sem, ew2]
      simp only [seval, go_sem, q01, er]
      all_goals exact ⟨i + 1, hlt, by omega, by rw [el]⟩
     | false =>
      rw [hL, z2g] at el
      simp only [seval, go_sem, ew2]
      simp only [seval, go_sem, q01, er]
      all_goals exact ⟨i + 1, hlt, by omega, by rw [el]⟩
   · have hge : i = n := by have : ¬ ((i : Int) < (n : Int)) := by simpa using hc
                            omega
     subst hge
     have hn8 := h.n8
     have hl := qnt D who i
     have hM := qs8 (q5v D who i) (by omega) (by
      have : ∀ k, total (q5v D who k) ≤ 100 * k := by
       intro k
       induction k with
       | zero => simp [q5v, total]
       | succ k ih =>
        have h1 := h.q k who.toNat
        rw [qls]
        simp only [total, z12, z57, z0r, z0o, z4w, List.sum_nil] at ih ⊢
        omega
      have := this i
      omega) (by
      intro j
      by_cases hj : j < i
      · have := h.q j who.toNat
        simp only [q5v, z04, z11, z5a hj, z19, z3x]
        omega
      · rw [z04, z0p (by omega)]
        simp)
     simp only [seval, go_sem]
     refine qk5 ?_
     simp only [seval, go_sem, q3i, hl]
     rw [z07 (by rw [q3i, hl]; exact z09 _)]
     (refine q00 hM rfl ?_; rintro _ rfl)
     simp only [seval, go_sem]
     apply hK
     simp only [seval, go_sem, Tryz.results28]
     all_goals first | rfl | exact ⟨rfl, rfl⟩
 have k8 : (kd == 8) = false := beq_eq_false_iff_ne.2 e8
 simp only [k8, z0n, ↓reduceIte] at hK
 simp only [seval, go_sem, k8, k4]
 cases hc : D.t.cl with
 | true =>
  simp only [hc, ↓reduceIte] at hK
  simp only [seval, go_sem]
  apply hK
  simp only [seval, go_sem, Tryz.results28]
  all_goals first | rfl | exact ⟨rfl, rfl⟩
 | false =>
 simp only [hc, z0n, ↓reduceIte] at hK
 simp only [seval, go_sem]
 by_cases e6 : kd = 6
 · have q6 : (kd == 6) = true := beq_iff_eq.2 e6
   have q4 : (kd == 4) = false := beq_eq_false_iff_ne.2 (by omega)
   have q5 : (kd == 5) = false := beq_eq_false_iff_ne.2 (by omega)
   simp only [q6, ↓reduceIte] at hK
   simp only [seval, go_sem, q4, q5, q6]
   refine q0a tyOk (by rfl) (by simp only [q4i, z02, z0a, dlen]; omega) (by kernel_rfl) rfl ?_
   simp only [seval, go_sem]
   refine q16 hS rfl ?_
   simp only [seval, go_sem]
   refine ⟨by kernel_rfl, ?_⟩
   refine q0d tyOk (α := Nat) (dlen n + 3) [0, 1, 5, 6, 7, 18, 19, 20] (fun i => i ≤ n)
    (fun i => ⟨[.ptr 0 0, i64 who, .any, .any, .any, .ptr (dlen n) 0, .ptr (dlen n + 1) 0, .ptr (dlen n + 2) 0, .any, .any, .any, .any, .any, .any, .any, .any, .any, .any, i64 k, i64 (q4o D who i : Nat), i64 i, .any, .any, .any, .any, .any, .any, .any, .any, .any, .any, .any, .any, .any, .any, .any, .any, .any, .any, .any, .any, .any, .any, .any, .any, .any, .any, .any, .any, .any, .any, .any, .any, .any, .any, .any, .any, .any, .any, .any, .any, .any, .any, .any, .any, .any, .any, .any, .any, .any, .any, .any, .any, .any, .any, .any, .any, .any, .any, .any, .any, .any, .any, .any, .any, .any, .any, .any, .any, .any, .any, .any, .any, .any, .any, .any, .any, .any, .any, .any, .any, .any, .any, .any, .any, .any, .any, .any, .any, .any, .any, .any, .any, .any, .any, .any, .any, .any, .any, .any, .any, .any, .any, .any, .any, .any, .any, .any, .any, .any, .any, .any, .any, .any, .any, .any, .any, .any, .any, .any, .any, .any, .any, .any, .any, .any, .any, .any, .any, .any, .any, .any, .any, .any, .any, .any, .any, .any, .any, .any, .any, .any, .any, .any, .any, .any, .any, .any, .any, .any, .any, .any, .any, .any, .any, .any, .any, .any, .any, .any, .any, .any, .any, .any, .any, .any, .any, .any, .any, .any, .any, .any, .any, .any, .any, .any, .any, .any, .any, .any, .any, .any, .any, .any, .any, .any, .any, .any, .any, .any, .any, .any, .any, .any, .any, .any, .any, .any, .any, .any, .any, .any, .any, .any, .any, .any, .any, .any, .any, .any, .any, .any, .any, .any, .any, .any, .any, .any, .any, .any, .any, .any, .any, .any, .any, .any, .any, .any, .any, .any, .any, .any, .any, .any, .any, .any, .any, .any, .any], docT n pad D ++ [.box [i64 kd, str u, i64 id, i64 st, i64 pr, u64 ttl, .sl 1 (us.map fun x => str x)], .box [i64 0, .v (.slice none 0 0), .v (.slice none 0 0), bool false], .box [i64 0, .v (.slice none 0 0), .v (.slice none 0 0), bool false]]⟩)
    (fun i => n - i) 0 (by omega) (z00 _) ?_ ?_
   · simp only [seval, go_sem]
     all_goals rfl
   intro i hi
   simp only [seval, go_sem]
   refine q02 ?_ ?_ <;> intro hcc
   · have hlt : i < n := by simpa using hcc
     have c2 : (0 : Int) ≤ ((i : Nat) : Int) ∧ Int.toNat ((i : Nat) : Int) < n := by omega
     obtain ⟨hq1, hq2⟩ := qd6 (pad := pad) hlt
     have hC := qyg (pad := pad) h [.box [i64 kd, str u, i64 id, i64 st, i64 pr, u64 ttl, .sl 1 (us.map fun x => str x)], .box [i64 0, .v (.slice none 0 0), .v (.slice none 0 0), bool false], .box [i64 0, .v (.slice none 0 0), .v (.slice none 0 0), bool false]] hlt who
     have hcl := qn9 h who i
     have hcl2 := qtn (D.f i).pairs who
     have hcl3 := h.p i
     have hn8 := h.n8
     have hmul : B * i ≤ 150 * 8 := z5w (by omega) (by omega)
     have ew : IntKind.i64.wrap (((q4o D who i : Nat) : Int) + ((cntD (D.f i).pairs who : Nat) : Int)) = ((q4o D who i + cntD (D.f i).pairs who : Nat) : Int) := by rw [wrap_i64 (by omega) (by omega)]; omega
     have ew2 : IntKind.i64.wrap ((i : Int) + 1) = ((i + 1 : Nat) : Int) := by rw [wrap_i64 (by omega) (by omega)]; rfl
     simp only [seval, go_sem, c2, hq1, hq2]
     refine q17 (Sym.ACall.mono hC ?_)
     rintro _ _ ⟨rfl, rfl⟩
     simp only [seval, go_sem, ew, ew2]
     simp only [seval, go_sem, q01]
     all_goals exact ⟨i + 1, hlt, by omega, by rw [qi8]⟩
   · have hge : i = n := by have : ¬ ((i : Int) < (n : Int)) := by simpa using hcc
                            omega
     subst hge
     have hn8 := h.n8
     have hW := qqe (pad := pad) h [.box [i64 kd, str u, i64 id, i64 st, i64 pr, u64 ttl, .sl 1 (us.map fun x => str x)], .box [i64 0, .v (.slice none 0 0), .v (.slice none 0 0), bool false], .box [i64 0, .v (.slice none 0 0), .v (.slice none 0 0), bool false]] hs who u
     unfold qlc at hK
     simp only [hkk] at hK
     simp only [seval, go_sem]
     refine q0a tyOk (by rfl) (by simp only [q4i, z02, z0a, dlen]; omega) (by kernel_rfl) rfl ?_
     simp only [seval, go_sem, c1, hp1, hp2]
     refine q0v hW (by rfl) ?_
     cases hw : watD (D.f k).pairs who u with
     | true =>
      rw [hw] at hK
      simp only [z4k] at hK
      simp only [seval, go_sem]
      refine ⟨by (rcases q2v h.n1 h.n8 with rfl | rfl | rfl | rfl | rfl | rfl | rfl | rfl <;> kernel_rfl), ?_⟩
      refine qbn tyOk (by rfl) rfl rfl rfl (by simp only [q4i, z02, z0a, dlen]; omega) (by kernel_rfl) rfl (by kernel_rfl) ?_
      simp only [List.dropLast, List.getLast]
      simp only [seval, go_sem, c1, hp1, hp2]
      refine ⟨by kernel_rfl, ?_⟩
      refine q17 (Sym.ACall.mono (qnm (pad := pad) h _ hs who u) ?_)
      rintro _ _ rfl
      simp only [seval, go_sem]
      apply hK
      simp only [seval, go_sem, Tryz.results28]
      all_goals first | rfl | exact ⟨rfl, rfl⟩
     | false =>
      rw [hw] at hK
      simp only [seval, go_sem]
      cases hf : decide (D.c.w ≤ ((q4o D who i : Nat) : Int)) with
      | true =>
       rw [hf] at hK
       have hf' : decide (((q4o D who i : Nat) : Int) ≥ D.c.w) = true := hf
       simp only [z3c] at hK
       simp only [seval, go_sem]
       refine ⟨by (rcases q2v h.n1 h.n8 with rfl | rfl | rfl | rfl | rfl | rfl | rfl | rfl <;> kernel_rfl), ?_⟩
       apply hK
       simp only [seval, go_sem, Tryz.results28]
       all_goals first | rfl | exact ⟨rfl, rfl⟩
      | false =>
       rw [hf] at hK
       have hf' : decide (((q4o D who i : Nat) : Int) ≥ D.c.w) = false := hf
       simp only [z3c] at hK
       simp only [seval, go_sem]
       refine ⟨by (rcases q2v h.n1 h.n8 with rfl | rfl | rfl | rfl | rfl | rfl | rfl | rfl <;> kernel_rfl), ?_⟩
       refine qbn tyOk (by rfl) rfl rfl rfl (by simp only [q4i, z02, z0a, dlen]; omega) (by kernel_rfl) rfl (by kernel_rfl) ?_
       simp only [List.dropLast, List.getLast]
       simp only [seval, go_sem, c1, hp1, hp2]
       refine ⟨by kernel_rfl, ?_⟩
       refine q17 (Sym.ACall.mono (qnm (pad := pad) h _ hs who u) ?_)
       rintro _ _ rfl
       simp only [seval, go_sem]
       apply hK
       simp only [seval, go_sem, Tryz.results28]
       all_goals first | rfl | exact ⟨rfl, rfl⟩
 by_cases e7 : kd = 7
 · have q7 : (kd == 7) = true := beq_iff_eq.2 e7
   have q4 : (kd == 4) = false := beq_eq_false_iff_ne.2 (by omega)
   have q5 : (kd == 5) = false := beq_eq_false_iff_ne.2 (by omega)
   have q6 : (kd == 6) = false := beq_eq_false_iff_ne.2 (by omega)
   simp only [q6, q7, z0n, ↓reduceIte] at hK
   simp only [seval, go_sem, q4, q5, q6, q7]
   refine qbn tyOk (by rfl) rfl rfl rfl (by simp only [q4i, z02, z0a, dlen]; omega) (by kernel_rfl) rfl (by kernel_rfl) ?_
   simp only [List.dropLast, List.getLast]
   simp only [seval, go_sem]
   refine q16 hS rfl ?_
   simp only [seval, go_sem, c1, hp1, hp2]
   refine ⟨by kernel_rfl, ?_⟩
   refine q17 (Sym.ACall.mono (qsy (pad := pad) h _ hs who u) ?_)
   rintro _ _ rfl
   simp only [seval, go_sem]
   apply hK
   simp only [seval, go_sem, Tryz.results28]
   all_goals first | rfl | exact ⟨rfl, rfl⟩
 by_cases e9 : kd = 9
 · have q9 : (kd == 9) = true := beq_iff_eq.2 e9
   have q4 : (kd == 4) = false := beq_eq_false_iff_ne.2 (by omega)
   have q5 : (kd == 5) = false := beq_eq_false_iff_ne.2 (by omega)
   have q6 : (kd == 6) = false := beq_eq_false_iff_ne.2 (by omega)
   have q7 : (kd == 7) = false := beq_eq_false_iff_ne.2 (by omega)
   simp only [q6, q7, q9, z0n, ↓reduceIte] at hK
   simp only [seval, go_sem, hc, q4, q5, q6, q7, q9]
   apply hK
   simp only [seval, go_sem, Tryz.results28]
   all_goals first | rfl | exact ⟨rfl, rfl⟩
 have q6 : (kd == 6) = false := beq_eq_false_iff_ne.2 e6
 have q7 : (kd == 7) = false := beq_eq_false_iff_ne.2 e7
 have q9 : (kd == 9) = false := beq_eq_false_iff_ne.2 e9
 simp only [q6, q7, q9, z0n, ↓reduceIte] at hK
 by_cases e4 : kd = 4
 · have q4 : (kd == 4) = true := beq_iff_eq.2 e4
   have hU : q4m ⟨kd, u, id, st, pr, ttl, us⟩ = [u] := by unfold q4m; rw [if_pos q4]
   have hP := qoh (pad := pad) h u (by omega)
   rw [hU] at hK
   simp only [seval, go_sem, q4]
   refine q17 (Sym.ACall.mono (hP _) ?_)
   rintro _ _ ⟨rfl, rfl⟩
   simp only [seval, go_sem, Pr.av]
   apply hK
   simp only [seval, go_sem, Tryz.results28]
   try simp only [dl_le, if_true, z17, z0y, z13]
   all_goals rfl
 · have q4 : (kd == 4) = false := beq_eq_false_iff_ne.2 e4
   have q5 : (kd == 5) = true := beq_iff_eq.2 (by omega)
   have hU : q4m ⟨kd, u, id, st, pr, ttl, us⟩ = us := by unfold q4m; rw [if_neg (by rw [q4]; decide)]
   rw [hU] at hK
   simp only [seval, go_sem, q4, q5]
   refine q1r (q0c.adoptIn (b := dlen n + 2) (c := 1) 44 3 (dm_at2 _ _ _ _) rfl) ?_
   simp only [seval, go_sem]
   refine q0d tyOk (α := Nat) (dlen n + 4) [0, 5, 6, 7, 17] (fun i => i ≤ us.length)
    (fun i => ⟨[.ptr 0 0, .any, .any, .any, .any, .ptr (dlen n) 0, .ptr (dlen n + 1) 0, .ptr (dlen n + 2) 0, .any, .any, .any, .any, .any, .any, .any, .any, .any, i64 i, .any, .any, .any, .any, .any, .any, .any, .any, .any, .any, .any, .any, .any, .any, .any, .any, .any, .any, .any, .any, .any, .any, .any, .any, .any, .any, .any, .any, .any, .any, .any, .any, .any, .any, .any, .any, .any, .any, .any, .any, .any, .any, .any, .any, .any, .any, .any, .any, .any, .any, .any, .any, .any, .any, .any, .any, .any, .any, .any, .any, .any, .any, .any, .any, .any, .any, .any, .any, .any, .any, .any, .any, .any, .any, .any, .any, .any, .any, .any, .any, .any, .any, .any, .any, .any, .any, .any, .any, .any, .any, .any, .any, .any, .any, .any, .any, .any, .any, .any, .any, .any, .any, .any, .any, .any, .any, .any, .any, .any, .any, .any, .any, .any, .any, .any, .any, .any, .any, .any, .any, .any, .any, .any, .any, .any, .any, .any, .any, .any, .any, .any, .any, .any, .any, .any, .any, .any, .any, .any, .any, .any, .any, .any, .any, .any, .any, .any, .any, .any, .any, .any, .any, .any, .any, .any, .any, .any, .any, .any, .any, .any, .any, .any, .any, .any, .any, .any, .any, .any, .any, .any, .any, .any, .any, .any, .any, .any, .any, .any, .any, .any, .any, .any, .any, .any, .any, .any, .any, .any, .any, .any, .any, .any, .any, .any, .any, .any, .any, .any, .any, .any, .any, .any, .any, .any, .any, .any, .any, .any, .any, .any, .any, .any, .any, .any, .any, .any, .any, .any, .any, .any, .any, .any, .any, .any, .any, .any, .any, .any, .any, .any, .any, .any, .any, .any, .any, .any, .any, .any, .any, .any], docT n pad D ++ [.box [i64 kd, str u, i64 id, i64 st, i64 pr, u64 ttl, .sl 1 (us.map fun x => str x)], .box [i64 0, .v (.slice none 0 0), .v (.slice none 0 0), bool false], .box [i64 0, .own (dlen n + 3) 3 0 i, .v (.slice none 0 0), bool false], .row 44 3 (prs ((us.take i).map (q51 n D)))]⟩)
    (fun i => us.length - i) 0 (by omega) (z00 _) ?_ ?_
   · simp only [seval, go_sem]
     all_goals rfl
   intro i hi
   simp only [seval, go_sem, z0f]
   refine q02 ?_ ?_ <;> intro hcc
   · have hlt : i < us.length := by simpa using hcc
     have c1 : (0 : Int) ≤ (i : Int) ∧ Int.toNat (i : Int) < us.length := by omega
     have eg : (us.map fun x => str x).getD (Int.toNat (i : Int)) .any = str us[i] := by
      simp [z04, hlt]
     have ew : IntKind.i64.wrap ((i : Int) + 1) = ((i + 1 : Nat) : Int) := by rw [wrap_i64 (by omega) (by omega)]; rfl
     have hPr := qoh (pad := pad) h us[i] (by have := ho3 _ (z1i hlt); omega)
     have hpl : (prs ((us.take i).map (q51 n D))).length = i := by simp [prs]; omega
     simp only [seval, go_sem]
     refine q0a tyOk (by rfl) (by simp only [q4i, z02, z0a, dlen]; omega) (by kernel_rfl) rfl ?_
     simp only [seval, go_sem, c1, eg, z0f]
     refine q0v (hPr _) (by rfl) ?_
     simp only [seval, go_sem, Pr.av, hpl]
     refine ⟨⟨by simp only [maxLen]; omega, by omega⟩, ?_⟩
     have er : prs ((us.take i).map (q51 n D)) ++ [.agg [i64 (q51 n D us[i]).st, i64 (q51 n D us[i]).pr, i64 (q51 n D us[i]).n]] = prs ((us.take (i + 1)).map (q51 n D)) := by
      rw [q12 hlt, z12, prs, prs, z12]; rfl
     refine ⟨by (rcases q2v h.n1 h.n8 with rfl | rfl | rfl | rfl | rfl | rfl | rfl | rfl <;> kernel_rfl), ?_⟩
     simp only [seval, go_sem, ew]
     simp only [seval, go_sem, q01, er]
     all_goals exact ⟨i + 1, hlt, by omega, by rfl⟩
   · have hge : i = us.length := by have : ¬ ((i : Int) < (us.length : Int)) := by simpa using hcc
                                    omega
     subst hge
     rw [z0w]
     simp only [seval, go_sem]
     apply hK
     simp only [seval, go_sem, Tryz.results28]
     have hpl : (prs (us.map (q51 n D))).length = us.length := by simp [prs]
     simp only [if_true, hpl, z09]
     rw [z07 (by omega)]
     rfl
