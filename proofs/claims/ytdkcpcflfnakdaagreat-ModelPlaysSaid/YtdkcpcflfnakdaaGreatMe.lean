/- A text of the walk that proves a law of this seat; joined by a program. -/
import Derived.Test.YtdkcpcflfnakdaaGreatMd
import Derived.Test.YtdkcpcflfnakdaaGreatMb
import Derived.Test.YtdkcpcflfnakdaaGreatMc
set_option linter.unusedSimpArgs false
set_option linter.unusedVariables false
namespace Go.Proofs.YtdkcpcflfnakdaaGreat
open Go Go.Proofs.YtdkcpcflfnakdaaGreat.Sym
set_option maxRecDepth 100000
set_option maxHeartbeats 1000000
set_option maxHeartbeats 2000000
def qdc (us : List ByteArray) : Bool := us.any fun u => decide (40 < u.size)
def q90 (o : Opb) : Bool := !decide (40 < o.u.size) && (!decide (20 < o.us.length) && !qdc o.us)
theorem qw6 {us : List ByteArray} {i : Nat} (h : i < us.length) : qdc (us.take (i + 1)) = (qdc (us.take i) || decide (40 < us[i].size)) := by
 rw [q12 h, qdc, z40]; simp [qdc]
theorem short_ok {o : Opb} (h : q90 o = true) : OpOk o := by
 unfold q90 qdc at h
 simp only [z0d, z2l, decide_eq_false_iff_not, z4r, decide_eq_true_eq] at h
 obtain ⟨h1, h2, h3⟩ := h
 exact ⟨by omega, by omega, fun u hu => by have := h3 u hu; omega⟩
theorem qxw (o : Opb) (hu : o.us.length ≤ maxLen) : q08 P 12 [o.av] (fun x => x = bool (q90 o)) := by
 have hu' : o.us.length ≤ 9223372036854775807 := hu
 refine q09 tyOk Tryz.func12 rfl rfl fun K hK => ?_
 simp only [seval, go_sem, Tryz.ntmps12]
 unfold q90 at hK
 by_cases h1 : 40 < o.u.size
 · have c1 : decide ((40 : Int) < (o.u.size : Int)) = true := decide_eq_true (by omega)
   have c1' : decide ((o.u.size : Int) > (40 : Int)) = true := decide_eq_true (by omega)
   rw [decide_eq_true h1] at hK
   simp only [seval, go_sem, Opb.av, c1]
   apply hK
   simp only [seval, go_sem, Tryz.results12]
   try rfl
 · have c1 : decide ((40 : Int) < (o.u.size : Int)) = false := decide_eq_false (by omega)
   have c1' : decide ((o.u.size : Int) > (40 : Int)) = false := decide_eq_false (by omega)
   rw [decide_eq_false h1] at hK
   by_cases h2 : 20 < o.us.length
   · have c2 : decide ((20 : Int) < (o.us.length : Int)) = true := decide_eq_true (by omega)
     have c2' : decide ((o.us.length : Int) > (20 : Int)) = true := decide_eq_true (by omega)
     rw [decide_eq_true h2] at hK
     simp only [seval, go_sem, Opb.av, c1, c2, z0f]
     apply hK
     simp only [seval, go_sem, Tryz.results12]
     try rfl
   · have c2 : decide ((20 : Int) < (o.us.length : Int)) = false := decide_eq_false (by omega)
     have c2' : decide ((o.us.length : Int) > (20 : Int)) = false := decide_eq_false (by omega)
     rw [decide_eq_false h2] at hK
     simp only [seval, go_sem, Opb.av, c1, c2, z0f]
     refine q0d tyOk (α := Nat) 1 [1, 3] (fun i => i ≤ o.us.length ∧ qdc (o.us.take i) = false)
      (fun i => ⟨[.any, .ptr 0 0, .any, i64 i, .any, .any, .any, .any, .any, .any, .any, .any, .any, .any, .any, .any, .any, .any, .any, .any, .any, .any, .any, .any, .any, .any, .any, .any], [.box [i64 o.kind, str o.u, i64 o.id, i64 o.st, i64 o.pr, u64 o.ttl, .sl 1 (o.us.map fun x => str x)]]⟩)
      (fun i => o.us.length - i) 0 (z00 _) ⟨z00 _, rfl⟩ rfl ?_
     rintro i ⟨hi, hl⟩
     simp only [seval, go_sem, z0f]
     refine q02 ?_ ?_ <;> intro hc
     · have hlt : i < o.us.length := by simpa using hc
       have c1 : (0 : Int) ≤ (i : Int) ∧ Int.toNat (i : Int) < o.us.length := by omega
       have eg : (o.us.map fun x => str x).getD (Int.toNat (i : Int)) .any = str o.us[i] := by
        simp [z04, hlt]
       have ew : IntKind.i64.wrap ((i : Int) + 1) = ((i + 1 : Nat) : Int) := by rw [wrap_i64 (by omega) (by omega)]; rfl
       have hn := qw6 hlt
       by_cases h3 : 40 < o.us[i].size
       · have c3 : decide ((40 : Int) < (o.us[i].size : Int)) = true := decide_eq_true (by omega)
         have c3' : decide ((o.us[i].size : Int) > (40 : Int)) = true := decide_eq_true (by omega)
         have he : qdc o.us = true := z39.2 ⟨_, z1i hlt, decide_eq_true h3⟩
         rw [he] at hK
         simp only [seval, go_sem, c1, eg, z0f, c3]
         apply hK
         simp only [seval, go_sem, Tryz.results12]
         try rfl
       · have c3 : decide ((40 : Int) < (o.us[i].size : Int)) = false := decide_eq_false (by omega)
         have c3' : decide ((o.us[i].size : Int) > (40 : Int)) = false := decide_eq_false (by omega)
         simp only [seval, go_sem, c1, eg, z0f, c3, ew]
         simp only [seval, go_sem, q01]
         all_goals exact ⟨i + 1, ⟨hlt, by rw [hn, hl, decide_eq_false h3]; rfl⟩, by omega, by first | rfl | simp⟩
     · have hge : i = o.us.length := by have : ¬ ((i : Int) < (o.us.length : Int)) := by simpa using hc
                                        omega
       subst hge
       rw [z0w] at hl
       rw [hl] at hK
       simp only [seval, go_sem]
       apply hK
       simp only [seval, go_sem, Tryz.results12]
       try rfl
theorem qcj (u : ByteArray) : q08 P 37 [str u] (fun x => x = bool (q2q u)) := by
 have hn := qmu u
 refine q09 tyOk Tryz.func37 rfl rfl fun K hK => ?_
 simp only [seval, go_sem, Tryz.ntmps37]
 by_cases h1 : u.size = 0
 · have c1 : decide ((0 : Int) < (u.size : Int)) = false := decide_eq_false (by omega)
   have c1' : decide ((u.size : Int) > (0 : Int)) = false := decide_eq_false (by omega)
   have hb : q2q u = false := by cases h : q2q u with | false => rfl | true => exact absurd h1 (hn.1 h).1
   rw [hb] at hK
   simp only [seval, go_sem, c1]
   apply hK
   simp only [seval, go_sem, Tryz.results37]
   try rfl
 · have c1 : decide ((0 : Int) < (u.size : Int)) = true := decide_eq_true (by omega)
   have c1' : decide ((u.size : Int) > (0 : Int)) = true := decide_eq_true (by omega)
   have hb : q2q u = decide ((u.size : Int) < 17) := by
    by_cases h2 : u.size ≤ 16
    · rw [hn.2 ⟨h1, h2⟩, decide_eq_true (by omega)]
    · rw [decide_eq_false (by omega)]
      cases h : q2q u with | false => rfl | true => exact absurd (hn.1 h).2 h2
   rw [hb] at hK
   simp only [seval, go_sem, c1]
   apply hK
   simp only [seval, go_sem, Tryz.results37]
   try rfl
theorem ref_Bad (o : Opb) (hu : o.us.length ≤ 1000) : q08 P 15 [o.av] (fun x => x = bool (badO o)) := by
 have hN := qcj o.u
 have hlt (a b : Int) : decide (a > b) = decide (b < a) := rfl
 have hge (a b : Int) : decide (a ≥ b) = decide (b ≤ a) := rfl
 have e256 : decide (o.id < 256) = decide (o.id ≤ 255) := by congr 1; exact propext ⟨fun h => by omega, fun h => by omega⟩
 have e10 (a : Int) : decide (a < 10) = decide (a ≤ 9) := by congr 1; exact propext ⟨fun h => by omega, fun h => by omega⟩
 have e0 (a : Int) : decide (0 < a) = decide (1 ≤ a) := by congr 1
 refine q09 tyOk Tryz.func15 rfl rfl fun K hK => ?_
 simp only [seval, go_sem, Tryz.ntmps15]
 unfold badO inB at hK
 obtain ⟨b0, e1⟩ : ∃ b, decide (0 ≤ o.id) = b := ⟨_, rfl⟩
 obtain ⟨b1, e2⟩ : ∃ b, decide (o.id ≤ 255) = b := ⟨_, rfl⟩
 obtain ⟨b2, e3⟩ : ∃ b, decide (1 ≤ o.st) = b := ⟨_, rfl⟩
 obtain ⟨b3, e4⟩ : ∃ b, decide (o.st ≤ 9) = b := ⟨_, rfl⟩
 obtain ⟨b4, e5⟩ : ∃ b, decide (0 ≤ o.pr) = b := ⟨_, rfl⟩
 obtain ⟨b5, e6⟩ : ∃ b, decide (o.pr ≤ 9) = b := ⟨_, rfl⟩
 rw [e1, e2, e3, e4, e5, e6] at hK
 simp only [seval, go_sem, Opb.av, e1]
 cases b0
 · obtain ⟨tt, htt⟩ : ∃ t, false = t := ⟨_, rfl⟩
   simp only [seval, go_sem]
   cases h1 : (o.kind == 1)
   · rw [h1, if_neg (by decide)] at hK
     simp only [seval, go_sem]
     cases h2 : (o.kind == 2)
     · cases h3 : (o.kind == 3)
       · rw [h2, h3, if_neg (by decide)] at hK
         simp only [seval, go_sem, h3]
         cases h4 : (o.kind == 4)
         · simp only [seval, go_sem]
           cases h6 : (o.kind == 6)
           · simp only [seval, go_sem]
             cases h7 : (o.kind == 7)
             · rw [h4, h6, h7, if_neg (by decide)] at hK
               simp only [seval, go_sem]
               cases h5 : (o.kind == 5)
               · rw [h5, if_neg (by decide)] at hK
                 simp only [seval, go_sem, bne]
                 cases h8 : (o.kind == 8)
                 · rw [h8] at hK
                   simp only [seval, go_sem, bne]
                   apply hK
                   simp only [seval, go_sem, Tryz.results15]
                   try rfl
                 · rw [h8] at hK
                   simp only [seval, go_sem]
                   apply hK
                   simp only [seval, go_sem, Tryz.results15]
                   try rfl
               · rw [h5, if_pos rfl] at hK
                 simp only [seval, go_sem, z0f]
                 have el : decide ((o.us.length : Int) < 1) = !decide ((1 : Int) ≤ o.us.length) := by
                  by_cases h : (1 : Int) ≤ o.us.length
                  · rw [decide_eq_true h, decide_eq_false (by omega)]; rfl
                  · rw [decide_eq_false h, decide_eq_true (by omega)]; rfl
                 have el8 : decide ((8 : Int) < (o.us.length : Int)) = !decide ((o.us.length : Int) ≤ 8) := by
                  by_cases h : (o.us.length : Int) ≤ 8
                  · rw [decide_eq_true h, decide_eq_false (by omega)]; rfl
                  · rw [decide_eq_false h, decide_eq_true (by omega)]; rfl
                 have el8' : decide ((o.us.length : Int) > (8 : Int)) = !decide ((o.us.length : Int) ≤ 8) := el8
                 rw [el]
                 obtain ⟨d1, hd1⟩ : ∃ b, decide ((1 : Int) ≤ o.us.length) = b := ⟨_, rfl⟩
                 obtain ⟨d8, hd8⟩ : ∃ b, decide ((o.us.length : Int) ≤ 8) = b := ⟨_, rfl⟩
                 rw [hd1]
                 rw [hd1, hd8] at hK
                 rw [hd8] at el8 el8'
                 obtain ⟨bl, hbl⟩ : ∃ b, (!d1 || !d8) = b := ⟨_, rfl⟩
                 have hlen : bl = !(d1 && d8) := by rw [← hbl]; cases d1 <;> rfl
                 cases d1
                 · simp only [seval, go_sem]
                   refine q0d tyOk (α := Nat) 1 [1, 3, 4, 5] (fun i => i ≤ o.us.length)
                    (fun i => ⟨[.any, .ptr 0 0, .any, bool tt, bool (bl || badN (o.us.take i)), i64 i, .any, .any, .any, .any, .any, .any, .any, .any, .any, .any, .any, .any, .any, .any, .any, .any, .any, .any, .any, .any, .any, .any, .any, .any, .any, .any, .any, .any, .any, .any, .any, .any, .any, .any, .any, .any, .any, .any, .any, .any, .any, .any, .any, .any, .any, .any, .any, .any, .any, .any, .any, .any, .any, .any, .any, .any, .any, .any, .any, .any, .any, .any, .any, .any, .any, .any, .any, .any, .any, .any, .any, .any, .any, .any, .any, .any, .any, .any, .any, .any, .any, .any, .any, .any, .any, .any, .any, .any, .any, .any, .any, .any, .any, .any, .any, .any, .any, .any, .any, .any, .any, .any, .any, .any, .any, .any, .any, .any, .any], [.box [i64 o.kind, str o.u, i64 o.id, i64 o.st, i64 o.pr, u64 o.ttl, .sl 1 (o.us.map fun x => str x)]]⟩)
                    (fun i => o.us.length - i) 0 (z00 _) (z00 _) (by rw [z13, show badN [] = false from rfl, z36]; subst hbl; subst htt; rfl) ?_
                   intro i hi
                   simp only [seval, go_sem, z0f]
                   refine q02 ?_ ?_ <;> intro hc
                   · have hlt : i < o.us.length := by simpa using hc
                     have c1 : (0 : Int) ≤ (i : Int) ∧ Int.toNat (i : Int) < o.us.length := by omega
                     have eg : (o.us.map fun x => str x).getD (Int.toNat (i : Int)) .any = str o.us[i] := by
                      simp [z04, hlt]
                     have ew : IntKind.i64.wrap ((i : Int) + 1) = ((i + 1 : Nat) : Int) := by rw [wrap_i64 (by omega) (by omega)]; rfl
                     have hn := qc5 hlt
                     obtain ⟨bb, hbb⟩ : ∃ b, (bl || badN (o.us.take i)) = b := ⟨_, rfl⟩
                     rw [hbb]
                     cases bb
                     · simp only [seval, go_sem, c1, eg, z0f]
                       (refine q00 (qcj o.us[i]) rfl ?_; rintro _ rfl)
                       simp only [seval, go_sem, ew]
                       simp only [seval, go_sem, q01]
                       all_goals exact ⟨i + 1, hlt, by omega, by rw [hn, ← z3u, hbb, z2g] <;> rfl⟩
                     · simp only [seval, go_sem, ew]
                       simp only [seval, go_sem, q01]
                       all_goals exact ⟨i + 1, hlt, by omega, by rw [hn, ← z3u, hbb, z30] <;> rfl⟩
                   · have hge : i = o.us.length := by have : ¬ ((i : Int) < (o.us.length : Int)) := by simpa using hc
                                                      omega
                     subst hge
                     rw [z0w]
                     simp only [seval, go_sem]
                     apply hK
                     simp only [seval, go_sem, Tryz.results15]
                     rw [z5r, hlen]
                     try rfl
                 · simp only [seval, go_sem, z0f, el8]
                   refine q0d tyOk (α := Nat) 1 [1, 3, 4, 5] (fun i => i ≤ o.us.length)
                    (fun i => ⟨[.any, .ptr 0 0, .any, bool tt, bool (bl || badN (o.us.take i)), i64 i, .any, .any, .any, .any, .any, .any, .any, .any, .any, .any, .any, .any, .any, .any, .any, .any, .any, .any, .any, .any, .any, .any, .any, .any, .any, .any, .any, .any, .any, .any, .any, .any, .any, .any, .any, .any, .any, .any, .any, .any, .any, .any, .any, .any, .any, .any, .any, .any, .any, .any, .any, .any, .any, .any, .any, .any, .any, .any, .any, .any, .any, .any, .any, .any, .any, .any, .any, .any, .any, .any, .any, .any, .any, .any, .any, .any, .any, .any, .any, .any, .any, .any, .any, .any, .any, .any, .any, .any, .any, .any, .any, .any, .any, .any, .any, .any, .any, .any, .any, .any, .any, .any, .any, .any, .any, .any, .any, .any, .any], [.box [i64 o.kind, str o.u, i64 o.id, i64 o.st, i64 o.pr, u64 o.ttl, .sl 1 (o.us.map fun x => str x)]]⟩)
                    (fun i => o.us.length - i) 0 (z00 _) (z00 _) (by rw [z13, show badN [] = false from rfl, z36]; subst hbl; subst htt; rfl) ?_
                   intro i hi
                   simp only [seval, go_sem, z0f]
                   refine q02 ?_ ?_ <;> intro hc
                   · have hlt : i < o.us.length := by simpa using hc
                     have c1 : (0 : Int) ≤ (i : Int) ∧ Int.toNat (i : Int) < o.us.length := by omega
                     have eg : (o.us.map fun x => str x).getD (Int.toNat (i : Int)) .any = str o.us[i] := by
                      simp [z04, hlt]
                     have ew : IntKind.i64.wrap ((i : Int) + 1) = ((i + 1 : Nat) : Int) := by rw [wrap_i64 (by omega) (by omega)]; rfl
                     have hn := qc5 hlt
                     obtain ⟨bb, hbb⟩ : ∃ b, (bl || badN (o.us.take i)) = b := ⟨_, rfl⟩
                     rw [hbb]
                     cases bb
                     · simp only [seval, go_sem, c1, eg, z0f]
                       (refine q00 (qcj o.us[i]) rfl ?_; rintro _ rfl)
                       simp only [seval, go_sem, ew]
                       simp only [seval, go_sem, q01]
                       all_goals exact ⟨i + 1, hlt, by omega, by rw [hn, ← z3u, hbb, z2g] <;> rfl⟩
                     · simp only [seval, go_sem, ew]
                       simp only [seval, go_sem, q01]
                       all_goals exact ⟨i + 1, hlt, by omega, by rw [hn, ← z3u, hbb, z30] <;> rfl⟩
                   · have hge : i = o.us.length := by have : ¬ ((i : Int) < (o.us.length : Int)) := by simpa using hc
                                                      omega
                     subst hge
                     rw [z0w]
                     simp only [seval, go_sem]
                     apply hK
                     simp only [seval, go_sem, Tryz.results15]
                     rw [z5r, hlen]
                     try rfl
             · rw [h4, h6, h7, if_pos (by rfl)] at hK
               simp only [seval, go_sem]
               (refine q00 hN rfl ?_; rintro _ rfl)
               simp only [seval, go_sem]
               apply hK
               simp only [seval, go_sem, Tryz.results15]
               try rfl
           · rw [h4, h6, if_pos (by rfl)] at hK
             simp only [seval, go_sem]
             (refine q00 hN rfl ?_; rintro _ rfl)
             simp only [seval, go_sem]
             apply hK
             simp only [seval, go_sem, Tryz.results15]
             try rfl
         · rw [h4, if_pos (by rfl)] at hK
           simp only [seval, go_sem]
           (refine q00 hN rfl ?_; rintro _ rfl)
           simp only [seval, go_sem]
           apply hK
           simp only [seval, go_sem, Tryz.results15]
           try rfl
       · rw [h2, h3, if_pos (by rfl)] at hK
         simp only [seval, go_sem, h3]
         (refine q00 hN rfl ?_; rintro _ rfl)
         simp only [seval, go_sem]
         cases hb : q2q o.u
         · rw [hb] at hK
           simp only [seval, go_sem]
           apply hK
           simp only [seval, go_sem, Tryz.results15]
           try rfl
         · rw [hb] at hK
           simp only [seval, go_sem]
           apply hK
           simp only [seval, go_sem, Tryz.results15]
           try rfl
     · rw [h2, if_pos (by rfl)] at hK
       simp only [seval, go_sem]
       (refine q00 hN rfl ?_; rintro _ rfl)
       simp only [seval, go_sem]
       cases hb : q2q o.u
       · rw [hb] at hK
         simp only [seval, go_sem]
         apply hK
         simp only [seval, go_sem, Tryz.results15]
         try rfl
       · rw [hb] at hK
         simp only [seval, go_sem]
         apply hK
         simp only [seval, go_sem, Tryz.results15]
         try rfl
   · rw [h1, if_pos rfl] at hK
     simp only [seval, go_sem]
     (refine q00 hN rfl ?_; rintro _ rfl)
     simp only [seval, go_sem]
     cases hb : q2q o.u
     · rw [hb] at hK
       simp only [seval, go_sem]
       apply hK
       simp only [seval, go_sem, Tryz.results15]
       try rfl
     · rw [hb] at hK
       simp only [seval, go_sem]
       apply hK
       simp only [seval, go_sem, Tryz.results15]
       try rfl
 · obtain ⟨tt, htt⟩ : ∃ t, b1 = t := ⟨_, rfl⟩
   simp only [seval, go_sem, e256, e2]
   cases h1 : (o.kind == 1)
   · rw [h1, if_neg (by decide)] at hK
     simp only [seval, go_sem]
     cases h2 : (o.kind == 2)
     · cases h3 : (o.kind == 3)
       · rw [h2, h3, if_neg (by decide)] at hK
         simp only [seval, go_sem, h3]
         cases h4 : (o.kind == 4)
         · simp only [seval, go_sem]
           cases h6 : (o.kind == 6)
           · simp only [seval, go_sem]
             cases h7 : (o.kind == 7)
             · rw [h4, h6, h7, if_neg (by decide)] at hK
               simp only [seval, go_sem]
               cases h5 : (o.kind == 5)
               · rw [h5, if_neg (by decide)] at hK
                 simp only [seval, go_sem, bne]
                 cases h8 : (o.kind == 8)
                 · rw [h8] at hK
                   simp only [seval, go_sem, bne]
                   apply hK
                   simp only [seval, go_sem, Tryz.results15]
                   try rfl
                 · rw [h8] at hK
                   simp only [seval, go_sem]
                   apply hK
                   simp only [seval, go_sem, Tryz.results15]
                   try rfl
               · rw [h5, if_pos rfl] at hK
                 simp only [seval, go_sem, z0f]
                 have el : decide ((o.us.length : Int) < 1) = !decide ((1 : Int) ≤ o.us.length) := by
                  by_cases h : (1 : Int) ≤ o.us.length
                  · rw [decide_eq_true h, decide_eq_false (by omega)]; rfl
                  · rw [decide_eq_false h, decide_eq_true (by omega)]; rfl
                 have el8 : decide ((8 : Int) < (o.us.length : Int)) = !decide ((o.us.length : Int) ≤ 8) := by
                  by_cases h : (o.us.length : Int) ≤ 8
                  · rw [decide_eq_true h, decide_eq_false (by omega)]; rfl
                  · rw [decide_eq_false h, decide_eq_true (by omega)]; rfl
                 have el8' : decide ((o.us.length : Int) > (8 : Int)) = !decide ((o.us.length : Int) ≤ 8) := el8
                 rw [el]
                 obtain ⟨d1, hd1⟩ : ∃ b, decide ((1 : Int) ≤ o.us.length) = b := ⟨_, rfl⟩
                 obtain ⟨d8, hd8⟩ : ∃ b, decide ((o.us.length : Int) ≤ 8) = b := ⟨_, rfl⟩
                 rw [hd1]
                 rw [hd1, hd8] at hK
                 rw [hd8] at el8 el8'
                 obtain ⟨bl, hbl⟩ : ∃ b, (!d1 || !d8) = b := ⟨_, rfl⟩
                 have hlen : bl = !(d1 && d8) := by rw [← hbl]; cases d1 <;> rfl
                 cases d1
                 · simp only [seval, go_sem]
                   refine q0d tyOk (α := Nat) 1 [1, 3, 4, 5] (fun i => i ≤ o.us.length)
                    (fun i => ⟨[.any, .ptr 0 0, .any, bool tt, bool (bl || badN (o.us.take i)), i64 i, .any, .any, .any, .any, .any, .any, .any, .any, .any, .any, .any, .any, .any, .any, .any, .any, .any, .any, .any, .any, .any, .any, .any, .any, .any, .any, .any, .any, .any, .any, .any, .any, .any, .any, .any, .any, .any, .any, .any, .any, .any, .any, .any, .any, .any, .any, .any, .any, .any, .any, .any, .any, .any, .any, .any, .any, .any, .any, .any, .any, .any, .any, .any, .any, .any, .any, .any, .any, .any, .any, .any, .any, .any, .any, .any, .any, .any, .any, .any, .any, .any, .any, .any, .any, .any, .any, .any, .any, .any, .any, .any, .any, .any, .any, .any, .any, .any, .any, .any, .any, .any, .any, .any, .any, .any, .any, .any, .any, .any], [.box [i64 o.kind, str o.u, i64 o.id, i64 o.st, i64 o.pr, u64 o.ttl, .sl 1 (o.us.map fun x => str x)]]⟩)
                    (fun i => o.us.length - i) 0 (z00 _) (z00 _) (by rw [z13, show badN [] = false from rfl, z36]; subst hbl; subst htt; rfl) ?_
                   intro i hi
                   simp only [seval, go_sem, z0f]
                   refine q02 ?_ ?_ <;> intro hc
                   · have hlt : i < o.us.length := by simpa using hc
                     have c1 : (0 : Int) ≤ (i : Int) ∧ Int.toNat (i : Int) < o.us.length := by omega
                     have eg : (o.us.map fun x => str x).getD (Int.toNat (i : Int)) .any = str o.us[i] := by
                      simp [z04, hlt]
                     have ew : IntKind.i64.wrap ((i : Int) + 1) = ((i + 1 : Nat) : Int) := by rw [wrap_i64 (by omega) (by omega)]; rfl
                     have hn := qc5 hlt
                     obtain ⟨bb, hbb⟩ : ∃ b, (bl || badN (o.us.take i)) = b := ⟨_, rfl⟩
                     rw [hbb]
                     cases bb
                     · simp only [seval, go_sem, c1, eg, z0f]
                       (refine q00 (qcj o.us[i]) rfl ?_; rintro _ rfl)
                       simp only [seval, go_sem, ew]
                       simp only [seval, go_sem, q01]
                       all_goals exact ⟨i + 1, hlt, by omega, by rw [hn, ← z3u, hbb, z2g] <;> rfl⟩
                     · simp only [seval, go_sem, ew]
                       simp only [seval, go_sem, q01]
                       all_goals exact ⟨i + 1, hlt, by omega, by rw [hn, ← z3u, hbb, z30] <;> rfl⟩
                   · have hge : i = o.us.length := by have : ¬ ((i : Int) < (o.us.length : Int)) := by simpa using hc
                                                      omega
                     subst hge
                     rw [z0w]
                     simp only [seval, go_sem]
                     apply hK
                     simp only [seval, go_sem, Tryz.results15]
                     rw [z5r, hlen]
                     try rfl
                 · simp only [seval, go_sem, z0f, el8]
                   refine q0d tyOk (α := Nat) 1 [1, 3, 4, 5] (fun i => i ≤ o.us.length)
                    (fun i => ⟨[.any, .ptr 0 0, .any, bool tt, bool (bl || badN (o.us.take i)), i64 i, .any, .any, .any, .any, .any, .any, .any, .any, .any, .any, .any, .any, .any, .any, .any, .any, .any, .any, .any, .any, .any, .any, .any, .any, .any, .any, .any, .any, .any, .any, .any, .any, .any, .any, .any, .any, .any, .any, .any, .any, .any, .any, .any, .any, .any, .any, .any, .any, .any, .any, .any, .any, .any, .any, .any, .any, .any, .any, .any, .any, .any, .any, .any, .any, .any, .any, .any, .any, .any, .any, .any, .any, .any, .any, .any, .any, .any, .any, .any, .any, .any, .any, .any, .any, .any, .any, .any, .any, .any, .any, .any, .any, .any, .any, .any, .any, .any, .any, .any, .any, .any, .any, .any, .any, .any, .any, .any, .any, .any], [.box [i64 o.kind, str o.u, i64 o.id, i64 o.st, i64 o.pr, u64 o.ttl, .sl 1 (o.us.map fun x => str x)]]⟩)
                    (fun i => o.us.length - i) 0 (z00 _) (z00 _) (by rw [z13, show badN [] = false from rfl, z36]; subst hbl; subst htt; rfl) ?_
                   intro i hi
                   simp only [seval, go_sem, z0f]
                   refine q02 ?_ ?_ <;> intro hc
                   · have hlt : i < o.us.length := by simpa using hc
                     have c1 : (0 : Int) ≤ (i : Int) ∧ Int.toNat (i : Int) < o.us.length := by omega
                     have eg : (o.us.map fun x => str x).getD (Int.toNat (i : Int)) .any = str o.us[i] := by
                      simp [z04, hlt]
                     have ew : IntKind.i64.wrap ((i : Int) + 1) = ((i + 1 : Nat) : Int) := by rw [wrap_i64 (by omega) (by omega)]; rfl
                     have hn := qc5 hlt
                     obtain ⟨bb, hbb⟩ : ∃ b, (bl || badN (o.us.take i)) = b := ⟨_, rfl⟩
                     rw [hbb]
                     cases bb
                     · simp only [seval, go_sem, c1, eg, z0f]
                       (refine q00 (qcj o.us[i]) rfl ?_; rintro _ rfl)
                       simp only [seval, go_sem, ew]
                       simp only [seval, go_sem, q01]
                       all_goals exact ⟨i + 1, hlt, by omega, by rw [hn, ← z3u, hbb, z2g] <;> rfl⟩
                     · simp only [seval, go_sem, ew]
                       simp only [seval, go_sem, q01]
                       all_goals exact ⟨i + 1, hlt, by omega, by rw [hn, ← z3u, hbb, z30] <;> rfl⟩
                   · have hge : i = o.us.length := by have : ¬ ((i : Int) < (o.us.length : Int)) := by simpa using hc
                                                      omega
                     subst hge
                     rw [z0w]
                     simp only [seval, go_sem]
                     apply hK
                     simp only [seval, go_sem, Tryz.results15]
                     rw [z5r, hlen]
                     try rfl
             · rw [h4, h6, h7, if_pos (by rfl)] at hK
               simp only [seval, go_sem]
               (refine q00 hN rfl ?_; rintro _ rfl)
               simp only [seval, go_sem]
               apply hK
               simp only [seval, go_sem, Tryz.results15]
               try rfl
           · rw [h4, h6, if_pos (by rfl)] at hK
             simp only [seval, go_sem]
             (refine q00 hN rfl ?_; rintro _ rfl)
             simp only [seval, go_sem]
             apply hK
             simp only [seval, go_sem, Tryz.results15]
             try rfl
         · rw [h4, if_pos (by rfl)] at hK
           simp only [seval, go_sem]
           (refine q00 hN rfl ?_; rintro _ rfl)
           simp only [seval, go_sem]
           apply hK
           simp only [seval, go_sem, Tryz.results15]
           try rfl
       · rw [h2, h3, if_pos (by rfl)] at hK
         simp only [seval, go_sem, h3]
         (refine q00 hN rfl ?_; rintro _ rfl)
         simp only [seval, go_sem]
         cases hb : q2q o.u
         · rw [hb] at hK
           simp only [seval, go_sem]
           apply hK
           simp only [seval, go_sem, Tryz.results15]
           try rfl
         · rw [hb] at hK
           simp only [seval, go_sem]
           apply hK
           simp only [seval, go_sem, Tryz.results15]
           try rfl
     · rw [h2, if_pos (by rfl)] at hK
       simp only [seval, go_sem]
       (refine q00 hN rfl ?_; rintro _ rfl)
       simp only [seval, go_sem]
       cases hb : q2q o.u
       · rw [hb] at hK
         simp only [seval, go_sem]
         apply hK
         simp only [seval, go_sem, Tryz.results15]
         try rfl
       · rw [hb] at hK
         simp only [seval, go_sem]
         apply hK
         simp only [seval, go_sem, Tryz.results15]
         try rfl
   · rw [h1, if_pos rfl] at hK
     simp only [seval, go_sem]
     (refine q00 hN rfl ?_; rintro _ rfl)
     simp only [seval, go_sem]
     cases hb : q2q o.u
     · rw [hb] at hK
       simp only [seval, go_sem]
       apply hK
       simp only [seval, go_sem, Tryz.results15]
       try rfl
     · rw [hb] at hK
       simp only [seval, go_sem]
       cases b1
       · simp only [seval, go_sem]
         apply hK
         simp only [seval, go_sem, Tryz.results15]
         try rfl
       · simp only [seval, go_sem, e0, e3]
         cases b2
         · simp only [seval, go_sem]
           apply hK
           simp only [seval, go_sem, Tryz.results15]
           try rfl
         · simp only [seval, go_sem, e10, e4]
           cases b3
           · simp only [seval, go_sem]
             apply hK
             simp only [seval, go_sem, Tryz.results15]
             try rfl
           · simp only [seval, go_sem, e5]
             cases b4
             · simp only [seval, go_sem]
               apply hK
               simp only [seval, go_sem, Tryz.results15]
               try rfl
             · simp only [seval, go_sem, e10, e6]
               apply hK
               simp only [seval, go_sem, Tryz.results15]
               try rfl
theorem qxe {ys : List AV} (h : ∀ y ∈ ys, ∃ zs, q2y [.str] zs ∧ y = pack false zs) : ∃ l : List ByteArray, ys = l.map fun x => str x := by
 induction ys with
 | nil => exact ⟨[], rfl⟩
 | cons y ys ih =>
  obtain ⟨l, rfl⟩ := ih (fun z hz => h z (z3g _ hz))
  obtain ⟨zs, ⟨x, r, rfl, ⟨s, rfl, _⟩, rfl⟩, rfl⟩ := h y z3b
  exact ⟨s :: l, rfl⟩
end Go.Proofs.YtdkcpcflfnakdaaGreat
namespace Go.Proofs.YtdkcpcflfnakdaaGreat
open Go Go.Proofs.YtdkcpcflfnakdaaGreat.Sym
set_option maxRecDepth 100000
set_option maxHeartbeats 1000000
set_option maxHeartbeats 2000000
structure Ac where
 d : Nat
 who : Int
 op : Opb
 by_ : Nat
def Ac.av (a : Ac) : AV := .agg [.v (.int .u8 a.d), i64 a.who, i64 a.op.kind, str a.op.u, i64 a.op.id, i64 a.op.st, i64 a.op.pr, u64 a.op.ttl, .sl 1 (a.op.us.map fun x => str x), u64 a.by_]
abbrev Ac.cs (a : Ac) : List AV := [.v (.int .u8 a.d), i64 a.who, i64 a.op.kind, str a.op.u, i64 a.op.id, i64 a.op.st, i64 a.op.pr, u64 a.op.ttl, .sl 1 (a.op.us.map fun x => str x), u64 a.by_]
def acts (l : List Ac) : List AV := l.map Ac.av
theorem q7z (l : List Ac) : (acts l).length = l.length := by simp [acts]
theorem qq7 {l : List Ac} {i : Nat} (h : i < l.length) : (acts l).getD (Int.toNat (i : Int)) .any = .agg [.v (.int .u8 l[i].d), i64 l[i].who, i64 l[i].op.kind, str l[i].op.u, i64 l[i].op.id, i64 l[i].op.st, i64 l[i].op.pr, u64 l[i].op.ttl, .sl 1 (l[i].op.us.map fun x => str x), u64 l[i].by_] := by
 rw [z0g]; simp [acts, List.getD, h, Ac.av]
def qd4 (l : List Ac) : Bool := l.any fun a => !q90 a.op
theorem qve {l : List Ac} {i : Nat} (h : i < l.length) : qd4 (l.take (i + 1)) = (qd4 (l.take i) || !q90 l[i].op) := by
 rw [q12 h, qd4, z40]; simp [qd4]
theorem law_long (l : List Ac) (hl : l.length ≤ maxLen) (hu : ∀ a ∈ l, a.op.us.length ≤ maxLen) : q08 P 16 [.sl 10 (acts l)] (fun x => x = bool (decide (120 < l.length) || qd4 l)) := by
 have hl' : l.length ≤ 9223372036854775807 := hl
 refine q09 tyOk Tryz.func16 rfl rfl fun K hK => ?_
 simp only [seval, go_sem, Tryz.ntmps16]
 by_cases h0 : l.length ≤ 120
 · have c0 : decide ((120 : Int) < (l.length : Int)) = false := decide_eq_false (by omega)
   have c0' : decide ((l.length : Int) > (120 : Int)) = false := decide_eq_false (by omega)
   rw [decide_eq_false (by omega : ¬ 120 < l.length), z2g] at hK
   simp only [seval, go_sem, q7z, c0]
   refine q0d tyOk (α := Nat) 0 [0, 3] (fun i => i ≤ l.length ∧ qd4 (l.take i) = false)
    (fun i => ⟨[.sl 10 (acts l), .any, .any, i64 i, .any, .any, .any, .any, .any, .any, .any, .any, .any, .any, .any, .any, .any, .any, .any, .any], []⟩)
    (fun i => l.length - i) 0 (by simp) ⟨z00 _, rfl⟩ rfl ?_
   rintro i ⟨hi, hall⟩
   simp only [seval, go_sem, q7z]
   refine q02 ?_ ?_ <;> intro hf <;> simp only [seval, go_sem]
   · have hlt : i < l.length := by simpa using hf
     have eg := qq7 hlt
     have ew : IntKind.i64.wrap ((i : Int) + 1) = ((i + 1 : Nat) : Int) := by rw [wrap_i64 (by omega) (by omega)]; rfl
     have b1 : (0 : Int) ≤ (i : Int) ∧ Int.toNat (i : Int) < l.length := by omega
     have hS := qxw l[i].op (hu _ (z1i hlt))
     have hn := qve hlt
     unfold Opb.av at hS
     simp only [seval, go_sem, eg, b1, q7z]
     (refine q00 hS rfl ?_; rintro _ rfl)
     simp only [seval, go_sem]
     cases h3 : q90 l[i].op
     · have he : qd4 l = true := z39.2 ⟨_, z1i hlt, by rw [h3]; rfl⟩
       rw [he] at hK
       simp only [seval, go_sem]
       apply hK
       simp only [seval, go_sem, Tryz.results16]
       try rfl
     · simp only [seval, go_sem, ew]
       simp only [seval, go_sem, q01]
       all_goals exact ⟨i + 1, ⟨hlt, by rw [hn, hall, h3]; rfl⟩, by omega, rfl⟩
   · obtain rfl : i = l.length := by have := of_decide_eq_false hf; omega
     rw [z0w] at hall
     rw [hall] at hK
     apply hK
     simp only [seval, go_sem, Tryz.results16]
     try rfl
 · have c0 : decide ((120 : Int) < (l.length : Int)) = true := decide_eq_true (by omega)
   have c0' : decide ((l.length : Int) > (120 : Int)) = true := decide_eq_true (by omega)
   rw [decide_eq_true (by omega : 120 < l.length), z30] at hK
   simp only [seval, go_sem, q7z, c0]
   apply hK
   simp only [seval, go_sem, Tryz.results16]
   try rfl
theorem qwx {ys : List AV} (h : ∀ y ∈ ys, ∃ zs, q2y [.int .u8, .int .i64, .int .i64, .str, .int .i64, .int .i64, .int .i64, .int .u64, .sl 1 false [.str], .int .u64] zs ∧ y = pack true zs) : ∃ l : List Ac, ys = acts l ∧ (∀ a ∈ l, a.by_ ≤ 18446744073709551615) ∧ ∀ a ∈ l, a.op.us.length ≤ maxLen := by
 induction ys with
 | nil => exact ⟨[], rfl, (fun a ha => by cases ha), (fun a ha => by cases ha)⟩
 | cons y ys ih =>
  obtain ⟨l, rfl, hl, hu⟩ := ih (fun z hz => h z (z3g _ hz))
  obtain ⟨zs, ⟨_, _, rfl, ⟨d, rfl, hd⟩, _, _, rfl, ⟨w, rfl, _⟩, _, _, rfl, ⟨a, rfl, _⟩, _, _, rfl, ⟨u, rfl, _⟩, _, _, rfl, ⟨b, rfl, _⟩, _, _, rfl, ⟨c, rfl, _⟩, _, _, rfl, ⟨e, rfl, _⟩, _, _, rfl, ⟨t, rfl, _⟩, _, _, rfl, ⟨vs, rfl, hvl, hvs⟩, _, _, rfl, ⟨y, rfl, hy⟩, rfl⟩, rfl⟩ := h y z3b
  obtain ⟨us, rfl⟩ := qxe hvs
  have hd' : 0 ≤ d ∧ d ≤ 255 := by simpa [Lit.wf, IntKind.min, IntKind.max, IntKind.signed, IntKind.bits] using hd
  have hy' : 0 ≤ y ∧ y ≤ 18446744073709551615 := by simpa [Lit.wf, IntKind.min, IntKind.max, IntKind.signed, IntKind.bits] using hy
  obtain ⟨d, rfl⟩ : ∃ m : Nat, d = m := ⟨d.toNat, by omega⟩
  obtain ⟨y, rfl⟩ : ∃ m : Nat, y = m := ⟨y.toNat, by omega⟩
  rw [z0f] at hvl
  refine ⟨⟨d, w, ⟨a, u, b, c, e, t, us⟩, y⟩ :: l, rfl, fun x hx => ?_, fun x hx => ?_⟩
  · rcases z26.1 hx with rfl | hx
    · simp only; omega
    · exact hl x hx
  · rcases z26.1 hx with rfl | hx
    · exact hvl
    · exact hu x hx
def befM (n : Nat) (M : Md) (a : Ac) : Md := if a.d % 3 = 1 then M.tick a.by_ else if a.d % 3 = 2 then M.sweep n ((a.by_ % 9 : Nat) : Int) else doM n M a.who a.op
def befR (n : Nat) (M : Md) (a : Ac) : Rp := if a.d % 3 = 1 then errR 0 else if a.d % 3 = 2 then errR 0 else doR n M a.who a.op
theorem qso {n pad B : Nat} {M : Md} (h : WOk n B M) (hB : B + 1 ≤ 900) (a : Ac) (ho : OpOk a.op) : q0j P 3 20 (modM n pad M) [.ptr 0 0, a.av]
 (fun x m' => x = (befR n M a).av ∧ m' = modM n pad (befM n M a)) := by
 refine q3a tyOk Tryz.func20 rfl rfl (by rw [q0u, mlen]; omega) fun K hK => ?_
 rw [q0u] at hK
 simp only [seval, go_sem, Tryz.ntmps20]
 have em : Int.tmod (a.d : Int) 3 = ((a.d % 3 : Nat) : Int) := rfl
 have e9 : Int.tmod (a.by_ : Int) 9 = ((a.by_ % 9 : Nat) : Int) := rfl
 have wu (k : Nat) (hk : k < 256) : IntKind.u8.wrap ((k : Nat) : Int) = k := by rw [IntKind.wrap_u8]; omega
 have w9 : IntKind.u64.wrap ((a.by_ % 9 : Nat) : Int) = ((a.by_ % 9 : Nat) : Int) := by rw [z2z]; omega
 have w9' : IntKind.i64.wrap ((a.by_ % 9 : Nat) : Int) = ((a.by_ % 9 : Nat) : Int) := wrap_i64 (by omega) (by omega)
 unfold befM befR at hK
 simp only [seval, go_sem, Ac.av, em]
 obtain ⟨q, hq⟩ : ∃ q, a.d % 3 = q := ⟨_, rfl⟩
 have hq3 : q < 3 := by omega
 rw [hq] at hK ⊢
 rcases (show q = 1 ∨ q = 2 ∨ q = 0 by omega) with rfl | rfl | rfl
 · simp only [if_pos] at hK
   have q1 : ((((1 : Nat) : Int)) == 1) = true := rfl
   simp only [seval, go_sem]
   refine q17 (qca (qwi n pad M a.by_) rfl ?_)
   rintro _ _ ⟨rfl, rfl⟩
   refine ⟨rfl, _, rfl, ?_⟩
   simp only [seval, go_sem]
   apply hK
   simp only [seval, go_sem, Tryz.results20]
   try (first | exact ⟨rfl, rfl⟩ | rfl | exact ⟨rfl, _, rfl⟩)
 · rw [if_neg (by decide), if_pos rfl, if_neg (by decide), if_pos rfl] at hK
   have q1 : ((((2 : Nat) : Int)) == 1) = false := rfl
   have q2 : ((((2 : Nat) : Int)) == 2) = true := rfl
   simp only [seval, go_sem, e9, w9']
   refine q3k (kp := kpX n) (fun b hb => by simp [kpX, show b < 3 by omega]) (qa0 (qs9 h.ok ((a.by_ % 9 : Nat) : Int)) rfl ?_ ?_)
   · rfl
   rintro _ _ ⟨rfl, rfl⟩
   refine ⟨rfl, _, rfl, ?_⟩
   simp only [seval, go_sem]
   apply hK
   simp only [seval, go_sem, Tryz.results20]
   try (first | exact ⟨rfl, rfl⟩ | rfl | exact ⟨rfl, _, rfl⟩)
 · rw [if_neg (by decide), if_neg (by decide), if_neg (by decide), if_neg (by decide)] at hK
   have q1 : ((((0 : Nat) : Int)) == 1) = false := rfl
   have q2 : ((((0 : Nat) : Int)) == 2) = false := rfl
   have hDo := Do_in (pad := pad) h hB a.who a.op ho [.box a.cs, .box [.v (.int .i64 0), .v (.slice none 0 0), .v (.slice none 0 0), .v (.bool false)]] rfl
   unfold Opb.av at hDo
   simp only [seval, go_sem]
   refine q3k (kp := kpX n) (fun b hb => by simp [kpX, show b < 3 by omega]) (hDo.mono ?_)
   rintro _ _ ⟨rfl, rfl⟩
   generalize doR n M a.who a.op = R at *
   cases R with
   | mk e v ev l =>
    cases v <;> cases ev
    all_goals
     simp only [seval, go_sem, Rp.av, slO, Option.map]
     apply hK
     simp only [seval, go_sem, Tryz.results20]
     try (first | exact ⟨rfl, rfl⟩ | rfl | exact ⟨rfl, _, rfl⟩)
end Go.Proofs.YtdkcpcflfnakdaaGreat
namespace Go.Proofs.YtdkcpcflfnakdaaGreat
open Go Go.Proofs.YtdkcpcflfnakdaaGreat.Sym
set_option maxRecDepth 100000
set_option maxHeartbeats 1000000
set_option maxHeartbeats 2000000
end Go.Proofs.YtdkcpcflfnakdaaGreat
namespace Go.Proofs.YtdkcpcflfnakdaaGreat
open Go Go.Proofs.YtdkcpcflfnakdaaGreat.Sym
set_option maxRecDepth 100000
set_option maxHeartbeats 1000000
section
variable {α β : Type} {lt eq : α → α → Bool}
end
structure Tells (now : Int) (B : Bk) (xs : List Chg) (B' : Bk) : Prop where
 apart : xs.Pairwise fun a b => a.u ≠ b.u
 each : ∀ c ∈ xs, c.old = (q0o B c.u).t ∧ c.new = (q0o B' c.u).t ∧ c.old ≠ c.new
 rest : ∀ u, (∀ c ∈ xs, c.u ≠ u) → (q0o B' u).t = (q0o B u).t
end Go.Proofs.YtdkcpcflfnakdaaGreat
namespace Go.Proofs.YtdkcpcflfnakdaaGreat
open Go Go.Proofs.YtdkcpcflfnakdaaGreat.Sym
set_option maxRecDepth 100000
set_option maxHeartbeats 1000000
set_option maxHeartbeats 2000000
def q7x (n : Nat) (M : Md) (i : Nat) : Nat := ((List.range i).map fun j => sumL (M.b j)).sum
theorem qlg (n : Nat) (M : Md) (i : Nat) : q7x n M (i + 1) = q7x n M i + sumL (M.b i) := by
 simp [q7x, z2j]
theorem qkw {m : Bk} (h : q24 200 m) : sumL m ≤ 40000 := by
 have h1 := qpl h m.length
 rw [z0w] at h1
 have h2 := h.2.1
 have : 200 * m.length ≤ 200 * 200 := z4l _ (by omega)
 omega
theorem qr1 {n : Nat} {M : Md} (h : ∀ j, q24 200 (M.b j)) : ∀ i, q7x n M i ≤ 40000 * i
 | 0 => by simp [q7x]
 | i + 1 => by
  have h1 := qr1 (n := n) h i
  have h2 := qkw (h i)
  rw [qlg]; omega
theorem qqa {n pad B : Nat} {M : Md} (h : MOk n B M) (hB : B ≤ 200) : ACall P 31 (modM n pad M) [.ptr 0 0] (fun x m' => x = i64 (q7x n M n : Nat) ∧ m' = modM n pad M) := by
 have hb : ∀ j, q24 200 (M.b j) := fun j => (h.b j).mono hB
 have hn8 := h.n8
 refine q1a tyOk Tryz.func31 rfl rfl fun K hK => ?_
 rw [q0u] at hK ⊢
 simp only [seval, go_sem, Tryz.ntmps31]
 refine q0d tyOk (α := Nat) (mlen n) [0, 3, 9, 10, 11] (fun i => i ≤ n)
  (fun i => ⟨[.ptr 0 0, .any, .any, i64 (q7x n M i : Nat), .any, .any, .any, .any, .any, .own 1 2 0 n, i64 n, i64 i, .any, .any, .any, .any, .any, .any, .any, .any, .any], modM n pad M⟩)
  (fun i => n - i) 0 (by simp) (z00 _) ?_ ?_
 · simp only [seval, go_sem]
   all_goals rfl
 intro i hi
 simp only [seval, go_sem]
 refine q02 ?_ ?_ <;> intro hf
 · have hlt : i < n := by simpa using hf
   have eb := bk_at M.b hlt
   have ew : IntKind.i64.wrap ((i : Int) + 1) = ((i + 1 : Nat) : Int) := by rw [wrap_i64 (by omega) (by omega)]; rfl
   have hS := qrt (M.b i) (hb i)
   unfold q0n at hS
   have hs := qr1 (n := n) hb i
   have hs2 := qkw (hb i)
   have hs3 := qlg n M i
   have ew2 : IntKind.i64.wrap (((q7x n M i : Nat) : Int) + ((sumL (M.b i) : Nat) : Int)) = ((q7x n M (i + 1) : Nat) : Int) := by
    rw [hs3, wrap_i64 (by omega) (by omega)]; rfl
   have b1 : (0 : Int) ≤ (i : Int) ∧ Int.toNat (i : Int) < n := by omega
   simp only [seval, go_sem, eb, b1, q8f]
   (refine q00 hS rfl ?_; rintro _ rfl)
   simp only [seval, go_sem, ew, ew2]
   simp only [seval, go_sem, q01]
   all_goals exact ⟨i + 1, hlt, by omega, rfl⟩
 · obtain rfl : i = n := by have := of_decide_eq_false hf; omega
   simp only [seval, go_sem]
   apply hK
   simp only [seval, go_sem, Tryz.results31]
   try rfl
end Go.Proofs.YtdkcpcflfnakdaaGreat
namespace Go.Proofs.YtdkcpcflfnakdaaGreat
open Go Go.Proofs.YtdkcpcflfnakdaaGreat.Sym
set_option maxRecDepth 100000
set_option maxHeartbeats 1000000
set_option maxHeartbeats 2000000
theorem qhu (l : List Pr) : (prs l).length = l.length := by simp [prs]
theorem take_pr {a b : List Pr} {i : Nat} (h1 : i < a.length) (h2 : i < b.length) : (a.take (i + 1) = b.take (i + 1)) ↔ (a.take i = b.take i ∧ a[i] = b[i]) := by
 rw [q12 h1, q12 h2]
 constructor
 · intro h
   obtain ⟨p, q⟩ := List.append_inj' h rfl
   exact ⟨p, by simpa using q⟩
 · rintro ⟨p, q⟩; rw [p, q]
def sameR (a b : Rp) : Bool := decide (a.err = b.err) && (decide (a.lost = b.lost) && (decide (a.vals.getD [] = b.vals.getD []) && decide (a.evs.getD [] = b.evs.getD [])))
theorem qvv (a : Rp) : sameR a a = true := by simp [sameR]
theorem qhk (a : Rp) : weak a.av (.agg [i64 a.err, .sl 3 (prs (a.vals.getD [])), .sl 8 (evts (a.evs.getD [])), bool a.lost]) := by
 cases a with
 | mk e v ev l => cases v <;> cases ev
                  · exact .inr ⟨_, rfl, _, _, rfl, q0g _, _, _, rfl, q1j 3, _, _, rfl, q1j 8, _, _, rfl, q0g _, rfl⟩
                  · exact .inr ⟨_, rfl, _, _, rfl, q0g _, _, _, rfl, q1j 3, _, _, rfl, q0g _, _, _, rfl, q0g _, rfl⟩
                  · exact .inr ⟨_, rfl, _, _, rfl, q0g _, _, _, rfl, q0g _, _, _, rfl, q1j 8, _, _, rfl, q0g _, rfl⟩
                  · exact .inr ⟨_, rfl, _, _, rfl, q0g _, _, _, rfl, q0g _, _, _, rfl, q0g _, _, _, rfl, q0g _, rfl⟩
theorem qds (e1 e2 : Int) (v1 v2 : List Pr) (w1 w2 : List Ev) (l1 l2 : Bool) (h1 : v1.length ≤ 100000) (h2 : v2.length ≤ 100000) (h3 : w1.length ≤ 100000) (h4 : w2.length ≤ 100000) :
 q08 P 29 [.agg [i64 e1, .sl 3 (prs v1), .sl 8 (evts w1), bool l1], .agg [i64 e2, .sl 3 (prs v2), .sl 8 (evts w2), bool l2]] (fun x => x = bool (sameR ⟨e1, some v1, some w1, l1⟩ ⟨e2, some v2, some w2, l2⟩)) := by
 have hE := qw3 w1 w2 h3 h4
 refine q09 tyOk Tryz.func29 rfl rfl fun K hK => ?_
 simp only [seval, go_sem, Tryz.ntmps29]
 unfold sameR at hK
 simp only [z3x] at hK
 have cE : (e1 == e2) = decide (e1 = e2) := rfl
 have cl : (l1 == l2) = decide (l1 = l2) := rfl
 have nE : (e1 != e2) = !decide (e1 = e2) := rfl
 have nl : (l1 != l2) = !decide (l1 = l2) := by cases l1 <;> cases l2 <;> rfl
 by_cases c1 : e1 = e2
 · rw [decide_eq_true c1] at hK nE
   by_cases c2 : l1 = l2
   · rw [decide_eq_true c2] at hK nl
     by_cases c3 : v1.length = v2.length
     · have n3 : ((v1.length : Int) != (v2.length : Int)) = false := by rw [c3]; simp
       simp only [seval, go_sem, nE, nl, qhu, n3]
       (refine q00 hE rfl ?_; rintro _ rfl)
       by_cases c4 : w1 = w2
       · rw [decide_eq_true c4] at hK ⊢
         simp only [seval, go_sem]
         refine q0d tyOk (α := Nat) 2 [2, 3, 5] (fun i => i ≤ v1.length ∧ v1.take i = v2.take i)
          (fun i => ⟨[.any, .any, .ptr 0 0, .ptr 1 0, .any, i64 i, .any, .any, .any, .any, .any, .any, .any, .any, .any, .any, .any, .any, .any, .any, .any, .any, .any, .any, .any, .any, .any, .any, .any, .any, .any, .any, .any, .any, .any, .any, .any, .any, .any, .any, .any, .any, .any, .any, .any, .any, .any, .any, .any, .any, .any, .any, .any], [.box [i64 e1, .sl 3 (prs v1), .sl 8 (evts w1), bool l1], .box [i64 e2, .sl 3 (prs v2), .sl 8 (evts w2), bool l2]]⟩)
          (fun i => v1.length - i) 0 (by simp) ⟨z00 _, rfl⟩ rfl ?_
         rintro i ⟨hi, he⟩
         simp only [seval, go_sem, qhu]
         refine q02 ?_ ?_ <;> intro h <;> simp only [seval, go_sem]
         · have hlt : i < v1.length := by have := of_decide_eq_true h; omega
           have hlt2 : i < v2.length := by omega
           have eg : (prs v1).getD (Int.toNat (i : Int)) .any = .agg [i64 v1[i].st, i64 v1[i].pr, i64 v1[i].n] := q2d (f := Pr.av) hlt
           have eg2 : (prs v2).getD (Int.toNat (i : Int)) .any = .agg [i64 v2[i].st, i64 v2[i].pr, i64 v2[i].n] := q2d (f := Pr.av) hlt2
           have ew : IntKind.i64.wrap ((i : Int) + 1) = ((i + 1 : Nat) : Int) := by rw [wrap_i64 (by omega) (by omega)]; rfl
           have c1' : (0 : Int) ≤ (i : Int) ∧ Int.toNat (i : Int) < v1.length := by omega
           have c2' : (0 : Int) ≤ (i : Int) ∧ Int.toNat (i : Int) < v2.length := by omega
           have hte := take_pr hlt hlt2
           generalize v1[i] = e at *
           generalize v2[i] = f at *
           refine q0a tyOk (by rfl) (by simp only [z02, z0a, Nat.reduceAdd, z00]) (by kernel_rfl) rfl ?_
           simp only [seval, go_sem, eg, eg2, c1', c2', qhu]
           refine ⟨by kernel_rfl, ?_⟩
           simp only [seval, go_sem, qln]
           refine q02 ?_ ?_ <;> intro h2
           · simp only [seval, go_sem]
             apply hK
             simp only [seval, go_sem, Tryz.results29]
             have : decide (v1 = v2) = false := by
              rw [decide_eq_false_iff_not]; intro hv
              have := (hte.1 (by rw [hv])).2
              rw [this] at h2; simp at h2
             rw [this]
           · simp only [seval, go_sem, ew]
             simp only [seval, go_sem, q01]
             all_goals exact ⟨i + 1, ⟨hlt, hte.2 ⟨he, by simpa using h2⟩⟩, by omega, rfl⟩
         · obtain rfl : i = v1.length := by have := of_decide_eq_false h; omega
           apply hK
           simp only [seval, go_sem, Tryz.results29]
           rw [z0w, c3, z0w] at he
           rw [decide_eq_true he]
       · rw [decide_eq_false c4] at hK ⊢
         simp only [seval, go_sem]
         apply hK
         simp only [seval, go_sem, Tryz.results29]
         simp
     · have n3 : ((v1.length : Int) != (v2.length : Int)) = true := by rw [bne_iff_ne]; omega
       simp only [seval, go_sem, nE, nl, qhu, n3]
       apply hK
       simp only [seval, go_sem, Tryz.results29]
       have : ¬ v1 = v2 := fun h => c3 (by rw [h])
       simp [this]
   · rw [decide_eq_false c2] at hK nl
     simp only [seval, go_sem, nE, nl]
     apply hK
     simp only [seval, go_sem, Tryz.results29]
     simp
 · rw [decide_eq_false c1] at hK nE
   simp only [seval, go_sem, nE]
   apply hK
   simp only [seval, go_sem, Tryz.results29]
   simp
end Go.Proofs.YtdkcpcflfnakdaaGreat
namespace Go.Proofs.YtdkcpcflfnakdaaGreat
open Go Go.Proofs.YtdkcpcflfnakdaaGreat.Sym
set_option maxRecDepth 100000
set_option maxHeartbeats 1000000
set_option maxHeartbeats 2000000
def Some_ (now : Int) (a b : List Ses) : Prop := b.Sublist a ∧ lives now b = lives now a
structure SwR (A B : Md) : Prop where
 c : B.c = A.c
 rng : 0 ≤ A.t.now ∧ A.t.now ≤ 18446744073709551615
 now : B.t.now = A.t.now
 cl : B.t.cl = A.t.cl
 m : ∀ j, (B.f j).m = (A.f j).m
 b : ∀ j u, Some_ A.t.now (q0o (A.b j) u).l (q0o (B.b j) u).l
end Go.Proofs.YtdkcpcflfnakdaaGreat
namespace Go.Proofs.YtdkcpcflfnakdaaGreat
open Go Go.Proofs.YtdkcpcflfnakdaaGreat.Sym
set_option maxRecDepth 100000
set_option maxHeartbeats 1000000
set_option maxHeartbeats 2000000
def at_ (k : Nat) (X : List AB) : List AB := renM (List.range' k X.length) X
theorem q8u (k : Nat) (X : List AB) : (at_ k X).length = X.length := by rw [at_, q1y]
theorem at_get (k : Nat) (X : List AB) (i : Nat) : (at_ k X)[i]? = (X[i]?).map (AB.ren (List.range' k X.length)) := by rw [at_, q23]
theorem qpm {k i : Nat} {X : List AB} (hX : X.all (AB.inR X.length) = true) {cs : List AV} (h : (at_ k X)[i]? = some (.box cs)) : ∀ b ∈ q03 cs, k ≤ b ∧ b < k + X.length := by
 rw [at_get] at h
 cases hg : X[i]? with
 | none => rw [hg] at h; cases h
 | some blk =>
  rw [hg] at h
  simp only [z19, z1d] at h
  cases blk with
  | box cs0 =>
   simp only [AB.ren, AB.box.injEq] at h
   subst h
   have hk : (q03 cs0).all (fun b => decide (b < X.length)) = true := z0l.1 hX _ (z06 hg)
   intro b hb
   obtain ⟨c, hc, rfl, _⟩ := q4v cs0 hk b hb
   omega
  | row _ _ _ => simp [AB.ren] at h
  | rowc _ _ _ _ => simp [AB.ren] at h
  | gone => simp [AB.ren] at h
  | tr _ _ => simp [AB.ren] at h
theorem at_fix {k : Nat} {X : List AB} (hX : X.all (AB.inR X.length) = true) {f : AB → AB} (h1 : ∀ cs, (∀ b ∈ q03 cs, k ≤ b ∧ b < k + X.length) → f (.box cs) = .box cs) (h2 : ∀ blk, (∀ cs, blk ≠ .box cs) → f blk = blk) : (at_ k X).map f = at_ k X := by
 apply z1e
 intro i
 rw [z11]
 cases h : (at_ k X)[i]? with
 | none => rfl
 | some blk =>
  simp only [z19]
  congr 1
  by_cases hb : ∃ cs, blk = .box cs
  · obtain ⟨cs, rfl⟩ := hb
    exact h1 cs (qpm hX h)
  · exact h2 blk (fun cs hc => hb ⟨cs, hc⟩)
theorem at_trunc {k N : Nat} {X Y : List AB} (hX : X.all (AB.inR X.length) = true) (h : k + X.length ≤ N) : (at_ k X).map (AB.trunc Y N) = at_ k X :=
 at_fix hX (fun cs hc => by simp only [AB.trunc]; rw [q31 cs (fun b hb => z10 (hc b hb).2 h)]) (fun blk hb => by cases blk <;> first | rfl | exact absurd rfl (hb _))
theorem qtq {k b : Nat} {X : List AB} (hX : X.all (AB.inR X.length) = true) (h : k + X.length ≤ b) : (at_ k X).map (AB.kill b) = at_ k X :=
 at_fix hX (fun cs hc => by simp only [AB.kill]; rw [q45 cs (fun c hb => by have := hc c hb; omega)]) (fun blk hb => by cases blk <;> first | rfl | exact absurd rfl (hb _))
mutual
theorem qj7 {l : List Nat} : ∀ {x : AV}, bks x = [] → ren l x = x
 | .v _, _ => rfl
 | .agg xs, h => by simp only [ren]; rw [q7q h]
 | .tup xs, h => by simp only [ren]; rw [q7q h]
 | .sl _ _, _ => rfl
 | .rp _, _ => rfl
 | .own b _ _ _, h => by simp [bks] at h
 | .ptr b _, h => by simp [bks] at h
 | .ep b _ _ _, h => by simp [bks] at h
 | .fn _ caps, h => by simp only [ren]; rw [q7q h]
 | .any, _ => rfl
theorem q7q {l : List Nat} : ∀ {xs : List AV}, q03 xs = [] → q0i l xs = xs
 | [], _ => rfl
 | x :: xs, h => by
  simp only [q03, z2u] at h
  simp only [q0i]
  rw [qj7 h.1, q7q h.2]
end
section
variable (n p l : Nat) (A : Md) (X r : List AB) (hl : X.length = l)
include hl
theorem tw_alen : (modM n p A ++ (at_ (mlen n) X ++ r)).length = mlen n + (l + r.length) := by rw [q4h, z0c, q8u, hl]
theorem ql6 (k : Nat) : (modM n p A ++ (at_ (mlen n) X ++ r))[mlen n + (l + k)]? = r[k]? := by
 rw [q6w, z18 (by rw [q8u]; omega), q8u, show l + k - X.length = k by omega]
theorem tw_s (k : Nat) (x : AB) : (modM n p A ++ (at_ (mlen n) X ++ r)).set (mlen n + (l + k)) x = modM n p A ++ (at_ (mlen n) X ++ r.set k x) := by
 rw [mm_s, z4c _ _ (by rw [q8u]; omega), q8u, show l + k - X.length = k by omega]
theorem qqg (i : Nat) (h : i < l) : (modM n p A ++ (at_ (mlen n) X ++ r))[mlen n + i]? = (X[i]?).map (AB.ren (List.range' (mlen n) X.length)) := by
 rw [q6w, z0j (by rw [q8u]; omega), at_get]
theorem tw_atAll : (List.range' (mlen n) l).map (fun b => (modM n p A ++ (at_ (mlen n) X ++ r))[b]?) = (renM (List.range' (mlen n) l) X).map some := by
 apply z1e
 intro i
 by_cases hi : i < l
 · rw [z11, q38 hi, z11, q23]
   simp only [z19]
   rw [qqg n p l A X r hl i hi, hl, z05 (by omega)]
   rfl
 · rw [z0p (by simp; omega), z0p (by simp [q1y]; omega)]
theorem tw_put (X' : List AB) (hl' : X'.length = l) : putL (modM n p A ++ (at_ (mlen n) X ++ r)) (List.range' (mlen n) l) (renM (List.range' (mlen n) l) X') = modM n p A ++ (at_ (mlen n) X' ++ r) := by
 apply z1e
 intro i
 by_cases hm : i ∈ List.range' (mlen n) l
 · obtain ⟨h1, h2⟩ := q39.1 hm
   obtain ⟨j, rfl⟩ := z2a h1
   have hj : j < l := by omega
   obtain ⟨z, hg⟩ : ∃ z, X'[j]? = some z := ⟨_, z05 (by omega)⟩
   rw [q9m _ _ _ j (mlen n + j) (AB.ren (List.range' (mlen n) l) z) z2c (by rw [q38 hj]) (by rw [q23, hg]; rfl) (by rw [tw_alen n p l A X r hl]; omega), qqg n p l A X' r hl' j hj, hg, hl']
   rfl
 · rw [q6m _ _ _ _ hm]
   by_cases h1 : i < mlen n
   · rw [z0j (by rw [q0u]; exact h1), z0j (by rw [q0u]; exact h1)]
   · have h2 : mlen n + l ≤ i := z1x fun h => hm (q39.2 ⟨by omega, h⟩)
     obtain ⟨k, rfl⟩ := z2a h2
     rw [z4j, ql6 n p l A X r hl, ql6 n p l A X' r hl']
variable (hX : X.all (AB.inR l) = true)
include hX
theorem tw_rn {Y : List AB} (k : Nat) : ((modM n p A ++ (at_ (mlen n) X ++ r)).take (mlen n + (l + k))).map (AB.trunc Y (mlen n + (l + k))) = modM n p A ++ (at_ (mlen n) X ++ (r.take k).map (AB.trunc Y (mlen n + (l + k)))) := by
 rw [mm_tk, z12, qiz n p A (by omega), z4y, q8u, z07 (by rw [q8u]; omega), show l + k - X.length = k by omega, z12, at_trunc (by rw [hl]; exact hX) (by omega)]
end
def kpT (n l : Nat) (kp0 : Nat → Bool) (b : Nat) : Bool := decide (b < mlen n) || (decide (mlen n + l ≤ b) || kp0 (b - mlen n))
def AB.calm2 (n l : Nat) (kp0 : Nat → Bool) : AB → Bool
 | .box cs => (q03 cs).all (fun b => (decide (b < 3) || decide (mlen n ≤ b)) && kpT n l kp0 b)
 | _ => true
theorem tw_calm {n l : Nat} {kp0 : Nat → Bool} {X r : List AB} (hX : X.all (AB.inR X.length) = true) (hr : r.all (AB.calm2 n l kp0) = true) : (at_ (mlen n) X ++ r).all (AB.calm n) = true := by
 rw [z4m, z0d]
 refine ⟨z0l.2 fun blk hb => ?_, z0l.2 fun blk hb => ?_⟩
 · obtain ⟨i, hi⟩ := z1m hb
   cases blk with
   | box cs => exact z0l.2 fun b hb => by have := qpm hX hi b hb; simp only [z1q, decide_eq_true_eq]; omega
   | _ => rfl
 · have := z0l.1 hr blk hb
   cases blk with
   | box cs => exact z0l.2 fun b hb => by have := z0l.1 this b hb; rw [z0d] at this; exact this.1
   | _ => rfl
theorem tw_in {g : FuncId} {args0 args : List AV} {K0 K : AV → List AB → Prop} {n p l : Nat} {A : Md} {X r : List AB} (h : ACall P g X args0 K0) (hl : X.length = l) (hX : X.all (AB.inR l) = true) (ha : args = q0i (List.range' (mlen n) l) args0) (hb : (q03 args0).all (fun b => decide (b < l)) = true)
 (hK : ∀ x X', K0 x X' → X'.length = l ∧ K (ren (List.range' (mlen n) l) x) (modM n p A ++ (at_ (mlen n) X' ++ r))) : ACall P g (modM n p A ++ (at_ (mlen n) X ++ r)) args K := by
 refine h.frame (List.range' (mlen n) l) z2c (tw_atAll n p l A X r hl) ha (by rw [z22]; exact hb) (by rw [z22]; exact hX) ?_
 intro x X' hx
 obtain ⟨hl', hv⟩ := hK x X' hx
 exact ⟨by omega, by rw [tw_put n p l A X r hl X' hl']; exact hv⟩
end Go.Proofs.YtdkcpcflfnakdaaGreat
namespace Go.Proofs.YtdkcpcflfnakdaaGreat
open Go Go.Proofs.YtdkcpcflfnakdaaGreat.Sym
set_option maxRecDepth 100000
set_option maxHeartbeats 1000000
set_option maxHeartbeats 2000000
theorem qmi {kp : Nat → Bool} {g : FuncId} {m : List AB} {args : List AV} {R R' : AV → List AB → Prop} (h : q0r P kp g m args R) (hk : ∀ x m1, R x m1 → ∃ x' m2, Sym.weak x x' ∧ q8r m1 m2 ∧ R' x' m2) : q0r P kp g m args R' := by
 refine ⟨h.1, fun Hd ι w vs hR => (h.2 Hd ι w vs hR).mono ?_⟩
 rintro e w' ⟨y, x, ι', m', rfl, hR', hE, h5, hx⟩
 obtain ⟨x', m2, w1, w2, k⟩ := hk x m' hx
 obtain ⟨ι2, hR2, hE2⟩ := q0c.weak (s := ⟨[x], m'⟩) (s' := ⟨[x'], m2⟩) ⟨_, _, rfl, w1, rfl⟩ w2 Hd 0 ι' _ w' hR'
 exact ⟨y, x', ι2, m2, rfl, hR2, hE.trans (hE2 0), fun b o hb ho => (hE2 (b + 1)).keep b o (z3r b) (h5 b o hb ho), k⟩
def Rp.avw (a : Rp) : AV := .agg [i64 a.err, .sl 3 (prs (a.vals.getD [])), .sl 8 (evts (a.evs.getD [])), bool a.lost]
theorem befallsW {n pad B : Nat} {M : Md} (h : WOk n B M) (hB : B + 1 ≤ 900) (a : Ac) (ho : OpOk a.op) : q0r P (fun b => decide (b < 3)) 20 (modM n pad M) [.ptr 0 0, a.av]
 (fun x m' => x = (befR n M a).avw ∧ m' = modM n pad (befM n M a)) :=
 qmi (qso h hB a ho).toX (by rintro x m1 ⟨rfl, rfl⟩; exact ⟨_, _, qhk _, qbj _, rfl, rfl⟩)
theorem qvp {n B : Nat} {M : Md} (h : MOk n B M) (who : Int) : ∀ k, total (q3m M who k) ≤ 100 * k := by
 intro k
 induction k with
 | zero => simp [q3m, total]
 | succ k ih =>
  have h1 := h.q k who.toNat
  rw [qev]
  simp only [total, z12, z57, z0r, z0o, z4w, List.sum_nil] at ih ⊢
  omega
theorem bef_len {n B : Nat} {M : Md} (h : WOk n B M) (a : Ac) (ho : OpOk a.op) : ((befR n M a).vals.getD []).length ≤ 100000 ∧ ((befR n M a).evs.getD []).length ≤ 100000 := by
 have hn8 := h.ok.n8
 have z : ([] : List Pr).length ≤ 100000 ∧ ([] : List Ev).length ≤ 100000 := ⟨z00 _, z00 _⟩
 unfold befR
 split
 · exact z
 split
 · exact z
 unfold doR
 split
 · exact z
 split
 · unfold qau; split <;> exact z
 split
 · refine ⟨z00 _, ?_⟩
   simp only [z3x]
   rw [q8b _ _ rfl]
   have := qvp h.ok a.who n
   omega
 split
 · exact z
 split
 · exact z
 split
 · exact z
 split
 · exact z
 · refine ⟨?_, z00 _⟩
   simp only [z3x, z0f]
   have := ho.l
   unfold q4m
   split
   · simp
   · omega
section
variable (n p p2 : Nat) (A B : Md) (r : List AB)
end
end Go.Proofs.YtdkcpcflfnakdaaGreat
namespace Go.Proofs.YtdkcpcflfnakdaaGreat
open Go Go.Proofs.YtdkcpcflfnakdaaGreat.Sym
set_option maxRecDepth 100000
set_option maxHeartbeats 1000000
def usr (p : ByteArray × En) : AV := .agg [str p.1, .sl 4 (avs p.2.l), i64 p.2.t.st, i64 p.2.t.pr, i64 p.2.t.n]
def usrs (m : Bk) : List AV := m.map usr
theorem q1w (m : Bk) : (usrs m).length = m.length := by simp [usrs]
theorem qga (m : Bk) (p : ByteArray × En) : usrs m ++ [usr p] = usrs (m ++ [p]) := by simp [usrs]
theorem qw9 (l : List Ses) (s : Ses) : q3e (l ++ [s]) = q5k (q3e l) s := by rw [q3e, z3k]; rfl
instance : Inhabited Ses := ⟨⟨0, 0, 0, 0⟩⟩
def q4e (s t : Ses) (k i : Nat) : Bool := decide (t.pr < s.pr) || (s.pr == t.pr && (decide (s.id < t.id) || (s.id == t.id && decide ((k : Int) < (i : Int)))))
def q56 (l : List Ses) (i k : Nat) : Bool := (List.range k).any fun k' => q4e (l.getD k' default) (l.getD i default) k' i
theorem qof {l : List Ses} {i k : Nat} (hi : i < l.length) (hk : k < l.length) : q56 l i (k + 1) = (q56 l i k || q4e l[k] l[i] k i) := by
 rw [q56, z2j, z40, ← q56]
 simp [z04, z05 hi, z05 hk]
theorem qtg : ∀ l : List Ses, l ≠ [] → ∃ j, j < l.length ∧ (q3e l).1 = l.getD j default ∧ ∀ k, k < l.length → k ≠ j → q4e (l.getD j default) (l.getD k default) j k = true ∧ q4e (l.getD k default) (l.getD j default) k j = false := by
 refine snoc_ind (fun h => absurd rfl h) ?_
 intro l a ih _
 have hc := qdo l
 rw [qw9, q5k]
 have gl : ∀ k, k < l.length → (l ++ [a]).getD k default = l.getD k default := fun k hk => by
  simp [z04, z0j hk]
 have gr : (l ++ [a]).getD l.length default = a := by simp [z04]
 cases l with
 | nil =>
  refine ⟨0, by simp, ?_, fun k hk hne => ?_⟩
  · rw [if_pos (by rw [hc]; rfl)]; rfl
  · simp at hk; omega
 | cons c l =>
  obtain ⟨j, hj, hb, hall⟩ := ih (by simp)
  have hb2 : ((q3e (c :: l)).2 == 0) = false := by rw [hc]; simp; omega
  rw [hb2, z2g, hb]
  generalize hL : c :: l = L at *
  generalize hs : L.getD j default = s at *
  cases hbt : q9d a.pr a.id s.pr s.id with
  | true =>
   simp only [if_true]
   refine ⟨L.length, by simp, gr.symm, fun k hk hne => ?_⟩
   have hk' : k < L.length := by simp at hk; omega
   rw [gr, gl k hk']
   by_cases hkj : k = j
   · subst hkj
     rw [hs]
     simp only [q9d, q4e, z1q, z0d, decide_eq_true_eq, beq_iff_eq, z2m, z4a, decide_eq_false_iff_not] at *
     constructor
     · omega
     · refine ⟨by omega, fun h => ⟨by omega, fun h => ?_⟩⟩; omega
   · obtain ⟨h1, h2⟩ := hall k hk' hkj
     simp only [q9d, q4e, z1q, z0d, decide_eq_true_eq, beq_iff_eq, z2m, z4a, decide_eq_false_iff_not] at *
     constructor
     · omega
     · refine ⟨by omega, fun h => ⟨by omega, fun h => ?_⟩⟩; omega
  | false =>
   simp only [z0n, if_false]
   refine ⟨j, by simp; omega, by rw [gl j hj, hs], fun k hk hne => ?_⟩
   rw [gl j hj, hs]
   by_cases hk' : k < L.length
   · rw [gl k hk']; exact hall k hk' hne
   · have : k = L.length := by simp at hk; omega
     subst this
     rw [gr]
     simp only [q9d, q4e, z1q, z0d, decide_eq_true_eq, beq_iff_eq, z2m, z4a, decide_eq_false_iff_not] at *
     constructor
     · omega
     · refine ⟨by omega, fun h => ⟨by omega, fun h => ?_⟩⟩; omega
theorem qrn {l : List Ses} {i : Nat} (hi : i < l.length) (h : q56 l i l.length = false) : (q3e l).1 = l[i] := by
 obtain ⟨j, hj, hb, hall⟩ := qtg l (by intro e; rw [e] at hi; simp at hi)
 by_cases e : i = j
 · subst e
   rw [hb]; simp [z04, z05 hi]
 · have h2 := (hall i hi e).1
   have : q56 l i l.length = true := by
    rw [q56, z39]
    exact ⟨j, by simpa using hj, h2⟩
   rw [h] at this; cases this
theorem qxl {l : List Ses} (hn : l ≠ []) : ∃ j, j < l.length ∧ q56 l j l.length = false := by
 obtain ⟨j, hj, hb, hall⟩ := qtg l hn
 refine ⟨j, hj, ?_⟩
 rw [q56, z4r]
 intro k hk
 have hk' : k < l.length := by simpa using hk
 by_cases e : k = j
 · subst e
   simp [q4e]
 · rw [(hall k hk' e).2]; simp
theorem ref07_Of (l : List Ses) (now : Int) (hlen : l.length ≤ 200) :
 q08 P 88 [.sl 4 (avs l), u64 now] (fun x => x = pres (q3e (lives now l)).1.st (q3e (lives now l)).1.pr (q3e (lives now l)).2) := by
 refine q09 tyOk Tryz.func88 rfl rfl fun K hK => ?_
 simp only [seval, go_sem, Tryz.ntmps88]
 (refine q00 (qdm _ _ (by omega)) rfl ?_; rintro _ rfl)
 simp only [seval, go_sem]
 have hll : (lives now l).length ≤ 200 := z1f (z1n _ _) hlen
 have hcount := qdo (lives now l)
 generalize lives now l = L at hll hcount hK
 refine q0d tyOk (α := Nat) 1 [4, 5, 6] (fun i => i ≤ L.length ∧ ∀ i', i' < i → q56 L i' L.length = true)
  (fun i => ⟨[.any, .any, .any, .any, .ptr 0 0, .sl 4 (avs L), i64 i, .any, .any, .any, .any, .any, .any, .any, .any, .any, .any, .any, .any, .any, .any, .any, .any, .any, .any, .any, .any, .any, .any, .any, .any, .any, .any, .any, .any, .any, .any, .any, .any, .any, .any, .any, .any, .any, .any, .any, .any, .any, .any, .any, .any, .any, .any, .any, .any, .any, .any, .any, .any, .any, .any, .any, .any, .any, .any, .any, .any, .any, .any, .any, .any, .any, .any, .any, .any, .any, .any, .any, .any, .any, .any, .any, .any, .any, .any, .any, .any, .any, .any, .any, .any, .any, .any, .any], [.box [i64 0, i64 0, i64 0]]⟩)
  (fun i => L.length - i) 0 (z00 _) ⟨z00 _, fun _ h => by omega⟩ rfl ?_
 intro i ⟨hi, hbf⟩
 simp only [seval, go_sem, q07]
 refine q02 ?_ ?_ <;> intro h <;> simp only [seval, go_sem]
 · obtain ⟨hlt, eg, ew, c1⟩ := q8s (by omega) h
   refine q0d tyOk (α := Nat) 1 [4, 5, 6, 7, 8] (fun k => k ≤ L.length)
    (fun k => ⟨[.any, .any, .any, .any, .ptr 0 0, .sl 4 (avs L), i64 i, bool (!q56 L i k), i64 k, .any, .any, .any, .any, .any, .any, .any, .any, .any, .any, .any, .any, .any, .any, .any, .any, .any, .any, .any, .any, .any, .any, .any, .any, .any, .any, .any, .any, .any, .any, .any, .any, .any, .any, .any, .any, .any, .any, .any, .any, .any, .any, .any, .any, .any, .any, .any, .any, .any, .any, .any, .any, .any, .any, .any, .any, .any, .any, .any, .any, .any, .any, .any, .any, .any, .any, .any, .any, .any, .any, .any, .any, .any, .any, .any, .any, .any, .any, .any, .any, .any, .any, .any, .any, .any], [.box [i64 0, i64 0, i64 0]]⟩)
    (fun k => L.length - k) 0 (z00 _) (z00 _) rfl ?_
   intro k hk
   simp only [seval, go_sem, q07]
   refine q02 ?_ ?_ <;> intro h2 <;> simp only [seval, go_sem]
   · obtain ⟨hlt2, eg2, ew2, c2⟩ := q8s (by omega) h2
     have hbt := qof (k := k) hlt hlt2
     refine q0a tyOk (by rfl) (by simp only [z02, z0a, Nat.reduceAdd, z00]) (by kernel_rfl) rfl ?_
     simp only [seval, go_sem, eg, c1, eg2, c2, q07]
     refine qa5 ?_ ?_ <;> intro b1
     · have hv : q4e L[k] L[i] k i = true := by rw [q4e, b1]; rfl
       simp only [seval, go_sem]
       refine ⟨by kernel_rfl, ?_⟩
       simp only [seval, go_sem, ew2]
       simp only [seval, go_sem, q01]
       all_goals exact ⟨k + 1, hlt2, by omega, by rw [hbt, hv]; first | rfl | rw [z36] | (rw [z2t]; rfl)⟩
     · simp only [seval, go_sem, eg, c1, eg2, c2, q07]
       refine qa5 ?_ ?_ <;> intro b2
       · simp only [seval, go_sem, eg, c1, eg2, c2, q07]
         refine qa5 ?_ ?_ <;> intro b3
         · have hv : q4e L[k] L[i] k i = true := by rw [q4e, b1, b2, b3]; rfl
           simp only [seval, go_sem]
           refine ⟨by kernel_rfl, ?_⟩
           simp only [seval, go_sem, ew2]
           simp only [seval, go_sem, q01]
           all_goals exact ⟨k + 1, hlt2, by omega, by rw [hbt, hv]; first | rfl | rw [z36] | (rw [z2t]; rfl)⟩
         · simp only [seval, go_sem, eg, c1, eg2, c2, q07]
           refine qa5 ?_ ?_ <;> intro b4
           · have hv : q4e L[k] L[i] k i = decide ((k : Int) < (i : Int)) := by rw [q4e, b1, b2, b3, b4]; rfl
             simp only [seval, go_sem]
             refine ⟨by kernel_rfl, ?_⟩
             refine q02 ?_ ?_ <;> intro b5
             · simp only [seval, go_sem, ew2]
               rw [b5] at hv
               simp only [seval, go_sem, q01]
               all_goals exact ⟨k + 1, hlt2, by omega, by rw [hbt, hv]; first | rfl | rw [z36] | (rw [z2t]; rfl)⟩
             · simp only [seval, go_sem, ew2]
               rw [b5] at hv
               simp only [seval, go_sem, q01]
               all_goals exact ⟨k + 1, hlt2, by omega, by rw [hbt, hv]; first | rfl | rw [z36] | (rw [z2t]; rfl)⟩
           · have hv : q4e L[k] L[i] k i = false := by rw [q4e, b1, b2, b3, b4]; rfl
             simp only [seval, go_sem]
             refine ⟨by kernel_rfl, ?_⟩
             simp only [seval, go_sem, ew2]
             simp only [seval, go_sem, q01]
             all_goals exact ⟨k + 1, hlt2, by omega, by rw [hbt, hv]; first | rfl | rw [z36] | (rw [z2t]; rfl)⟩
       · have hv : q4e L[k] L[i] k i = false := by rw [q4e, b1, b2]; rfl
         simp only [seval, go_sem]
         refine ⟨by kernel_rfl, ?_⟩
         simp only [seval, go_sem, ew2]
         simp only [seval, go_sem, q01]
         all_goals exact ⟨k + 1, hlt2, by omega, by rw [hbt, hv]; first | rfl | rw [z36] | (rw [z2t]; rfl)⟩
   · obtain rfl := q5z hk h2
     refine q02 ?_ ?_ <;> intro h3
     · have hu := qrn hlt (by simpa using h3)
       simp only [seval, go_sem]
       refine q0a tyOk (by rfl) (by simp only [z02, z0a, Nat.reduceAdd, z00]) (by kernel_rfl) rfl ?_
       simp only [seval, go_sem, eg, c1, q07]
       refine ⟨by kernel_rfl, ?_⟩
       apply hK
       simp only [seval, go_sem, Tryz.results88]
       rw [hu, hcount]
     · simp only [seval, go_sem, ew]
       simp only [seval, go_sem, q01]
       refine ⟨i + 1, ⟨hlt, fun i' hi' => ?_⟩, by omega, rfl⟩
       by_cases e : i' = i
       · subst e; simpa using h3
       · exact hbf i' (by omega)
 · obtain rfl := q5z hi h
   have hn : L = [] := by
    apply Classical.byContradiction
    intro hn
    obtain ⟨j, hj, hj2⟩ := qxl hn
    rw [hbf j hj] at hj2
    cases hj2
   subst hn
   apply hK
   simp only [seval, go_sem, Tryz.results88]
   all_goals rfl
theorem qn5 (a b : Int) : q08 P 47 [u64 a, u64 b] (fun x => x = u64 (addW a b)) := by
 refine q09 tyOk Tryz.func47 rfl rfl fun K hK => ?_
 simp only [seval, go_sem, Tryz.ntmps47]
 refine q02 ?_ ?_ <;> intro h <;> simp only [seval, go_sem]
 · apply hK
   simp only [seval, go_sem, Tryz.results47]
   rw [addW, if_pos (by simpa using h)]
 · apply hK
   simp only [seval, go_sem, Tryz.results47]
   rw [addW, if_neg (by simpa using h)]
def q76 (m : Bk) (u : ByteArray) : En := match m.find? (fun p => eqS p.1 u) with | some p => p.2 | none => q8m
theorem qnp {m : Bk} {u : ByteArray} (h : ∀ p ∈ m, eqS p.1 u = false) : q76 m u = q8m := by
 unfold q76
 rw [List.find?_eq_none.2 (fun p hp => by rw [h p hp]; decide)]
theorem qnn {m : Bk} {u : ByteArray} {i : Nat} (hi : i < m.length) (h : ∀ p ∈ m.take i, eqS p.1 u = false) (h2 : eqS m[i].1 u = true) : q76 m u = m[i].2 := by
 unfold q76
 have e : m = m.take i ++ m[i] :: m.drop (i + 1) := by rw [List.getElem_cons_drop, z1o]
 have : m.find? (fun p => eqS p.1 u) = some m[i] := by
  refine (congrArg (List.find? (fun p => eqS p.1 u)) e).trans ?_
  rw [List.find?_append, List.find?_eq_none.2 (fun p hp => by rw [h p hp]; decide)]
  simp only [List.find?_cons, h2]
  rfl
 rw [this]
theorem qqt {m : Bk} (hr : q1o m) (u : ByteArray) : q76 m u = q0o m u := by
 by_cases hk : u ∈ m.map Prod.fst
 · obtain ⟨q, hq, rfl⟩ := z1b.1 hk
   obtain ⟨i, hi, rfl⟩ := z3v.1 hq
   have hw : q0o m m[i].1 = m[i].2 := by rw [q0o, qhb ordS q0t hr (k := m[i].1) (v := m[i].2) (z1i hi)]
   rw [hw]
   refine qnn hi (fun p hp => ?_) ((q0t _ _).2 rfl)
   obtain ⟨j, hj, rfl⟩ := z3v.1 hp
   rw [z1l] at hj
   rw [z48]
   have := z2x.1 (q2r.1 hr) j i (by omega) hi (by omega)
   cases hc : eqS m[j].1 m[i].1 with
   | false => rfl
   | true => rw [(q0t _ _).1 hc, ordS.irrefl] at this; cases this
 · rw [q0o, qem ordS q0t hr hk]
   refine qnp fun p hp => ?_
   cases hc : eqS p.1 u with
   | false => rfl
   | true => exact absurd (z1b.2 ⟨p, hp, (q0t _ _).1 hc⟩) hk
theorem qv8 (m : Bk) (u : ByteArray) (hm : m.length ≤ 10000) : q08 P 83 [.sl 5 (usrs m), str u]
 (fun x => Sym.weak x (usr (u, q76 m u))) := by
 refine q09 tyOk Tryz.func83 rfl rfl fun K hK => ?_
 simp only [seval, go_sem, Tryz.ntmps83]
 refine q0d tyOk (α := Nat) 1 [0, 1, 4, 5] (fun i => i ≤ m.length ∧ ∀ p ∈ m.take i, eqS p.1 u = false)
  (fun i => ⟨[.sl 5 (usrs m), str u, .any, .any, .ptr 0 0, i64 i, .any, .any, .any, .any, .any, .any, .any, .any, .any, .any, .any, .any, .any, .any, .any, .any, .any, .any, .any], [.box [str .empty, .v (.slice none 0 0), i64 0, i64 0, i64 0]]⟩)
  (fun i => m.length - i) 0 (z00 _) ⟨z00 _, fun p hp => by simp at hp⟩ rfl ?_
 intro i ⟨hi, hno⟩
 simp only [seval, go_sem, q1w]
 refine q02 ?_ ?_ <;> intro h
 · have hlt : i < m.length := by simpa using h
   have eg : (usrs m).getD (Int.toNat (i : Int)) .any = .agg [str m[i].1, .sl 4 (avs m[i].2.l), i64 m[i].2.t.st, i64 m[i].2.t.pr, i64 m[i].2.t.n] := q2d hlt
   have ew : IntKind.i64.wrap ((i : Int) + 1) = ((i + 1 : Nat) : Int) := by rw [wrap_i64 (by omega) (by omega)]; rfl
   have c1 : (0 : Int) ≤ (i : Int) ∧ Int.toNat (i : Int) < m.length := by omega
   simp only [seval, go_sem, eg, c1, q1w]
   refine q02 ?_ ?_ <;> intro h2
   · have h2' : eqS m[i].1 u = true := h2
     simp only [seval, go_sem, eg, c1, q1w]
     apply hK
     simp only [seval, go_sem, Tryz.results83]
     rw [qnn hlt hno h2', ← (q0t _ _).1 h2']
     exact q0g _
   · have h2' : eqS m[i].1 u = false := h2
     simp only [seval, go_sem, ew]
     simp only [seval, go_sem, q01]
     refine ⟨i + 1, ⟨hlt, fun p hp => ?_⟩, by omega, rfl⟩
     rw [q12 hlt] at hp
     rcases z0q.1 hp with hp | hp
     · exact hno p hp
     · obtain rfl : p = m[i] := by simpa using hp
       exact h2'
 · obtain rfl := q5z hi h
   rw [z0w] at hno
   simp only [seval, go_sem]
   apply hK
   simp only [seval, go_sem, Tryz.results83]
   rw [qnp hno]
   exact .inr ⟨_, rfl, _, _, rfl, q0g _, _, _, rfl, q1j 4, _, _, rfl, q0g _, _, _, rfl, q0g _, _, _, rfl, q0g _, rfl⟩
end Go.Proofs.YtdkcpcflfnakdaaGreat
namespace Go.Proofs.YtdkcpcflfnakdaaGreat
open Go Go.Proofs.YtdkcpcflfnakdaaGreat.Sym
set_option maxRecDepth 100000
set_option maxHeartbeats 1000000
def q19 (u : ByteArray) (e : En) (s : Bk × Bool) (x : ByteArray × En) : Bk × Bool :=
 let s1 : Bk × Bool := if (!s.2 && !ltS x.1 u) = true then (s.1 ++ [(u, e)], true) else s
 if eqS x.1 u = true then s1 else (s1.1 ++ [x], s1.2)
def q6u (u : ByteArray) (e : En) (b : Bool) (m : Bk) : Bk × Bool := m.foldl (q19 u e) ([], b)
def becF (m : Bk) (u : ByteArray) (e : En) : Bk := let r := q6u u e (decide (e.l.length = 0)) m; if r.2 = true then r.1 else r.1 ++ [(u, e)]
theorem qmk (u : ByteArray) (e : En) (m : Bk) : ∀ out, m.foldl (q19 u e) (out, true) = (out ++ m.filter (fun p => !eqS p.1 u), true) := by
 induction m with
 | nil => intro out; simp
 | cons x xs ih =>
  intro out
  rw [z2o, z1p]
  cases h : eqS x.1 u with
  | true =>
   have e1 : q19 u e (out, true) x = (out, true) := by simp [q19, h]
   rw [e1, ih]; simp
  | false =>
   have e1 : q19 u e (out, true) x = (out ++ [x], true) := by simp [q19, h]
   rw [e1, ih]; simp
theorem bec_not (u : ByteArray) (e : En) (m : Bk) (hr : q1o m) : ∀ out, (fun r : Bk × Bool => if r.2 = true then r.1 else r.1 ++ [(u, e)]) (m.foldl (q19 u e) (out, false)) = out ++ (m.filter (fun p => ltS p.1 u) ++ [(u, e)] ++ m.filter (fun p => ltS u p.1)) := by
 induction m with
 | nil => intro out; simp
 | cons x xs ih =>
  intro out
  have hp := z2f.1 (q2r.1 hr)
  rw [z2o, z1p, z1p]
  cases hx : ltS x.1 u with
  | true =>
   have hux : ltS u x.1 = false := by
    cases hc : ltS u x.1 with
    | false => rfl
    | true => have := ordS.trans _ _ _ hx hc; rw [ordS.irrefl] at this; cases this
   have hne : eqS x.1 u = false := by
    cases hc : eqS x.1 u with
    | false => rfl
    | true => rw [(q0t _ _).1 hc, ordS.irrefl] at hx; cases hx
   have e1 : q19 u e (out, false) x = (out ++ [x], false) := by simp [q19, hx, hne]
   rw [e1, ih (q2r.2 hp.2), hux]
   simp
  | false =>
   have hlow : ∀ y ∈ xs, ltS y.1 u = false ∧ eqS y.1 u = false ∧ ltS u y.1 = true := by
    intro y hy
    have hxy := hp.1 y hy
    have h1 : ltS y.1 u = false := by
     cases hc : ltS y.1 u with
     | false => rfl
     | true => have := ordS.trans _ _ _ hxy hc; rw [hx] at this; cases this
    have h2 : eqS y.1 u = false := by
     cases hc : eqS y.1 u with
     | false => rfl
     | true => rw [(q0t _ _).1 hc, hx] at hxy; cases hxy
    refine ⟨h1, h2, ?_⟩
    cases hc : ltS u y.1 with
    | true => rfl
    | false => rw [(q0t _ _).2 (ordS.total _ _ h1 hc)] at h2; cases h2
   have f1 : xs.filter (fun p => ltS p.1 u) = [] := q8h fun y hy => (hlow y hy).1
   have f2 : xs.filter (fun p => ltS u p.1) = xs := q3l fun y hy => (hlow y hy).2.2
   have f3 : xs.filter (fun p => !eqS p.1 u) = xs := q3l fun y hy => by rw [(hlow y hy).2.1]; rfl
   cases heq : eqS x.1 u with
   | true =>
    have hxu := (q0t _ _).1 heq
    have e1 : q19 u e (out, false) x = (out ++ [(u, e)], true) := by simp [q19, hx, heq]
    rw [e1, qmk, f1, f2, f3, hxu, ordS.irrefl]
    simp
   | false =>
    have hux : ltS u x.1 = true := by
     cases hc : ltS u x.1 with
     | true => rfl
     | false => rw [(q0t _ _).2 (ordS.total _ _ hx hc)] at heq; cases heq
    have e1 : q19 u e (out, false) x = (out ++ [(u, e)] ++ [x], true) := by simp [q19, hx, heq]
    rw [e1, qmk, f1, f2, f3, hux]
    simp
theorem becF_eq {m : Bk} (hr : q1o m) (u : ByteArray) (l : List Ses) (now : Int) : becF m u ⟨l, ofP l now⟩ = q27 m u l now := by
 unfold becF q27 q6u
 by_cases hl : l.length = 0
 · rw [if_pos hl, q5r ordS q0t hr]
   simp only [hl, decide_true]
   rw [qmk]; simp
 · rw [if_neg hl, qdt ordS q0t hr]
   simp only [hl, decide_false]
   have := bec_not u ⟨l, ofP l now⟩ m hr []
   rw [z21] at this
   exact this
end Go.Proofs.YtdkcpcflfnakdaaGreat
namespace Go.Proofs.YtdkcpcflfnakdaaGreat
open Go Go.Proofs.YtdkcpcflfnakdaaGreat.Sym
set_option maxRecDepth 100000
set_option maxHeartbeats 1000000
theorem qna (m : Bk) (u : ByteArray) (hm : m.length ≤ 10000) : q08 P 83 [.sl 5 (usrs m), str u]
 (fun x => x = .agg [str u, .sl 4 (avs (q76 m u).l), i64 (q76 m u).t.st, i64 (q76 m u).t.pr, i64 (q76 m u).t.n]) :=
 ACall.weaken (qv8 m u hm) fun z m' ⟨h1, h2⟩ => ⟨_, [], by subst h1; exact q0c.weak ⟨_, [], rfl, h2, rfl⟩ rfl, rfl, rfl⟩
theorem qq8 (l : List Ses) (now : Int) (h : l.length ≤ 200) : q08 P 88 [.sl 4 (avs l), u64 now] (fun x => x = .agg [i64 (ofP l now).st, i64 (ofP l now).pr, i64 (ofP l now).n]) := ref07_Of l now h
theorem qst (u : ByteArray) (e : En) (s : Bk × Bool) (x : ByteArray × En) : (q19 u e s x).1.length ≤ s.1.length + 2 := by
 unfold q19
 simp only
 split <;> split <;> simp
theorem qw1 (u : ByteArray) (e : En) (b : Bool) (m : Bk) : (q6u u e b m).1.length ≤ 2 * m.length := by
 have : ∀ s : Bk × Bool, (m.foldl (q19 u e) s).1.length ≤ s.1.length + 2 * m.length := by
  induction m with
  | nil => intro s; simp
  | cons x xs ih =>
   intro s
   have h1 := ih (q19 u e s x)
   have h2 := qst u e s x
   simp only [z2o, z02]
   omega
 have h := this ([], b)
 simp only [z0a, z16] at h
 exact h
theorem qsz {u : ByteArray} {e : En} {b : Bool} {m : Bk} {i : Nat} (h : i < m.length) : q6u u e b (m.take (i + 1)) = q19 u e (q6u u e b (m.take i)) m[i] := by
 rw [q12 h, q6u, z3k]; rfl
theorem qqs (m : Bk) (u : ByteArray) (l : List Ses) (now : Int) (hm : m.length ≤ 10000) (hl : l.length ≤ 200) :
 q08 P 80 [.sl 5 (usrs m), str u, .sl 4 (avs l), u64 now] (fun x => x = .tup [.sl 5 (usrs (becF m u ⟨l, ofP l now⟩)), if ofP l now = (q76 m u).t then .v (.slice none 0 0) else .sl 7 (chgs [⟨u, (q76 m u).t, ofP l now⟩])]) := by
 refine q09 tyOk Tryz.func80 rfl rfl fun K hK => ?_
 simp only [seval, go_sem, Tryz.ntmps80]
 (refine q00 (qna m u hm) rfl ?_; rintro _ rfl)
 simp only [seval, go_sem]
 (refine q00 (qq8 l now hl) rfl ?_; rintro _ rfl)
 unfold becF at hK
 generalize ofP l now = p at *
 generalize q76 m u = w at *
 have hb0 : (((l.length : Nat) : Int) == 0) = decide (l.length = 0) := by rw [z2b]; simp
 simp only at hK
 generalize decide (l.length = 0) = b at *
 simp only [seval, go_sem, q07, hb0]
 refine q1r (q0c.adopt (i := 12) 115 5 rfl) ?_
 refine q0d tyOk (α := Nat) 3 [0, 1, 2, 10, 11, 12, 13, 14] (fun i => i ≤ m.length)
  (fun i => ⟨[.sl 5 (usrs m), str u, .sl 4 (avs l), .any, .any, .any, .any, .any, .any, .any, .ptr 0 0, .ptr 1 0, .own 2 5 0 (q6u u ⟨l, p⟩ b (m.take i)).1.length, bool (q6u u ⟨l, p⟩ b (m.take i)).2, i64 i, .any, .any, .any, .any, .any, .any, .any, .any, .any, .any, .any, .any, .any, .any, .any, .any, .any, .any, .any, .any, .any, .any, .any, .any, .any, .any, .any, .any, .any, .any, .any, .any, .any, .any, .any, .any, .any, .any, .any, .any, .any, .any, .any, .any, .any, .any, .any, .any, .any, .any, .any, .any, .any, .any, .any, .any, .any, .any, .any, .any, .any, .any, .any, .any, .any, .any, .any, .any], [.box [str u, .sl 4 (avs w.l), i64 w.t.st, i64 w.t.pr, i64 w.t.n], .box [i64 p.st, i64 p.pr, i64 p.n], .row 115 5 (usrs (q6u u ⟨l, p⟩ b (m.take i)).1)]⟩)
  (fun i => m.length - i) 0 (by first | exact z00 _ | decide) (z00 _) rfl ?_
 intro i hi
 have hrl := qw1 u ⟨l, p⟩ b (m.take i)
 rw [z1l] at hrl
 simp only [seval, go_sem, q1w]
 refine q02 ?_ ?_ <;> intro h <;> simp only [seval, go_sem]
 · have hlt : i < m.length := by simpa using h
   have eg : (usrs m).getD (Int.toNat (i : Int)) .any = .agg [str m[i].1, .sl 4 (avs m[i].2.l), i64 m[i].2.t.st, i64 m[i].2.t.pr, i64 m[i].2.t.n] := q2d hlt
   have ew : IntKind.i64.wrap ((i : Int) + 1) = ((i + 1 : Nat) : Int) := by rw [wrap_i64 (by omega) (by omega)]; rfl
   have c1 : (0 : Int) ≤ (i : Int) ∧ Int.toNat (i : Int) < m.length := by omega
   have hnext := qsz (u := u) (e := ⟨l, p⟩) (b := b) hlt
   obtain ⟨⟨O, put⟩, hO⟩ : ∃ s, q6u u ⟨l, p⟩ b (m.take i) = s := ⟨_, rfl⟩
   rw [hO] at hnext hrl ⊢
   simp only at hrl
   generalize m[i] = x at *
   have us1 : ∀ Q : Bk, usrs Q ++ [.agg [str x.1, .sl 4 (avs x.2.l), i64 x.2.t.st, i64 x.2.t.pr, i64 x.2.t.n]] = usrs (Q ++ [x]) := fun Q => qga Q x
   have us2 : ∀ Q : Bk, usrs Q ++ [.agg [str u, .sl 4 (avs l), i64 p.st, i64 p.pr, i64 p.n]] = usrs (Q ++ [(u, ⟨l, p⟩)]) := fun Q => qga Q (u, ⟨l, p⟩)
   cases put with
   | true =>
    simp only [seval, go_sem, eg, c1, q1w]
    refine q02 ?_ ?_ <;> intro h3
    · have h3' : eqS x.1 u = false := by simpa [eqS, bne] using h3
      have en : q19 u ⟨l, p⟩ (O, true) x = (O ++ [x], true) := by simp [q19, h3']
      simp only [seval, go_sem, eg, c1, q1w]
      refine ⟨⟨by simp only [maxLen]; omega, by omega⟩, ?_⟩
      simp only [seval, go_sem, ew]
      simp only [seval, go_sem, q01]
      all_goals exact ⟨i + 1, hlt, by omega, by rw [hnext, en, us1, z0c]; rfl⟩
    · have h3' : eqS x.1 u = true := by simpa [eqS, bne] using h3
      have en : q19 u ⟨l, p⟩ (O, true) x = (O, true) := by simp [q19, h3']
      simp only [seval, go_sem, ew]
      simp only [seval, go_sem, q01]
      all_goals exact ⟨i + 1, hlt, by omega, by rw [hnext, en]⟩
   | false =>
    simp only [seval, go_sem, eg, c1, q1w]
    refine q02 ?_ ?_ <;> intro h2
    · have h2' : ltS x.1 u = false := by
       have : (!ltS x.1 u) = true := h2
       simpa using this
      simp only [seval, go_sem, eg, c1, q1w]
      refine ⟨⟨by simp only [maxLen]; omega, by omega⟩, ?_⟩
      refine q02 ?_ ?_ <;> intro h3
      · have h3' : eqS x.1 u = false := by simpa [eqS, bne] using h3
        have en : q19 u ⟨l, p⟩ (O, false) x = (O ++ [(u, ⟨l, p⟩)] ++ [x], true) := by simp [q19, h2', h3']
        simp only [seval, go_sem, eg, c1, q1w]
        refine ⟨⟨by simp only [maxLen]; omega, by omega⟩, ?_⟩
        simp only [seval, go_sem, ew]
        simp only [seval, go_sem, q01]
        all_goals exact ⟨i + 1, hlt, by omega, by rw [hnext, en, us2, us1, z0c, z0c]; rfl⟩
      · have h3' : eqS x.1 u = true := by simpa [eqS, bne] using h3
        have en : q19 u ⟨l, p⟩ (O, false) x = (O ++ [(u, ⟨l, p⟩)], true) := by simp [q19, h2', h3']
        simp only [seval, go_sem, ew]
        simp only [seval, go_sem, q01]
        all_goals exact ⟨i + 1, hlt, by omega, by rw [hnext, en, us2, z0c]; rfl⟩
    · have h2' : ltS x.1 u = true := by
       have : (!ltS x.1 u) = false := h2
       simpa using this
      simp only [seval, go_sem, eg, c1, q1w]
      refine q02 ?_ ?_ <;> intro h3
      · have h3' : eqS x.1 u = false := by simpa [eqS, bne] using h3
        have en : q19 u ⟨l, p⟩ (O, false) x = (O ++ [x], false) := by simp [q19, h2', h3']
        simp only [seval, go_sem, eg, c1, q1w]
        refine ⟨⟨by simp only [maxLen]; omega, by omega⟩, ?_⟩
        simp only [seval, go_sem, ew]
        simp only [seval, go_sem, q01]
        all_goals exact ⟨i + 1, hlt, by omega, by rw [hnext, en, us1, z0c]; rfl⟩
      · have h3' : eqS x.1 u = true := by simpa [eqS, bne] using h3
        have en : q19 u ⟨l, p⟩ (O, false) x = (O, false) := by simp [q19, h2', h3']
        simp only [seval, go_sem, ew]
        simp only [seval, go_sem, q01]
        all_goals exact ⟨i + 1, hlt, by omega, by rw [hnext, en]⟩
 · obtain rfl := q5z hi h
   rw [z0w] at hrl ⊢
   obtain ⟨⟨O, put⟩, hO⟩ : ∃ s, q6u u ⟨l, p⟩ b m = s := ⟨_, rfl⟩
   rw [hO] at hK hrl ⊢
   simp only at hrl hK
   have us2 : ∀ Q : Bk, usrs Q ++ [.agg [str u, .sl 4 (avs l), i64 p.st, i64 p.pr, i64 p.n]] = usrs (Q ++ [(u, ⟨l, p⟩)]) := fun Q => qga Q (u, ⟨l, p⟩)
   cases put with
   | true =>
    simp only [seval, go_sem, qln]
    refine q02 ?_ ?_ <;> intro h4
    · have h4' : ¬ p = w.t := by simpa using h4
      simp only [seval, go_sem]
      refine q0a tyOk (by rfl) (by simp only [z02, z0a, Nat.reduceAdd, z00]) (by kernel_rfl) rfl ?_
      simp only [seval, go_sem]
      refine ⟨by kernel_rfl, ?_⟩
      apply hK
      simp only [Tryz.results80, retK, ares, z0t, z0z, AV.ofResults, St.trunc, q06, q0e, z0u, z0v, z13, z17, z0o, z01, z03, Nat.reduceLeDiff, true_and, and_true, ↓reduceIte, z0h, exists_eq_left']
      rw [q1b (q1w O), if_neg h4']
      try rfl
    · have h4' : p = w.t := by simpa using h4
      simp only [seval, go_sem]
      apply hK
      simp only [Tryz.results80, retK, ares, z0t, z0z, AV.ofResults, St.trunc, q06, q0e, z0u, z0v, z13, z17, z0o, z01, z03, Nat.reduceLeDiff, true_and, and_true, ↓reduceIte, z0h, exists_eq_left']
      rw [q1b (q1w O), if_pos h4']
      try rfl
   | false =>
    simp only [seval, go_sem, q1w]
    refine ⟨⟨by simp only [maxLen]; omega, by omega⟩, ?_⟩
    rw [us2]
    simp only [seval, go_sem, qln]
    refine q02 ?_ ?_ <;> intro h4
    · have h4' : ¬ p = w.t := by simpa using h4
      simp only [seval, go_sem]
      refine q0a tyOk (by rfl) (by simp only [z02, z0a, Nat.reduceAdd, z00]) (by kernel_rfl) rfl ?_
      simp only [seval, go_sem]
      refine ⟨by kernel_rfl, ?_⟩
      apply hK
      simp only [Tryz.results80, retK, ares, z0t, z0z, AV.ofResults, St.trunc, q06, q0e, z0u, z0v, z13, z17, z0o, z01, z03, Nat.reduceLeDiff, true_and, and_true, ↓reduceIte, z0n, z0h, exists_eq_left']
      rw [q1b (by rw [q1w]; simp), if_neg h4']
      try rfl
    · have h4' : p = w.t := by simpa using h4
      simp only [seval, go_sem]
      apply hK
      simp only [Tryz.results80, retK, ares, z0t, z0z, AV.ofResults, St.trunc, q06, q0e, z0u, z0v, z13, z17, z0o, z01, z03, Nat.reduceLeDiff, true_and, and_true, ↓reduceIte, z0n, z0h, exists_eq_left']
      rw [q1b (by rw [q1w]; simp), if_pos h4']
      try rfl
