/- A text of the walk that proves a law of this seat; joined by a program. -/
import Derived.Test.YtdkcpcflfnakdaaGreatSymQ
set_option linter.unusedSimpArgs false
set_option linter.unusedVariables false
namespace Go.Proofs.YtdkcpcflfnakdaaGreat.Sym
open Go Go.RowKit
variable {L : Nat} {Hd : Nat → Prop}
variable {e1 e2 : Ent}
def wkV : Wr → AV → AV
 | some (b, _, true), x => q0w b x
 | _, x => x
def wkVs : Wr → List AV → List AV
 | some (b, _, true), x => q1d b x
 | _, x => x
def wkB : Wr → AB → AB
 | some (b, _, true), x => AB.kill b x
 | _, x => x
def wAt : Wr → Option Nat
 | some (b, _, _) => some b
 | none => none
theorem qn8 : ∀ (wr : Wr) (l : List AV) (i : Nat), (wkVs wr l).getD i .any = wkV wr (l.getD i .any)
 | none, l, i => rfl
 | some (b, _, false), l, i => rfl
 | some (b, _, true), l, i => qig l i
theorem qxx : ∀ (w1 w2 : Wr) (l : List AV), wkVs w1 (wkVs w2 l) = wkVs w2 (wkVs w1 l)
 | none, w2, l => rfl
 | some (b, _, false), w2, l => rfl
 | some (b, _, true), none, l => rfl
 | some (b, _, true), some (c, _, false), l => rfl
 | some (b, _, true), some (c, _, true), l => q69 l
theorem wkB_comm : ∀ (w1 w2 : Wr) (x : AB), wkB w1 (wkB w2 x) = wkB w2 (wkB w1 x)
 | none, w2, l => rfl
 | some (b, _, false), w2, l => rfl
 | some (b, _, true), none, l => rfl
 | some (b, _, true), some (c, _, false), l => rfl
 | some (b, _, true), some (c, _, true), l => qsb
theorem qa2 (s : St) : ∀ wr : Wr, (s.app wr).tmps = wkVs wr s.tmps
 | none => rfl
 | some (b, _, false) => rfl
 | some (b, _, true) => rfl
theorem qmn (s : St) (d : Option Tmp) (x : AV) : (s.put d x).mem = s.mem := by cases d <;> rfl
theorem qiv (s : St) (d : Option Tmp) (x : AV) (t : Tmp) (h : d ≠ some t) : (s.put d x).tmps.getD t .any = s.tmps.getD t .any := by
 cases d with
 | none => rfl
 | some d =>
  have hne : d ≠ t := fun e => h (by rw [e])
  show (s.tmps.set d x).getD t .any = _
  rw [z04, z0e hne, ← z04]
theorem q4w (s : St) (i : Nat) : ∀ wr : Wr, wAt wr ≠ some i → (s.app wr).mem[i]? = (s.mem[i]?).map (wkB wr)
 | none, _ => by rw [show wkB none = id from funext fun _ => rfl]; simp [St.app]
 | some (b, blk, false), h => by
  have hne : b ≠ i := fun e => h (by rw [e]; rfl)
  rw [show wkB (some (b, blk, false)) = id from funext fun _ => rfl]
  simp only [St.app]
  rw [z0e hne]
  simp
 | some (b, blk, true), h => by
  have hne : b ≠ i := fun e => h (by rw [e]; rfl)
  simp only [St.app, St.rehome]
  rw [z0e hne, z11]
  rfl
theorem qbq (s : St) (b : Nat) (blk : AB) (k : Bool) (hb : b < s.mem.length) : (s.app (some (b, blk, k))).mem[b]? = some blk := by
 cases k
 · simp only [St.app]; rw [z0m hb]
 · simp only [St.app, St.rehome]; rw [z0m (by simpa using hb)]
theorem qqh {bs : List (Option AB)} (h : qe0 bs = true) {blk : AB} (hb : some blk ∈ bs) : blk.full = true := by
 have := z0l.1 h _ hb
 exact this
theorem qo1 {b : Nat} {bs : List (Option AB)} (h : qjc b bs = true) {blk : AB} (hb : some blk ∈ bs) : blk.noRef b = true := by
 have := z0l.1 h _ hb
 exact this
theorem qg4 : ∀ {l : List AV}, q4a l = true → ∀ x ∈ l, x.full = true
 | [], _, x, hx => by cases hx
 | y :: l, h, x, hx => by
  simp only [q4a, z0d] at h
  rcases z26.1 hx with rfl | hx
  · exact h.1
  · exact qg4 h.2 x hx
theorem qip {b : Nat} : ∀ {l : List AV}, q57 b l = true → ∀ x ∈ l, noRef b x = true
 | [], _, x, hx => by cases hx
 | y :: l, h, x, hx => by
  simp only [q57, z0d] at h
  rcases z26.1 hx with rfl | hx
  · exact h.1
  · exact qip h.2 x hx
structure Ind (e1 e2 : Ent) : Prop where
 a2 : ∀ b, wAt e1.wr = some b → b ∉ e2.acc
 f2 : ∀ b blk, e1.wr = some (b, blk, true) → q4a e2.rd = true ∧ qe0 e2.accB = true ∧ noRef b e2.x = true
 a1 : ∀ b, wAt e2.wr = some b → b ∉ e1.acc
 f1 : ∀ b blk, e2.wr = some (b, blk, true) → q57 b e1.rd = true ∧ qjc b e1.accB = true ∧ noRef b e1.x = true
 ne : ∀ b, wAt e1.wr = some b → wAt e2.wr ≠ some b
 b2 : ∀ b blk c blk' k, e1.wr = some (b, blk, true) → e2.wr = some (c, blk', k) → blk'.noRef b = true
 b1 : ∀ b blk c blk' k, e2.wr = some (b, blk, true) → e1.wr = some (c, blk', k) → blk'.noRef b = true
theorem qqv (h : q9s e1 e2 = true) : Ind e1 e2 := by
 obtain ⟨i1, rd1, acc1, accB1, x1, wr1⟩ := e1
 obtain ⟨i2, rd2, acc2, accB2, x2, wr2⟩ := e2
 simp only [q9s, z0d] at h
 obtain ⟨h1, h2⟩ := h
 rcases wr1 with _ | ⟨b, blk, k⟩ <;> rcases wr2 with _ | ⟨c, blk', k'⟩
 · exact ⟨(fun _ h => by cases h), (fun _ _ h => by cases h), (fun _ h => by cases h), (fun _ _ h => by cases h), (fun _ h => by cases h), (fun _ _ _ _ _ h => by cases h), (fun _ _ _ _ _ h => by cases h)⟩
 · simp at h2
   refine ⟨(fun _ h => by cases h), (fun _ _ h => by cases h), ?_, ?_, (fun _ h => by cases h), (fun _ _ _ _ _ h => by cases h), (fun _ _ _ _ _ _ h => by cases h)⟩
   · intro b hb; cases hb; exact h2.1
   · intro b blk hb
     cases hb
     rcases h2.2 with h | h
     · cases h
     · exact ⟨h.1.1, h.1.2, h.2⟩
 · simp at h1
   refine ⟨?_, ?_, (fun _ h => by cases h), (fun _ _ h => by cases h), (fun _ _ h => by cases h), (fun _ _ _ _ _ _ h => by cases h), (fun _ _ _ _ _ h => by cases h)⟩
   · intro b hb; cases hb; exact h1.1
   · intro b blk hb
     cases hb
     rcases h1.2 with h | h
     · cases h
     · exact ⟨h.1.1, h.1.2, h.2⟩
 · simp at h1 h2
   refine ⟨?_, ?_, ?_, ?_, ?_, ?_, ?_⟩
   · intro b hb; cases hb; exact h1.1.1
   · intro b blk hb
     cases hb
     rcases h1.1.2 with h | h
     · cases h
     · exact ⟨h.1.1, h.1.2, h.2⟩
   · intro b hb; cases hb; exact h2.1.1
   · intro b blk hb
     cases hb
     rcases h2.1.2 with h | h
     · cases h
     · exact ⟨h.1.1, h.1.2, h.2⟩
   · intro b hb hc; cases hb; cases hc; exact h1.2.1 rfl
   · intro b blk c blk' k hb hc
     cases hb; cases hc
     rcases h1.2.2 with h | h
     · cases h
     · exact h
   · intro b blk c blk' k hb hc
     cases hb; cases hc
     rcases h2.2.2 with h | h
     · cases h
     · exact h
theorem Ind.fwd (h : Ind e1 e2) :
 (∀ v ∈ e2.rd, ∀ u, v = wkV e1.wr u → wkV e1.wr u = u) ∧ (∀ blk, some blk ∈ e2.accB → ∀ u, blk = wkB e1.wr u → wkB e1.wr u = u) ∧ wkV e1.wr e2.x = e2.x := by
 rcases hw : e1.wr with _ | ⟨b, blk, k⟩
 · exact ⟨fun _ _ _ _ => rfl, fun _ _ _ _ => rfl, rfl⟩
 · cases k
   · exact ⟨fun _ _ _ _ => rfl, fun _ _ _ _ => rfl, rfl⟩
   · obtain ⟨f1, f2, f3⟩ := h.f2 b blk hw
     refine ⟨fun v hv u e => ?_, fun bl hb u e => ?_, qak _ f3⟩
     · exact ql7 u (by rw [show q0w b u = v from e.symm]; exact qg4 f1 v hv)
     · exact qrz (by rw [show AB.kill b u = bl from e.symm]; exact qqh f2 hb)
theorem Ind.bwd (h : Ind e1 e2) :
 (∀ v ∈ e1.rd, wkV e2.wr v = v) ∧ (∀ blk, some blk ∈ e1.accB → wkB e2.wr blk = blk) ∧ wkV e2.wr e1.x = e1.x := by
 rcases hw : e2.wr with _ | ⟨b, blk, k⟩
 · exact ⟨fun _ _ => rfl, fun _ _ => rfl, rfl⟩
 · cases k
   · exact ⟨fun _ _ => rfl, fun _ _ => rfl, rfl⟩
   · obtain ⟨f1, f2, f3⟩ := h.f1 b blk hw
     exact ⟨fun v hv => qak v (qip f1 v hv), fun bl hb => qcg (qo1 f2 hb), qak _ f3⟩
theorem qra (h : Ind e1 e2) (s : St) : ((s.app e1.wr).app e2.wr).mem = ((s.app e2.wr).app e1.wr).mem := by
 refine z1e fun i => ?_
 by_cases hl : i < s.mem.length
 · by_cases h1 : wAt e1.wr = some i
   · have h2 := h.ne i h1
     rw [q4w _ i _ h2]
     rcases hw : e1.wr with _ | ⟨b, blk, k⟩
     · rw [hw] at h1; cases h1
     · rw [hw] at h1; cases h1
       rw [qbq _ _ _ _ hl, qbq _ _ _ _ (by rw [q9g]; exact hl)]
       simp only [z19]
       congr 1
       rcases hv : e2.wr with _ | ⟨c, blk', k'⟩
       · rfl
       · cases k'
         · rfl
         · exact qcg (h.b1 c blk' _ blk k hv hw)
   · by_cases h2 : wAt e2.wr = some i
     · rw [q4w _ i e1.wr h1]
       rcases hw : e2.wr with _ | ⟨b, blk, k⟩
       · rw [hw] at h2; cases h2
       · rw [hw] at h2; cases h2
         rw [qbq _ _ _ _ hl, qbq _ _ _ _ (by rw [q9g]; exact hl)]
         simp only [z19]
         congr 1
         rcases hv : e1.wr with _ | ⟨c, blk', k'⟩
         · rfl
         · cases k'
           · rfl
           · exact (qcg (h.b2 c blk' _ blk k hv hw)).symm
     · rw [q4w _ i _ h2, q4w _ i _ h1, q4w _ i _ h1, q4w _ i _ h2]
       simp only [Option.map_map]
       congr 1
       funext x
       exact wkB_comm _ _ x
 · rw [z0p (by simp only [q9g]; omega), z0p (by simp only [q9g]; omega)]
theorem qiw (s : St) (d : Option Tmp) (x : AV) : ∀ wr : Wr, ((s.put d x).app wr) = (s.app wr).put d (wkV wr x)
 | none => rfl
 | some (b, blk, false) => by cases d <;> rfl
 | some (b, blk, true) => by
  cases d with
  | none => rfl
  | some d =>
   simp only [St.app, St.rehome, St.put, wkV]
   rw [qlr]
theorem put_comm (s : St) {d1 d2 : Option Tmp} (x1 x2 : AV) (h : ∀ d, d1 = some d → d2 ≠ some d) : (s.put d1 x1).put d2 x2 = (s.put d2 x2).put d1 x1 := by
 cases d1 with
 | none => rfl
 | some a =>
  cases d2 with
  | none => rfl
  | some b =>
   have hne : a ≠ b := fun e => h a rfl (by rw [e])
   simp only [St.put]
   congr 1
   exact List.set_comm _ _ hne
theorem swap {P : Program} {T : TypeId → Option TI} {ops : Array Oper} {nids : Nat → Nat} {s : St} (h1 : Ex P T L ops nids e1 s) (h2 : Ex P T L ops nids e2 (post ops e1 s)) (ha : q9v ops e1.i e2.i = true) (hi : q9s e1 e2 = true) :
 Ex P T L ops nids e2 s ∧ Ex P T L ops nids e1 (post ops e2 s) ∧ post ops e2 (post ops e1 s) = post ops e1 (post ops e2 s) := by
 have hI := qqv hi
 obtain ⟨o1, ho1, hacc1, hrd1, hB1, -⟩ := id h1
 obtain ⟨o2, ho2, hacc2, hrd2, hB2, -⟩ := id h2
 unfold q9v at ha
 rw [ho1, ho2] at ha
 obtain ⟨q1, q2, q3⟩ := Oper.apart_spec ha
 have hd1 : q4f ops e1.i = o1.dst := by simp [q4f, ho1]
 have hd2 : q4f ops e2.i = o2.dst := by simp [q4f, ho2]
 obtain ⟨k1, k2, k3⟩ := hI.fwd
 obtain ⟨m1, m2, m3⟩ := hI.bwd
 have ht2 : ∀ t ∈ o2.looksAt ops, (post ops e1 s).tmps.getD t .any = s.tmps.getD t .any := by
  intro t ht
  have e0 : (post ops e1 s).tmps.getD t .any = wkV e1.wr (s.tmps.getD t .any) := by
   unfold post
   rw [hd1, qiv _ _ _ _ (fun e => q1 t e ht), qa2, qn8]
  rw [e0]
  refine k1 _ ?_ _ rfl
  rw [hrd2, ← e0]
  exact z1b.2 ⟨t, ht, rfl⟩
 have hm2 : ∀ b ∈ e2.acc, (post ops e1 s).mem[b]? = s.mem[b]? := by
  intro b hb
  have e0 : (post ops e1 s).mem[b]? = (s.mem[b]?).map (wkB e1.wr) := by
   unfold post
   rw [qmn, q4w _ _ _ (fun e => hI.a2 b e hb)]
  rw [e0]
  cases hs : s.mem[b]? with
  | none => rfl
  | some blk =>
   simp only [z19]
   congr 1
   refine k2 (wkB e1.wr blk) ?_ _ rfl
   rw [hB2]
   exact z1b.2 ⟨b, hb, by rw [e0, hs]; rfl⟩
 have ht1 : ∀ t ∈ o1.looksAt ops, (post ops e2 s).tmps.getD t .any = s.tmps.getD t .any := by
  intro t ht
  unfold post
  rw [hd2, qiv _ _ _ _ (fun e => q3 t e ht), qa2, qn8]
  refine m1 _ ?_
  rw [hrd1]
  exact z1b.2 ⟨t, ht, rfl⟩
 have hm1 : ∀ b ∈ e1.acc, (post ops e2 s).mem[b]? = s.mem[b]? := by
  intro b hb
  unfold post
  rw [qmn, q4w _ _ _ (fun e => hI.a1 b e hb)]
  cases hs : s.mem[b]? with
  | none => rfl
  | some blk =>
   simp only [z19]
   congr 1
   refine m2 blk ?_
   rw [hB1]
   exact z1b.2 ⟨b, hb, hs⟩
 refine ⟨h2.local (fun o ho t ht => ?_) (fun b hb => (hm2 b hb).symm), h1.local (fun o ho t ht => ?_) hm1, ?_⟩
 · rw [ho2] at ho; cases ho; exact (ht2 t ht).symm
 · rw [ho1] at ho; cases ho; exact ht1 t ht
 · show ((s.app e1.wr).put (q4f ops e1.i) e1.x |>.app e2.wr).put (q4f ops e2.i) e2.x = ((s.app e2.wr).put (q4f ops e2.i) e2.x |>.app e1.wr).put (q4f ops e1.i) e1.x
   rw [qiw, qiw, m3, k3, put_comm _ _ _ (by rw [hd1, hd2]; exact q2)]
   congr 2
   have et : ((s.app e1.wr).app e2.wr).tmps = ((s.app e2.wr).app e1.wr).tmps := by rw [qa2, qa2, qa2, qa2, qxx]
   have em := qra hI s
   generalize (s.app e1.wr).app e2.wr = u at et em ⊢
   generalize (s.app e2.wr).app e1.wr = v at et em ⊢
   cases u; cases v
   simp only at et em
   rw [et, em]
