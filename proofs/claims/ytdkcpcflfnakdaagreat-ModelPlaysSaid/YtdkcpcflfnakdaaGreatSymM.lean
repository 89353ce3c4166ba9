/- A text of the walk that proves a law of this seat; joined by a program. -/
import Derived.Test.YtdkcpcflfnakdaaGreatSymL
set_option linter.unusedSimpArgs false
set_option linter.unusedVariables false
namespace Go.Proofs.YtdkcpcflfnakdaaGreat.Sym
open Go Go.RowKit
variable {L : Nat} {Hd : Nat → Prop}
variable {dst src t : TypeId} {op : BinOp} {p q y : AV} {xo yo : Operand}
section
variable {P : Program} {T : TypeId → Option TI} {s s' : St} {C : Prop} {x : AV} {K : AV → St → Prop}
theorem qdg {ti : TI} {cs : List AV} {K : AV → Prop} (h : (qal ti cs).1) (k : K (qal ti cs).2) : q42 ti cs K := by
  unfold qal at h k
  unfold q42
  split
  · rename_i ha; rw [if_pos ha] at h k; exact ⟨h, k⟩
  · rename_i ha; rw [if_neg ha] at h k
    cases cs with
    | nil => simp at h
    | cons c cs => exact k
theorem qrb (e : qcm T t p s = some (C, x, s')) (h : C) (k : K x s') : q50 T t p s (fun y => K y s) := by
  unfold qcm at e
  unfold q50
  split at e
  · cases e
  · rename_i ti ht
    simp only [ht]
    split at e
    · cases e; exact qdg (K := fun y => K y s) h k
    · split at e
      · rename_i hm; simp only [hm]; cases e; exact qdg (K := fun y => K y s) h k
      · cases e
    · split at e
      · rename_i hm
        simp only [hm]
        cases e
        obtain ⟨h1, h2, h3, h4⟩ := h
        have hg : ∀ (l : List AV) (i : Nat) (hi : i < l.length), l.getD i .any = l[i] := fun l i hi => by rw [z04, z05 hi]; rfl
        refine ⟨h1, h2, ?_, ?_⟩
        · rw [hg _ _ h2] at h3; exact h3
        · rw [hg _ _ h2] at h4 k; exact qdg (K := fun y => K y s) h4 k
      · cases e
    · cases e
theorem qjf {l : List AV} {i : Nat} (hi : i < l.length) : l.getD i .any = l[i] := by rw [z04, z05 hi]; rfl
theorem qpa (e : qe2 T t p y s = some (C, x, s')) (h : C) (k : K x s') : qg8 T t p y s K := by
  unfold qe2 at e
  unfold qg8
  split at e
  · cases e
  · rename_i ti ht
    simp only [ht]
    split at e
    · split at e
      · rename_i hm
        simp only [hm]
        cases e
        obtain ⟨h1, h2, h3, h4⟩ := h
        exact ⟨h1, h2, h3, h4, k⟩
      · cases e
    · split at e
      · rename_i hm
        simp only [hm]
        cases e
        obtain ⟨h1, h2, h3, h4, h5, h6, h7, h8, h9, h10⟩ := h
        rw [qjf h7] at h8 h9 h10 k
        exact ⟨h1, h2, h3, h4, h5, h6, h7, h8, h9, h10, k⟩
      · cases e
    · cases e
theorem qj1 {f : Nat} (e : q6z T t p f s = some (C, x, s')) (h : C) (k : K x s') : q8k T t p f s K := by
  unfold q6z at e
  unfold q8k
  split at e <;> try (cases e; done)
  rename_i ti ht
  try simp only [*]
  split at e <;> try (cases e; done)
  rename_i fs hfs
  try simp only [*]
  split at e <;> try (cases e; done)
  rename_i fd hfd
  try simp only [*]
  split at e <;> try (cases e; done)
  rename_i fi hfi
  try simp only [*]
  split at e <;> first | (cases e; exact ⟨h, k⟩) | (cases e; done)
theorem qij {cs : List AV} {off : Nat} {K : AV → Prop} (e : qjx T t cs off = some (C, y)) (h : C) (k : K y) : apart T t cs off K := by
  unfold qjx at e
  unfold apart
  split at e <;> try (cases e; done)
  rename_i fi hfi
  try simp only [*]
  split at e
  · rename_i ha; cases e; rw [if_pos ha]; exact ⟨h, k⟩
  · rename_i ha; cases e; rw [if_neg ha]
    have : off < cs.length := h
    cases hd : cs.drop off with
    | nil => have := congrArg List.length hd; simp at this; omega
    | cons c cs' => rw [hd] at k; exact k
theorem qqy {f : Nat} (e : qdw T t p f s = some (C, x, s')) (h : C) (k : K x s') : qg7 T t p f s K := by
  unfold qdw at e
  unfold qg7
  split at e <;> try (cases e; done)
  try simp only [*]
  split at e <;> try (cases e; done)
  try simp only [*]
  split at e <;> try (cases e; done)
  try simp only [*]
  split at e <;> try (cases e; done)
  try simp only [*]
  split at e <;> try (cases e; done)
  rename_i c y hp
  cases e
  exact qij hp h k
theorem qjl {i : AV} (e : q70 T t p i s = some (C, x, s')) (h : C) (k : K x s') : q96 T t p i s K := by
  unfold q70 at e
  unfold q96
  split at e <;> try (cases e; done)
  try simp only [*]
  split at e <;> try (cases e; done)
  try simp only [*]
  split at e <;> try (cases e; done)
  · rename_i hd
    simp only [hd]
    split at e <;> try (cases e; done)
    rename_i hte
    simp only [hte]
    split at e <;> try (cases e; done)
    · cases e
      obtain ⟨h1, h2, h3⟩ := h
      rw [qjf h2.2] at h3 k
      exact ⟨h1, h2, h3, k⟩
    · cases e
      exact ⟨h.1, h.2, k⟩
  · rename_i hd
    simp only [hd]
    split at e <;> try (cases e; done)
    rename_i hte
    simp only [hte]
    split at e <;> try (cases e; done)
    all_goals
      cases e
      exact ⟨h, k⟩
theorem qdr (place : Nat → Option (Nat × Nat)) : ∀ (parts : List (Nat × AV)) (cells : List AV) (K : List AV → Prop), (qae place cells parts).1 → K (qae place cells parts).2 → qf6 place cells parts K
  | [], cells, K, _, k => k
  | (i, x) :: rest, cells, K, h, k => by
    simp only [qae] at h k
    simp only [qf6]
    cases hp : place i with
    | none => simp [hp] at h
    | some os =>
      obtain ⟨off, size⟩ := os
      simp only [hp] at h k ⊢
      exact ⟨h.1.1, h.1.2.1, h.1.2.2, qdr place rest _ K h.2 k⟩
theorem qbe (s : St) : ∀ (l : List (Nat × Operand)), q2b s l = l.map fun (i, x) => (i, s.ev x)
  | [] => rfl
  | (i, x) :: rest => by simp [q2b, qbe s rest]
theorem qi7 (s : St) : ∀ (l : List (Nat × Operand)), q84 s l = q0z (l.map fun (_, x) => s.ev x)
  | [] => rfl
  | (i, x) :: rest => by simp [q84, qi7 s rest, q0z]
theorem qeh : ∀ {fs : List Field}, qch T fs = true → ∀ f ∈ fs, ∃ fi, T f.type = some fi
  | [], _, f, hf => by cases hf
  | g :: gs, h, f, hf => by
    simp only [qch, z0d] at h
    rcases z26.1 hf with rfl | hf
    · exact Option.isSome_iff_exists.1 h.1
    · exact qeh h.2 f hf
theorem qr8 {parts : Array (Nat × Operand)} (e : qeg T t (q2b s parts.toList) s = some (C, x, s')) (h : C) (k : K x s') :
    (∀ ti fs, T t = some ti → ti.desc = .struct fs → qja T fs) ∧ qg6 T t (parts.toList.map fun (i, x) => (i, s.ev x)) s K := by
  unfold qeg at e
  unfold qg6
  rw [qbe] at e
  split at e <;> try (cases e; done)
  rename_i ti ht
  try simp only [*]
  split at e <;> try (cases e; done)
  · rename_i fs hd
    cases e
    refine ⟨fun ti' fs' h1 h2 => ?_, ?_⟩
    · cases h1
      rw [hd] at h2; cases h2
      exact qeh h.1
    · have := qdr (q6a T fs) _ _ (fun cs => K (.agg cs) s) h.2 k
      have e2 : q6a T fs = (fun (i : Nat) => (fs[i]?).bind fun (f : Field) => (T f.type).map fun fi => (f.offset, fi.size)) := by
        funext i
        unfold q6a
        cases fs[i]? with
        | none => rfl
        | some f => simp only [z4i]; cases T f.type <;> rfl
      rw [e2] at this
      simp only [hd]
      exact this
  · rename_i n el hd
    split at e <;> try (cases e; done)
    rename_i te hte
    cases e
    refine ⟨fun ti' fs' h1 h2 => ?_, ?_⟩
    · cases h1
      rw [hd] at h2; cases h2
    · try simp only [hd, hte]
      exact qdr _ _ _ (fun cs => K (.agg cs) s) h k
theorem qhx {len : Nat} {parts : List (Nat × Operand)} (e : qad T L t len parts s (s.shutAll (q84 s parts)) = some (C, x, s')) (h : C) (k : K x s') : q7h T L t len parts s K := by
  unfold qad at e
  unfold q7h
  rw [qi7, qbe] at e
  split at e <;> try (cases e; done)
  rename_i ti ht
  try simp only [*]
  split at e <;> try (cases e; done)
  rename_i el hd
  try simp only [*]
  split at e <;> try (cases e; done)
  rename_i te hte
  simp only [hte]
  cases e
  exact ⟨h.1, h.2.1, h.2.2.1, h.2.2.2, k⟩
theorem q9k (hT : TyOk P T) (ht : qbx T t = true) (p q : Bool) (w : World) : (Op.equal t (.bool p) (.bool q)).run P w = .ok (p == q) w := by
  unfold qbx at ht
  split at ht <;> try (cases ht; done)
  rename_i ti hti
  split at ht <;> try (cases ht; done)
  rename_i hd
  unfold Op.equal Op.maxDepth
  rw [show (10000 : Nat) = 9999 + 1 from rfl, Op.equalIn]
  simp only [z0s, run_underlying hT hti, z0b, hd, z15]
theorem qs1 (hT : TyOk P T) (e : qhh T op t p q s = some (C, x, s')) (h : C) (k : K x s') : abin P op t xo yo p q s K := by
  unfold qhh at e
  split at e
  all_goals first
    | (cases e; done)
    | (cases e; exact ⟨h, k⟩)
    | (cases e; exact ⟨h.1, h.2, k⟩)
    | skip
  all_goals
    cases e
    refine ⟨_, fun w => ?_, k⟩
    first
      | (simp only [eqGuard, z0s, z4k, z0n, if_false, z15, z0b, binOp, q9k hT h]; done)
      | (simp [eqGuard, binOp, q9k hT h]; done)
      | (simp [eqGuard, binOp, Op.stringOp]; done)
      | (simp [eqGuard, binOp, q9k hT h, bne]; done)
      | (rename_i p1 q1
         have hm : IntKind.i64.max = 9223372036854775807 := rfl
         have hh : ¬ (((p1.size + q1.size : Nat) : Int) > IntKind.i64.max) := by rw [hm]; exact Int.not_lt.2 h
         have hg : (eqGuard BinOp.add t xo yo (.string p1) (.string q1)).run P w = .ok () w := by simp [eqGuard]
         simp only [z0s, hg, z0b, binOp, Op.stringOp]
         rw [if_neg hh]
         rfl)
theorem qpc {xs ys : List AV} {us vs : Array Value} (h1 : aval (.agg xs) = some (.agg us)) (h2 : aval (.agg ys) = some (.agg vs)) {r : Value} (h : ∀ w, (do eqGuard op t xo yo (.agg us) (.agg vs); binOp op t (.agg us) (.agg vs) : Sem Value).run P w = .ok r w) (k : K (.v r) s) : abin P op t xo yo (.agg xs) (.agg ys) s K := by
  have e : abin P op t xo yo (.agg xs) (.agg ys) s K = (match aval (.agg xs), aval (.agg ys) with
    | some u, some v => ∃ r, (∀ w, (do eqGuard op t xo yo u v; binOp op t u v : Sem Value).run P w = .ok r w) ∧ K (.v r) s
    | _, _ => False) := by cases op <;> rfl
  rw [e, h1, h2]
  exact ⟨r, h, k⟩
theorem qvk (hT : TyOk P T) (e : fbin P T op t p q s = some (C, x, s')) (h : C) (k : K x s') : abin P op t xo yo p q s K := by
  unfold fbin at e
  split at e
  · rename_i xs ys
    unfold fbinS at e
    split at e
    · cases e
      obtain ⟨us, vs, h1, h2, h3⟩ := qtr hT h
      exact qpc h1 h2 (fun w => (h3 _ xo yo w).1 rfl) k
    · cases e
      obtain ⟨us, vs, h1, h2, h3⟩ := qtr hT h
      exact qpc h1 h2 (fun w => (h3 _ xo yo w).2 rfl) k
    · cases e
  · exact qs1 hT e h k
theorem qq3 {op : UnOp} (e : qea op p s = some (C, x, s')) (h : C) (k : K x s') : qky P op p s K := by
  unfold qea at e
  split at e <;> try (cases e; done)
  · cases e; exact k
  · cases e
    exact ⟨_, fun w => by simp [Op.unary, Op.intArith], k⟩
  · cases e
    exact ⟨_, fun w => by simp [Op.unary, Op.intBits, notF, xorF], k⟩
theorem qlt (e : q5t T src dst p s = some (C, x, s')) (h : C) (k : K x s') : q9h P T src dst p s K := by
  unfold q5t at e
  split at e <;> try (cases e; done)
  rename_i si di h1 h2
  split at e <;> try (cases e; done)
  rename_i k' kk n hd
  cases e
  simp only [q9h, aval, h1, h2, hd]
  exact k
theorem qr7 {i : AV} (e : qe9 T t p i s = some (C, x, s')) (h : C) (k : K x s') : qgn P T t p i s K := by
  unfold qe9 at e
  unfold qgn
  split at e <;> try (cases e; done)
  rename_i ti ht
  try simp only [ht]
  split at e <;> try (cases e; done)
  rename_i kk n
  split at e <;> try (cases e; done)
  · rename_i b hd
    cases e
    simp only [hd]
    refine ⟨h, ?_⟩
    have hlt : n.toNat < b.data.size := h.2
    have e1 : b.data.getD n.toNat 0 = b[n.toNat]'h.2 := by
      rw [Array.getD_eq_getD_getElem?, z2y hlt]; rfl
    rw [e1] at k
    exact k
  · rename_i len e' cs hd
    split at e <;> try (cases e; done)
    rename_i te hte
    split at e <;> try (cases e; done)
    rename_i c y hp
    cases e
    simp only [hd, hte]
    exact ⟨h.1, qij (K := fun y => K y s) hp h.2 k⟩
theorem qw2 (e : flen T t p s = some (C, x, s')) (h : C) (k : K x s') : alen T t p s K := by
  unfold flen at e
  unfold alen
  split at e <;> try (cases e; done)
  rename_i ti ht
  try simp only [ht]
  split at e <;> first | (rename_i hd; cases e; simp only [hd]; exact k) | (cases e; done)
theorem qck {sz : Nat} {ys : List AV} {K : List AV → Prop} (e : q6l s y sz = some (C, ys)) (h : C) (k : K ys) : qdv s y sz K := by
  unfold q6l at e
  unfold qdv
  split at e <;> try (cases e; done)
  · cases e; exact k
  · cases e; exact ⟨h, k⟩
  · split at e <;> try (cases e; done)
    rename_i hm
    cases e
    simp only [hm]
    exact ⟨h.1, h.2.1, h.2.2, k⟩
theorem qoc (e : qgw T src dst p s = some (C, x, s')) (h : C) (k : K x s') : qdu T src dst p s K := by
  unfold qgw at e
  unfold qdu
  split at e <;> try (cases e; done)
  rename_i si di h1 h2
  simp only [h1, h2]
  split at e <;> try (cases e; done)
  rename_i el h3
  simp only [h3]
  split at e <;> try (cases e; done)
  rename_i te h4
  simp only [h4]
  split at e <;> try (cases e; done)
  rename_i c ys h5
  cases e
  obtain ⟨q1, q2, q3, q4, q5⟩ := h
  exact ⟨q1, q2, q3, qck h5 q4 ⟨q5, k⟩⟩
theorem qob (e : q7d T src dst p s = some (C, x, s')) (h : C) (k : K x s') : q9h P T src dst p s K ∨ qdu T src dst p s K := by
  unfold q7d at e
  split at e
  · rename_i r hr
    cases e
    exact .inl (qlt hr h k)
  · exact .inr (qoc e h k)
theorem qoa {ts : List TypeId} (e : qbt T L ts p q s = some (C, x, s')) (h : C) (k : K x s') : qbs T L ts p q s K := by
  unfold qbt at e
  unfold qbs
  split at e <;> try (cases e; done)
  rename_i t t'
  split at e <;> try (cases e; done)
  rename_i ti ht
  split at e <;> try (cases e; done)
  rename_i el hd
  split at e <;> try (cases e; done)
  rename_i te hte
  split at e <;> try (cases e; done)
  rename_i c ys hy
  split at e <;> try (cases e; done)
  · cases e
    refine ⟨h.1, ?_⟩
    simp only [ht, hd, hte]
    exact ⟨h.2.1, qck hy h.2.2.1 ⟨h.2.2.2, k⟩⟩
  · split at e <;> try (cases e; done)
    rename_i hm
    cases e
    refine ⟨h.1, ?_⟩
    simp only [ht, hd, hte]
    refine ⟨h.2.1, qck hy h.2.2.1 ?_⟩
    simp only [hm]
    exact ⟨h.2.2.2.1, h.2.2.2.2, k⟩
theorem q8w {o : Option AV} {d n : Nat} {K : Nat → Prop} (e : qc4 o d = some (C, n)) (h : C) (k : K n) : q8x o d K := by
  unfold qc4 at e
  unfold q8x
  split at e <;> try (cases e; done)
  · cases e; exact k
  · cases e; exact ⟨h, k⟩
theorem qqf {lo hi mx : Option AV} (e : q95 T t p lo hi mx s = some (C, x, s')) (h : C) (k : K x s') :
    (∀ ti n el, T t = some ti → ti.desc ≠ .array n el) ∧ qe4 T t p lo hi mx s K := by
  unfold q95 at e
  unfold qe4
  split at e <;> try (cases e; done)
  rename_i ti ht
  try simp only [ht]
  split at e <;> try (cases e; done)
  · rename_i b hd
    refine ⟨(fun ti' n el h1 h2 => by cases h1; rw [hd] at h2; cases h2), ?_⟩
    split at e <;> try (cases e; done)
    rename_i c1 hh c2 ll h1 h2
    cases e
    simp only [ht, hd]
    exact q8w h1 h.1 (q8w h2 h.2.1 ⟨h.2.2, k⟩)
  · rename_i el sz xs hd
    refine ⟨(fun ti' n el h1 h2 => by cases h1; rw [hd] at h2; cases h2), ?_⟩
    split at e <;> try (cases e; done)
    rename_i te hte
    split at e <;> try (cases e; done)
    rename_i c1 hh c2 ll h1 h2
    cases e
    simp only [ht, hd, hte]
    exact ⟨h.1, q8w h1 h.2.1 (q8w h2 h.2.2.1 ⟨h.2.2.2, k⟩)⟩
theorem q4d (s : St) : ∀ (l : List Operand), evs s l = l.map s.ev
  | [] => rfl
  | x :: xs => by simp [evs, q4d s xs]
theorem qsj {c : AV} (e : qhs c p q s = some (C, x, s')) (h : C) (k : K x s') : qke c p q s K := by
  unfold qhs at e
  unfold qke
  split at e <;> try (cases e; done)
  rename_i b
  simp only
  split at e
  · cases e; exact k
  · rename_i p' q' hne
    cases e
    cases b
    · split
      · rename_i b1 b2; exact absurd rfl (hne b1 b2 rfl)
      · exact ⟨fun h => (by cases h), fun _ => k⟩
    · split
      · rename_i b1 b2; exact absurd rfl (hne b1 b2 rfl)
      · exact ⟨fun _ => k, fun h => (by cases h)⟩
theorem qfh {mx : Bool} {xs : List AV} (e : q71 mx xs s = some (C, x, s')) (h : C) (k : K x s') : q8a mx xs s K := by
  unfold q71 at e
  unfold q8a
  split at e <;> try (cases e; done)
  cases e
  exact ⟨h, k⟩
theorem qsv (hT : TyOk P T) (e : qht P T op t p q s = some (C, x, s')) (h : C) (k : K x s') : abin P op t xo yo p q s K ∨ qhi (gbin T op t p q s) K := by
  unfold qht at e
  split at e
  · rename_i r hr
    cases e
    exact .inl (qvk hT hr h k)
  · exact .inr ⟨C, x, s', e, h, k⟩
theorem qo9 {lo hi mx : Option Operand} (e : qbv T t p (q3v s lo) (q3v s hi) (q3v s mx) s = some (C, x, s')) (h : C) (k : K x s') :
    ((∀ ti n el, T t = some ti → ti.desc ≠ .array n el) ∧ qe4 T t p (lo.map s.ev) (hi.map s.ev) (mx.map s.ev) s K) ∨ qhi (q63 T t p (q3v s lo) (q3v s hi) (q3v s mx) s) K := by
  unfold qbv at e
  split at e
  · rename_i r hr
    cases e
    rw [q5n, q5n, q5n] at hr
    exact .inl (qqf hr h k)
  · exact .inr ⟨C, x, s', e, h, k⟩
theorem qgl (hT : TyOk P T) {o : Op} (e : q2i P T L o s = some (C, x, s')) (h : C) (k : K x s') : aop0 P T L o s K := by
  unfold q2i at e
  split at e
  case h_1 => cases e; exact k
  case h_2 => cases e; exact k
  case h_3 => exact qsj e h k
  case h_4 t =>
    show qgu T t s K
    unfold qgu
    cases ht : T t with
    | none => rw [ht] at e; cases e
    | some ti => rw [ht] at e; cases e; exact k
  case h_5 t y => cases e; exact ⟨h, k⟩
  case h_6 t parts => exact qr8 e h k
  case h_7 t len parts => exact qhx e h k
  case h_8 t y => exact qrb e h k
  case h_9 t p y => exact qpa e h k
  case h_10 y =>
    show (match s.ev y with | .ptr b c => K (.ptr b c) s | .ep b sz i c => K (.ep b sz i c) s | .rp cs => K (.rp cs) s | _ => False)
    split at e <;> first | (rename_i hq; cases e; rw [hq]; exact k) | (cases e; done)
  case h_11 op t y z tt => exact qsv hT e h k
  case h_12 op t y => exact qq3 e h k
  case h_13 src dst y => exact qob e h k
  case h_14 f first caps => cases e; exact ⟨h, by rw [q4d] at k; exact k⟩
  case h_15 t y lo hi mx => exact qo9 e h k
  case h_16 t y f => exact qj1 e h k
  case h_17 t y f => exact qqy e h k
  case h_18 t y i => exact qjl e h k
  case h_19 t y i => exact qr7 (P := P) e h k
  case h_20 y i =>
    show qcc (s.ev y) i s K
    unfold qcc
    split at e <;> try (cases e; done)
    rename_i xs hx
    cases e
    simp only [hx]
    have : xs[i]? = some (xs.getD i .any) := by rw [qjf h]; exact z05 h
    rw [this]
    exact k
  case h_21 b args ts =>
    split at e
    · split at e <;> try (cases e; done)
      rename_i y t ha hts
      show (match args.toList, ts.toList with | [x], [t] => alen T t (s.ev x) s K | _, _ => False)
      rw [ha, hts]
      exact qw2 e h k
    · split at e <;> try (cases e; done)
      rename_i y z ha
      show (match args.toList with | [x, y] => qbs T L ts.toList (s.ev x) (s.ev y) s K | _ => False)
      rw [ha]
      exact qoa e h k
    · rw [q4d] at e; exact qfh e h k
    · rw [q4d] at e; exact qfh e h k
    · cases e
  case h_22 => cases e
theorem qit (hT : TyOk P T) {o : Op} (e : qbh P T L o s = some (C, x, s')) (h : C) (k : K x s') : aop P T L o s K := by
  unfold qbh at e
  split at e
  · rename_i r hr
    cases e
    exact .inr (.inl ⟨C, x, s', hr, h, k⟩)
  · split at e
    · rename_i r hr
      cases e
      exact .inl (qgl hT hr h k)
    · exact .inr (.inr (.inl ⟨C, x, s', e, h, k⟩))
end
