/- A text of the walk that proves a law of this seat; joined by a program. -/
import Derived.Test.YtdkcpcflfnakdaaGreatSymL
set_option linter.unusedSimpArgs false
set_option linter.unusedVariables false
namespace Go.Proofs.YtdkcpcflfnakdaaGreat.Sym
open Go Go.RowKit
variable {L : Nat} {Hd : Nat → Prop}
section
variable {P : Program} {T : TypeId → Option TI} {s s' : St} {C : Prop} {x : AV} {K : AV → St → Prop}
theorem fcell_sound {ti : TI} {cs : List AV} {K : AV → Prop} (h : (fcell ti cs).1) (k : K (fcell ti cs).2) : acell ti cs K := by
  unfold fcell at h k
  unfold acell
  split
  · rename_i ha; rw [if_pos ha] at h k; exact ⟨h, k⟩
  · rename_i ha; rw [if_neg ha] at h k
    cases cs with
    | nil => simp at h
    | cons c cs => exact k
theorem fload_sound {t : TypeId} {p : AV} (e : fload T t p s = some (C, x, s')) (h : C) (k : K x s') : aload T t p s (fun y => K y s) := by
  unfold fload at e
  unfold aload
  split at e
  · cases e
  · rename_i ti ht
    simp only [ht]
    split at e
    · cases e; exact fcell_sound (K := fun y => K y s) h k
    · split at e
      · rename_i hm; simp only [hm]; cases e; exact fcell_sound (K := fun y => K y s) h k
      · cases e
    · split at e
      · rename_i hm
        simp only [hm]
        cases e
        obtain ⟨h1, h2, h3, h4⟩ := h
        have hg : ∀ (l : List AV) (i : Nat) (hi : i < l.length), l.getD i .any = l[i] := fun l i hi => by rw [List.getD_eq_getElem?_getD, List.getElem?_eq_getElem hi]; rfl
        refine ⟨h1, h2, ?_, ?_⟩
        · rw [hg _ _ h2] at h3; exact h3
        · rw [hg _ _ h2] at h4 k; exact fcell_sound (K := fun y => K y s) h4 k
      · cases e
    · cases e
theorem getD_get {l : List AV} {i : Nat} (hi : i < l.length) : l.getD i .any = l[i] := by rw [List.getD_eq_getElem?_getD, List.getElem?_eq_getElem hi]; rfl
theorem fstore_sound {t : TypeId} {p y : AV} (e : fstore T t p y s = some (C, x, s')) (h : C) (k : K x s') : astore T t p y s K := by
  unfold fstore at e
  unfold astore
  split at e
  · cases e
  · rename_i ti ht
    simp only [ht]
    split at e
    · split at e
      · rename_i hm
        simp only [hm]
        cases e
        obtain ⟨h1, h2, h3, h4⟩ := h
        exact ⟨h1, h2, h3, h4, k⟩
      · cases e
    · split at e
      · rename_i hm
        simp only [hm]
        cases e
        obtain ⟨h1, h2, h3, h4, h5, h6, h7, h8, h9, h10⟩ := h
        rw [getD_get h7] at h8 h9 h10 k
        exact ⟨h1, h2, h3, h4, h5, h6, h7, h8, h9, h10, k⟩
      · cases e
    · cases e
theorem ffieldAddr_sound {t : TypeId} {p : AV} {f : Nat} (e : q4o T t p f s = some (C, x, s')) (h : C) (k : K x s') : afieldAddr T t p f s K := by
  unfold q4o at e
  unfold afieldAddr
  split at e <;> try (cases e; done)
  rename_i ti ht
  try simp only [*]
  split at e <;> try (cases e; done)
  rename_i fs hfs
  try simp only [*]
  split at e <;> try (cases e; done)
  rename_i fd hfd
  try simp only [*]
  split at e <;> try (cases e; done)
  rename_i fi hfi
  try simp only [*]
  split at e <;> first | (cases e; exact ⟨h, k⟩) | (cases e; done)
theorem fpart_sound {t : TypeId} {cs : List AV} {off : Nat} {y : AV} {K : AV → Prop} (e : fpart T t cs off = some (C, y)) (h : C) (k : K y) : apart T t cs off K := by
  unfold fpart at e
  unfold apart
  split at e <;> try (cases e; done)
  rename_i fi hfi
  try simp only [*]
  split at e
  · rename_i ha; cases e; rw [if_pos ha]; exact ⟨h, k⟩
  · rename_i ha; cases e; rw [if_neg ha]
    have : off < cs.length := h
    cases hd : cs.drop off with
    | nil => have := congrArg List.length hd; simp at this; omega
    | cons c cs' => rw [hd] at k; exact k
theorem ffield_sound {t : TypeId} {p : AV} {f : Nat} (e : ffield T t p f s = some (C, x, s')) (h : C) (k : K x s') : afield T t p f s K := by
  unfold ffield at e
  unfold afield
  split at e <;> try (cases e; done)
  try simp only [*]
  split at e <;> try (cases e; done)
  try simp only [*]
  split at e <;> try (cases e; done)
  try simp only [*]
  split at e <;> try (cases e; done)
  try simp only [*]
  split at e <;> try (cases e; done)
  rename_i c y hp
  cases e
  exact fpart_sound hp h k
theorem findexAddr_sound {t : TypeId} {p i : AV} (e : q4n T t p i s = some (C, x, s')) (h : C) (k : K x s') : aindexAddr T t p i s K := by
  unfold q4n at e
  unfold aindexAddr
  split at e <;> try (cases e; done)
  try simp only [*]
  split at e <;> try (cases e; done)
  try simp only [*]
  split at e <;> try (cases e; done)
  · rename_i hd
    simp only [hd]
    split at e <;> try (cases e; done)
    rename_i hte
    simp only [hte]
    split at e <;> try (cases e; done)
    · cases e
      obtain ⟨h1, h2, h3⟩ := h
      rw [getD_get h2.2] at h3 k
      exact ⟨h1, h2, h3, k⟩
    · cases e
      exact ⟨h.1, h.2, k⟩
  · rename_i hd
    simp only [hd]
    split at e <;> try (cases e; done)
    rename_i hte
    simp only [hte]
    split at e <;> try (cases e; done)
    all_goals
      cases e
      exact ⟨h, k⟩
theorem ffill_sound (place : Nat → Option (Nat × Nat)) : ∀ (parts : List (Nat × AV)) (cells : List AV) (K : List AV → Prop), (ffill place cells parts).1 → K (ffill place cells parts).2 → afill place cells parts K
  | [], cells, K, _, k => k
  | (i, x) :: rest, cells, K, h, k => by
    simp only [ffill] at h k
    simp only [afill]
    cases hp : place i with
    | none => simp [hp] at h
    | some os =>
      obtain ⟨off, size⟩ := os
      simp only [hp] at h k ⊢
      exact ⟨h.1.1, h.1.2.1, h.1.2.2, ffill_sound place rest _ K h.2 k⟩
theorem evParts_eq (s : St) : ∀ (l : List (Nat × Operand)), q1r s l = l.map fun (i, x) => (i, s.ev x)
  | [] => rfl
  | (i, x) :: rest => by simp [q1r, evParts_eq s rest]
theorem evOwners_eq (s : St) : ∀ (l : List (Nat × Operand)), evOwners s l = q0w (l.map fun (_, x) => s.ev x)
  | [] => rfl
  | (i, x) :: rest => by simp [evOwners, evOwners_eq s rest, q0w]
theorem fieldsOk_sound : ∀ {fs : List Field}, fieldsOk T fs = true → ∀ f ∈ fs, ∃ fi, T f.type = some fi
  | [], _, f, hf => by cases hf
  | g :: gs, h, f, hf => by
    simp only [fieldsOk, Bool.and_eq_true] at h
    rcases List.mem_cons.1 hf with rfl | hf
    · exact Option.isSome_iff_exists.1 h.1
    · exact fieldsOk_sound h.2 f hf
theorem fbuild_sound {t : TypeId} {parts : Array (Nat × Operand)} (e : fbuild T t (q1r s parts.toList) s = some (C, x, s')) (h : C) (k : K x s') :
    (∀ ti fs, T t = some ti → ti.desc = .struct fs → FieldsOk T fs) ∧ abuild T t (parts.toList.map fun (i, x) => (i, s.ev x)) s K := by
  unfold fbuild at e
  unfold abuild
  rw [evParts_eq] at e
  split at e <;> try (cases e; done)
  rename_i ti ht
  try simp only [*]
  split at e <;> try (cases e; done)
  · rename_i fs hd
    cases e
    refine ⟨fun ti' fs' h1 h2 => ?_, ?_⟩
    · cases h1
      rw [hd] at h2; cases h2
      exact fieldsOk_sound h.1
    · have := ffill_sound (q48 T fs) _ _ (fun cs => K (.agg cs) s) h.2 k
      have e2 : q48 T fs = (fun (i : Nat) => (fs[i]?).bind fun (f : Field) => (T f.type).map fun fi => (f.offset, fi.size)) := by
        funext i
        unfold q48
        cases fs[i]? with
        | none => rfl
        | some f => simp only [Option.bind_some]; cases T f.type <;> rfl
      rw [e2] at this
      simp only [hd]
      exact this
  · rename_i n el hd
    split at e <;> try (cases e; done)
    rename_i te hte
    cases e
    refine ⟨fun ti' fs' h1 h2 => ?_, ?_⟩
    · cases h1
      rw [hd] at h2; cases h2
    · try simp only [hd, hte]
      exact ffill_sound _ _ _ (fun cs => K (.agg cs) s) h k
theorem fbuildSlice_sound {t : TypeId} {len : Nat} {parts : List (Nat × Operand)} (e : fbuildSlice T L t len parts s (s.shutAll (evOwners s parts)) = some (C, x, s')) (h : C) (k : K x s') : q53 T L t len parts s K := by
  unfold fbuildSlice at e
  unfold q53
  rw [evOwners_eq, evParts_eq] at e
  split at e <;> try (cases e; done)
  rename_i ti ht
  try simp only [*]
  split at e <;> try (cases e; done)
  rename_i el hd
  try simp only [*]
  split at e <;> try (cases e; done)
  rename_i te hte
  simp only [hte]
  cases e
  exact ⟨h.1, h.2.1, h.2.2.1, h.2.2.2, k⟩
theorem q5j (hT : TyOk P T) {t : TypeId} (ht : isBoolTy T t = true) (p q : Bool) (w : World) : (Op.equal t (.bool p) (.bool q)).run P w = .ok (p == q) w := by
  unfold isBoolTy at ht
  split at ht <;> try (cases ht; done)
  rename_i ti hti
  split at ht <;> try (cases ht; done)
  rename_i hd
  unfold Op.equal Op.maxDepth
  rw [show (10000 : Nat) = 9999 + 1 from rfl, Op.equalIn]
  simp only [Sem.run_bind, run_underlying hT hti, Result.andThen_ok, hd, Sem.run_pure]
theorem fbin0_sound (hT : TyOk P T) {op : BinOp} {t : TypeId} {xo yo : Operand} {p q : AV} (e : fbin0 T op t p q s = some (C, x, s')) (h : C) (k : K x s') : abin P op t xo yo p q s K := by
  unfold fbin0 at e
  split at e
  all_goals first
    | (cases e; done)
    | (cases e; exact ⟨h, k⟩)
    | (cases e; exact ⟨h.1, h.2, k⟩)
    | skip
  all_goals
    cases e
    refine ⟨_, fun w => ?_, k⟩
    first
      | (simp only [eqGuard, Sem.run_bind, Bool.not_true, Bool.false_eq_true, if_false, Sem.run_pure, Result.andThen_ok, binOp, q5j hT h]; done)
      | (simp [eqGuard, binOp, q5j hT h]; done)
      | (simp [eqGuard, binOp, Op.stringOp]; done)
      | (simp [eqGuard, binOp, q5j hT h, bne]; done)
      | (rename_i p1 q1
         have hm : IntKind.i64.max = 9223372036854775807 := rfl
         have hh : ¬ (((p1.size + q1.size : Nat) : Int) > IntKind.i64.max) := by rw [hm]; exact Int.not_lt.2 h
         have hg : (eqGuard BinOp.add t xo yo (.string p1) (.string q1)).run P w = .ok () w := by simp [eqGuard]
         simp only [Sem.run_bind, hg, Result.andThen_ok, binOp, Op.stringOp]
         rw [if_neg hh]
         rfl)
theorem abin_agg {op : BinOp} {t : TypeId} {xo yo : Operand} {xs ys : List AV} {us vs : Array Value} (h1 : aval (.agg xs) = some (.agg us)) (h2 : aval (.agg ys) = some (.agg vs)) {r : Value}
    (h : ∀ w, (do eqGuard op t xo yo (.agg us) (.agg vs); binOp op t (.agg us) (.agg vs) : Sem Value).run P w = .ok r w) (k : K (.v r) s) : abin P op t xo yo (.agg xs) (.agg ys) s K := by
  have e : abin P op t xo yo (.agg xs) (.agg ys) s K = (match aval (.agg xs), aval (.agg ys) with
    | some u, some v => ∃ r, (∀ w, (do eqGuard op t xo yo u v; binOp op t u v : Sem Value).run P w = .ok r w) ∧ K (.v r) s
    | _, _ => False) := by cases op <;> rfl
  rw [e, h1, h2]
  exact ⟨r, h, k⟩
theorem fbin_sound (hT : TyOk P T) {op : BinOp} {t : TypeId} {xo yo : Operand} {p q : AV} (e : fbin P T op t p q s = some (C, x, s')) (h : C) (k : K x s') : abin P op t xo yo p q s K := by
  unfold fbin at e
  split at e
  · rename_i xs ys
    unfold fbinS at e
    split at e
    · cases e
      obtain ⟨us, vs, h1, h2, h3⟩ := eqC_run hT h
      exact abin_agg h1 h2 (fun w => (h3 _ xo yo w).1 rfl) k
    · cases e
      obtain ⟨us, vs, h1, h2, h3⟩ := eqC_run hT h
      exact abin_agg h1 h2 (fun w => (h3 _ xo yo w).2 rfl) k
    · cases e
  · exact fbin0_sound hT e h k
theorem funary_sound {op : UnOp} {p : AV} (e : funary op p s = some (C, x, s')) (h : C) (k : K x s') : aunary P op p s K := by
  unfold funary at e
  split at e <;> try (cases e; done)
  · cases e; exact k
  · cases e
    exact ⟨_, fun w => by simp [Op.unary, Op.intArith], k⟩
  · cases e
    exact ⟨_, fun w => by simp [Op.unary, Op.intBits, notF, xorF], k⟩
theorem fconvert_sound {src dst : TypeId} {p : AV} (e : q3s T src dst p s = some (C, x, s')) (h : C) (k : K x s') : aconvert P T src dst p s K := by
  unfold q3s at e
  split at e <;> try (cases e; done)
  rename_i si di h1 h2
  split at e <;> try (cases e; done)
  rename_i k' kk n hd
  cases e
  simp only [aconvert, aval, h1, h2, hd]
  exact k
theorem findex_sound {t : TypeId} {p i : AV} (e : findex T t p i s = some (C, x, s')) (h : C) (k : K x s') : aindex P T t p i s K := by
  unfold findex at e
  unfold aindex
  split at e <;> try (cases e; done)
  rename_i ti ht
  try simp only [ht]
  split at e <;> try (cases e; done)
  rename_i kk n
  split at e <;> try (cases e; done)
  · rename_i b hd
    cases e
    simp only [hd]
    refine ⟨h, ?_⟩
    have hlt : n.toNat < b.data.size := h.2
    have e1 : b.data.getD n.toNat 0 = b[n.toNat]'h.2 := by
      rw [Array.getD_eq_getD_getElem?, Array.getElem?_eq_getElem hlt]; rfl
    rw [e1] at k
    exact k
  · rename_i len e' cs hd
    split at e <;> try (cases e; done)
    rename_i te hte
    split at e <;> try (cases e; done)
    rename_i c y hp
    cases e
    simp only [hd, hte]
    exact ⟨h.1, fpart_sound (K := fun y => K y s) hp h.2 k⟩
theorem flen_sound {t : TypeId} {p : AV} (e : flen T t p s = some (C, x, s')) (h : C) (k : K x s') : alen T t p s K := by
  unfold flen at e
  unfold alen
  split at e <;> try (cases e; done)
  rename_i ti ht
  try simp only [ht]
  split at e <;> first | (rename_i hd; cases e; simp only [hd]; exact k) | (cases e; done)
theorem felems_sound {y : AV} {sz : Nat} {ys : List AV} {K : List AV → Prop} (e : felems s y sz = some (C, ys)) (h : C) (k : K ys) : aelems s y sz K := by
  unfold felems at e
  unfold aelems
  split at e <;> try (cases e; done)
  · cases e; exact k
  · cases e; exact ⟨h, k⟩
  · split at e <;> try (cases e; done)
    rename_i hm
    cases e
    simp only [hm]
    exact ⟨h.1, h.2.1, h.2.2, k⟩
theorem fconvS_sound {src dst : TypeId} {p : AV} (e : fconvS T src dst p s = some (C, x, s')) (h : C) (k : K x s') : aconvS T src dst p s K := by
  unfold fconvS at e
  unfold aconvS
  split at e <;> try (cases e; done)
  rename_i si di h1 h2
  simp only [h1, h2]
  split at e <;> try (cases e; done)
  rename_i el h3
  simp only [h3]
  split at e <;> try (cases e; done)
  rename_i te h4
  simp only [h4]
  split at e <;> try (cases e; done)
  rename_i c ys h5
  cases e
  obtain ⟨q1, q2, q3, q4, q5⟩ := h
  exact ⟨q1, q2, q3, felems_sound h5 q4 ⟨q5, k⟩⟩
theorem fconvA_sound {src dst : TypeId} {p : AV} (e : fconvA T src dst p s = some (C, x, s')) (h : C) (k : K x s') : aconvert P T src dst p s K ∨ aconvS T src dst p s K := by
  unfold fconvA at e
  split at e
  · rename_i r hr
    cases e
    exact .inl (fconvert_sound hr h k)
  · exact .inr (fconvS_sound e h k)
theorem fappend_sound {ts : List TypeId} {p q : AV} (e : fappend T L ts p q s = some (C, x, s')) (h : C) (k : K x s') : aappend T L ts p q s K := by
  unfold fappend at e
  unfold aappend
  split at e <;> try (cases e; done)
  rename_i t t'
  split at e <;> try (cases e; done)
  rename_i ti ht
  split at e <;> try (cases e; done)
  rename_i el hd
  split at e <;> try (cases e; done)
  rename_i te hte
  split at e <;> try (cases e; done)
  rename_i c ys hy
  split at e <;> try (cases e; done)
  · cases e
    refine ⟨h.1, ?_⟩
    simp only [ht, hd, hte]
    exact ⟨h.2.1, felems_sound hy h.2.2.1 ⟨h.2.2.2, k⟩⟩
  · split at e <;> try (cases e; done)
    rename_i hm
    cases e
    refine ⟨h.1, ?_⟩
    simp only [ht, hd, hte]
    refine ⟨h.2.1, felems_sound hy h.2.2.1 ?_⟩
    simp only [hm]
    exact ⟨h.2.2.2.1, h.2.2.2.2, k⟩
theorem q5f {o : Option AV} {d n : Nat} {K : Nat → Prop} (e : fbound o d = some (C, n)) (h : C) (k : K n) : abound o d K := by
  unfold fbound at e
  unfold abound
  split at e <;> try (cases e; done)
  · cases e; exact k
  · cases e; exact ⟨h, k⟩
theorem fslice_sound {t : TypeId} {p : AV} {lo hi mx : Option AV} (e : fslice T t p lo hi mx s = some (C, x, s')) (h : C) (k : K x s') :
    (∀ ti n el, T t = some ti → ti.desc ≠ .array n el) ∧ aslice T t p lo hi mx s K := by
  unfold fslice at e
  unfold aslice
  split at e <;> try (cases e; done)
  rename_i ti ht
  try simp only [ht]
  split at e <;> try (cases e; done)
  · rename_i b hd
    refine ⟨(fun ti' n el h1 h2 => by cases h1; rw [hd] at h2; cases h2), ?_⟩
    split at e <;> try (cases e; done)
    rename_i c1 hh c2 ll h1 h2
    cases e
    simp only [ht, hd]
    exact q5f h1 h.1 (q5f h2 h.2.1 ⟨h.2.2, k⟩)
  · rename_i el sz xs hd
    refine ⟨(fun ti' n el h1 h2 => by cases h1; rw [hd] at h2; cases h2), ?_⟩
    split at e <;> try (cases e; done)
    rename_i te hte
    split at e <;> try (cases e; done)
    rename_i c1 hh c2 ll h1 h2
    cases e
    simp only [ht, hd, hte]
    exact ⟨h.1, q5f h1 h.2.1 (q5f h2 h.2.2.1 ⟨h.2.2.2, k⟩)⟩
theorem evs_eq (s : St) : ∀ (l : List Operand), evs s l = l.map s.ev
  | [] => rfl
  | x :: xs => by simp [evs, evs_eq s xs]
theorem fpick_sound {c p q : AV} (e : fpick c p q s = some (C, x, s')) (h : C) (k : K x s') : apick c p q s K := by
  unfold fpick at e
  unfold apick
  split at e <;> try (cases e; done)
  rename_i b
  simp only
  split at e
  · cases e; exact k
  · rename_i p' q' hne
    cases e
    cases b
    · split
      · rename_i b1 b2; exact absurd rfl (hne b1 b2 rfl)
      · exact ⟨fun h => (by cases h), fun _ => k⟩
    · split
      · rename_i b1 b2; exact absurd rfl (hne b1 b2 rfl)
      · exact ⟨fun _ => k, fun h => (by cases h)⟩
theorem fminmax_sound {mx : Bool} {xs : List AV} (e : fminmax mx xs s = some (C, x, s')) (h : C) (k : K x s') : aminmax mx xs s K := by
  unfold fminmax at e
  unfold aminmax
  split at e <;> try (cases e; done)
  cases e
  exact ⟨h, k⟩
theorem fbinA_sound (hT : TyOk P T) {op : BinOp} {t : TypeId} {xo yo : Operand} {p q : AV} (e : fbinA P T op t p q s = some (C, x, s')) (h : C) (k : K x s') : abin P op t xo yo p q s K ∨ stepP (gbin T op t p q s) K := by
  unfold fbinA at e
  split at e
  · rename_i r hr
    cases e
    exact .inl (fbin_sound hT hr h k)
  · exact .inr ⟨C, x, s', e, h, k⟩
theorem fsliceA_sound {t : TypeId} {p : AV} {lo hi mx : Option Operand} (e : fsliceA T t p (optEv s lo) (optEv s hi) (optEv s mx) s = some (C, x, s')) (h : C) (k : K x s') :
    ((∀ ti n el, T t = some ti → ti.desc ≠ .array n el) ∧ aslice T t p (lo.map s.ev) (hi.map s.ev) (mx.map s.ev) s K) ∨ stepP (gsliceL T t p (optEv s lo) (optEv s hi) (optEv s mx) s) K := by
  unfold fsliceA at e
  split at e
  · rename_i r hr
    cases e
    rw [q3x, q3x, q3x] at hr
    exact .inl (fslice_sound hr h k)
  · exact .inr ⟨C, x, s', e, h, k⟩
theorem fstep0_sound (hT : TyOk P T) {o : Op} (e : q1x P T L o s = some (C, x, s')) (h : C) (k : K x s') : aop0 P T L o s K := by
  unfold q1x at e
  split at e
  case h_1 => cases e; exact k
  case h_2 => cases e; exact k
  case h_3 => exact fpick_sound e h k
  case h_4 t =>
    show aalloc T t s K
    unfold aalloc
    cases ht : T t with
    | none => rw [ht] at e; cases e
    | some ti => rw [ht] at e; cases e; exact k
  case h_5 t y => cases e; exact ⟨h, k⟩
  case h_6 t parts => exact fbuild_sound e h k
  case h_7 t len parts => exact fbuildSlice_sound e h k
  case h_8 t y => exact fload_sound e h k
  case h_9 t p y => exact fstore_sound e h k
  case h_10 y =>
    show (match s.ev y with | .ptr b c => K (.ptr b c) s | .ep b sz i c => K (.ep b sz i c) s | .rp cs => K (.rp cs) s | _ => False)
    split at e <;> first | (rename_i hq; cases e; rw [hq]; exact k) | (cases e; done)
  case h_11 op t y z tt => exact fbinA_sound hT e h k
  case h_12 op t y => exact funary_sound e h k
  case h_13 src dst y => exact fconvA_sound e h k
  case h_14 f first caps => cases e; exact ⟨h, by rw [evs_eq] at k; exact k⟩
  case h_15 t y lo hi mx => exact fsliceA_sound e h k
  case h_16 t y f => exact ffieldAddr_sound e h k
  case h_17 t y f => exact ffield_sound e h k
  case h_18 t y i => exact findexAddr_sound e h k
  case h_19 t y i => exact findex_sound (P := P) e h k
  case h_20 y i =>
    show aextract (s.ev y) i s K
    unfold aextract
    split at e <;> try (cases e; done)
    rename_i xs hx
    cases e
    simp only [hx]
    have : xs[i]? = some (xs.getD i .any) := by rw [getD_get h]; exact List.getElem?_eq_getElem h
    rw [this]
    exact k
  case h_21 b args ts =>
    split at e
    · split at e <;> try (cases e; done)
      rename_i y t ha hts
      show (match args.toList, ts.toList with | [x], [t] => alen T t (s.ev x) s K | _, _ => False)
      rw [ha, hts]
      exact flen_sound e h k
    · split at e <;> try (cases e; done)
      rename_i y z ha
      show (match args.toList with | [x, y] => aappend T L ts.toList (s.ev x) (s.ev y) s K | _ => False)
      rw [ha]
      exact fappend_sound e h k
    · rw [evs_eq] at e; exact fminmax_sound e h k
    · rw [evs_eq] at e; exact fminmax_sound e h k
    · cases e
  case h_22 => cases e
theorem fstep_sound (hT : TyOk P T) {o : Op} (e : fstep P T L o s = some (C, x, s')) (h : C) (k : K x s') : aop P T L o s K := by
  unfold fstep at e
  split at e
  · rename_i r hr
    cases e
    exact .inr (.inl ⟨C, x, s', hr, h, k⟩)
  · split at e
    · rename_i r hr
      cases e
      exact .inl (fstep0_sound hT hr h k)
    · exact .inr (.inr (.inl ⟨C, x, s', e, h, k⟩))
end
end Go.Proofs.YtdkcpcflfnakdaaGreat.Sym
