/- A text of the walk that proves a law of this seat; joined by a program. -/
import Derived.Test.YtdkcpcflfnakdaaGreatSymM
set_option linter.unusedSimpArgs false
set_option linter.unusedVariables false
namespace Go.Proofs.YtdkcpcflfnakdaaGreat.Sym
open Go Go.RowKit
variable {L : Nat} {Hd : Nat → Prop}
def q13 : Op → Option (Operand × Array Operand)
  | .call { callee := .value f, args := args, .. } => some (f, args)
  | _ => none
def stepK (r : Step) (K : AV → St → Prop) : Prop :=
  match r with
  | some (C, x, s') => C ∧ K x s'
  | none => False
def opW (P : Program) (T : TypeId → Option TI) (L : Nat) (o : Op) (s : St) (K : AV → St → Prop) : Prop :=
  match q13 o with
  | some (f, args) => acall P L f args.toList s K
  | none => stepK (fstep P T L o s) K
def opsW (P : Program) (T : TypeId → Option TI) (L : Nat) (ops : Array Oper) : List Oper → St → (St → Prop) → Prop
  | [], s, K => K s
  | o :: rest, s, K => match o.guard with
    | none => opW P T L o.op s (fun x s' => opsW P T L ops rest (s'.put o.dst x) K)
    | some (j, want) => match (ops[j]?).bind (·.dst) with
      | some d => match s.tmps.getD d .any with
        | .v (.bool c) => (c = want → opW P T L o.op { s with tmps := s.tmps.set d (.v (.bool want)) } (fun x s' => opsW P T L ops rest (s'.put o.dst x) K)) ∧
            (c = !want → opsW P T L ops rest (({ s with tmps := s.tmps.set d (.v (.bool !want)) } : St).put o.dst (.v undef)) K)
        | .v (.tuple _) => opsW P T L ops rest (s.put o.dst (.v undef)) K
        | _ => False
      | none => False
def codeW (P : Program) (T : TypeId → Option TI) (L : Nat) : Code → St → (AExit → St → Prop) → Prop
  | .skip, s, K => K .normal s
  | .region id ops d, s, K => if d then ASem P L (.region id ops d) s K else opsW P T L ops ops.toList s (K .normal)
  | .seq a b, s, K => codeW P T L a s (AExit.thenK K fun s' => codeW P T L b s' K)
  | .cond c a b, s, K => match s.ev c with
    | .v (.bool t) => (t = true → codeW P T L a s K) ∧ (t = false → codeW P T L b s K)
    | _ => False
  | .block id c, s, K => codeW P T L c s (AExit.inBlock id K)
  | .exit id, s, K => K (.exit id) s
  | .ret, s, K => K .ret s
  | c, s, K => ASem P L c s K
theorem stepK_some {r : Step} {K : AV → St → Prop} (h : stepK r K) : ∃ C x s', r = some (C, x, s') ∧ C ∧ K x s' := by
  unfold stepK at h
  split at h
  · exact ⟨_, _, _, rfl, h.1, h.2⟩
  · exact h.elim
theorem aop_mono {P : Program} {T : TypeId → Option TI} {o : Op} {s : St} {K : AV → St → Prop} (hT : TyOk P T) (h : opW P T L o s K) : aop P T L o s K := by
  unfold opW at h
  split at h
  · rename_i f args hc
    unfold q13 at hc
    split at hc <;> try (cases hc; done)
    cases hc
    exact .inl h
  · obtain ⟨C, x, s', e, hC, hK⟩ := stepK_some h
    exact fstep_sound hT e hC hK
theorem q0j.mono {P : Program} {kp : Nat → Bool} {g : FuncId} {m : List AB} {args : List AV} {K K' : AV → List AB → Prop} (h : q0j P kp g m args K) (hk : ∀ x m', K x m' → K' x m') : q0j P kp g m args K' :=
  ⟨h.1, fun Hd ι w vs hR => (h.2 Hd ι w vs hR).mono fun e w' ⟨y, x, ι', m', h1, h2, h3, h5, h4⟩ => ⟨y, x, ι', m', h1, h2, h3, h5, hk x m' h4⟩⟩
theorem q0h.mono {P : Program} {N : Nat} {g : FuncId} {m : List AB} {args : List AV} {K K' : AV → List AB → Prop} (h : q0h P N g m args K) (hk : ∀ x m', K x m' → K' x m') : q0h P N g m args K' :=
  ⟨h.1, fun Hd ι w vs hR => (h.2 Hd ι w vs hR).mono fun e w' ⟨y, x, ι', m', h1, h2, h3, h4⟩ => ⟨y, x, ι', m', h1, h2, h3, hk x m' h4⟩⟩
theorem q0h.toX {P : Program} {N : Nat} {g : FuncId} {m : List AB} {args : List AV} {K : AV → List AB → Prop} (h : q0h P N g m args K) : q0j P (fun b => decide (b < N)) g m args K :=
  ⟨h.1, fun Hd ι w vs hR => (h.2 Hd ι w vs hR).mono fun e w' ⟨y, x, ι', m', h1, h2, h3, h4⟩ =>
    ⟨y, x, ι', m', h1, h2, ⟨h3.os, h3.tape, h3.output, h3.size, h3.imm, h3.shape, fun b o hb => absurd hb (Nat.not_lt_zero b)⟩, fun b o hb ho => h3.keep b o (by simpa using hb) ho, h4⟩⟩
theorem ACalls.mono {P : Program} {g : FuncId} {s : St} {argv : List AV} {K K' : AV → St → Prop} (hk : ∀ x s, K x s → K' x s) (h : ACalls P L g s argv K) : ACalls P L g s argv K' := by
  rcases h with h | ⟨kp, hkp, h⟩ | ⟨k, b, blk, x, h1, h2, h3⟩ | ⟨x, h1, h2⟩
  · exact .inl (h.mono fun x m hx => hk _ _ hx)
  · exact .inr (.inl ⟨kp, hkp, h.mono fun x m hx => hk _ _ hx⟩)
  · exact .inr (.inr (.inl ⟨k, b, blk, x, h1, h2, hk _ _ h3⟩))
  · exact .inr (.inr (.inr ⟨x, h1, hk _ _ h2⟩))
theorem acallD_mono {P : Program} {f : Operand} {args : List Operand} {s : St} {K K' : AV → St → Prop} (hk : ∀ x s, K x s → K' x s) (h : acallD P L f args s K) : acallD P L f args s K' := by
  unfold acallD at h ⊢
  split at h <;> try (exact h.elim)
  rename_i g cs hg
  try simp only [hg]
  exact ACalls.mono hk h
theorem acall_mono {P : Program} {f : Operand} {args : List Operand} {s : St} {K K' : AV → St → Prop} (hk : ∀ x s, K x s → K' x s) (h : acall P L f args s K) : acall P L f args s K' := by
  rcases h with h | h | ⟨bs, h1, h2, h3, h4⟩
  · left
    unfold acallS at h ⊢
    split at h <;> try (exact h.elim)
    rename_i g cs hg
    try simp only [hg]
    split at h <;> try (exact h.elim)
    rename_i g' caps hg'
    try simp only [hg']
    exact ⟨h.1, h.2.1, h.2.2.mono hk⟩
  · exact .inr (.inl (acallD_mono hk h))
  · exact .inr (.inr ⟨bs, h1, h2, h3, acallD_mono hk h4⟩)
theorem q3b {P : Program} {T : TypeId → Option TI} (hT : TyOk P T) {ops : Array Oper} : ∀ (l : List Oper) (s : St) (K : St → Prop), opsW P T L ops l s K → vcOps P T L ops l s K
  | [], s, K, h => h
  | o :: rest, s, K, h => by
    have key : ∀ s0, opW P T L o.op s0 (fun x s' => opsW P T L ops rest (s'.put o.dst x) K) → aop P T L o.op s0 (fun x s' => vcOps P T L ops rest (s'.put o.dst x) K) := by
      intro s0 h0
      have e : (fun (x : AV) (s' : St) => opsW P T L ops rest (s'.put o.dst x) K) = fun x s' => opsW P T L ops rest (s'.put o.dst x) K := rfl
      unfold opW at h0
      split at h0
      · rename_i f args hc
        unfold q13 at hc
        split at hc <;> try (cases hc; done)
        rename_i f' args' ts' ho
        cases hc
        rw [ho]
        left
        simp only [aop0]
        have h1 : acall P L f args.toList s0 (fun x s' => opsW P T L ops rest (s'.put o.dst x) K) := h0
        exact acall_mono (fun x s' hx => q3b hT rest _ K hx) h1
      · obtain ⟨C, x, s', e, hC, hK⟩ := stepK_some h0
        exact fstep_sound hT e hC (q3b hT rest _ K hK)
    unfold opsW at h
    unfold vcOps
    split at h
    · rename_i hg
      simp only [hg]
      exact key s h
    · rename_i j want hg
      simp only [hg]
      split at h <;> try (exact h.elim)
      rename_i d hd
      simp only [hd]
      split at h <;> try (exact h.elim)
      · rename_i c hc
        simp only [hc]
        exact ⟨fun e => key _ (h.1 e), fun e => q3b hT rest _ K (h.2 e)⟩
      · rename_i t hc
        simp only [hc]
        exact q3b hT rest _ K h
theorem ASem.mono {P : Program} {c : Code} {s : St} {K K' : AExit → St → Prop} (h : ASem P L c s K) (hk : ∀ e s, K e s → K' e s) : ASem P L c s K' :=
  fun F n hF Hd B ι a w hB hR Q hq => h F n hF Hd B ι a w hB hR Q (fun e s' ι' a' w' k1 k2 k3 => hq e s' ι' a' w' (hk e s' k1) k2 k3)
theorem q32 {P : Program} {T : TypeId → Option TI} (hT : TyOk P T) : ∀ (c : Code) (s : St) (K : AExit → St → Prop), codeW P T L c s K → ASem P L c s K := by
  intro c
  induction c with
  | region id ops d =>
    intro s K h
    unfold codeW at h
    split at h
    · exact h
    · rename_i hd
      refine vc_sound hT _ s K ?_
      unfold vc
      rw [if_neg hd]
      exact q3b hT _ _ _ h
  | skip => intro s K h; exact vc_sound hT _ s K h
  | exit id => intro s K h; exact vc_sound hT _ s K h
  | ret => intro s K h; exact vc_sound hT _ s K h
  | seq x y ihx ihy =>
    intro s K h F n hF Hd B ι a w hB hR Q hq
    refine wpIn_seq (ihx s _ h F n hF Hd B ι a w hB hR _ ?_)
    intro e s' ι' a' w' hK hR' hE
    cases e with
    | normal => exact ihy s' K hK F n hF Hd B ι' a' w' (Nat.le_trans hB hE.size) hR' Q (fun e2 s2 ι2 a2 w2 k1 k2 k3 => hq e2 s2 ι2 a2 w2 k1 k2 (hE.trans k3))
    | exit id => exact hq (.exit id) s' ι' a' w' hK hR' hE
    | ret => exact hq .ret s' ι' a' w' hK hR' hE
  | cond c x y ihx ihy =>
    intro s K h F n hF Hd B ι a w hB hR Q hq
    unfold codeW at h
    split at h <;> try exact h.elim
    rename_i t ht
    have hc := hR.ev c
    rw [ht] at hc
    refine wpIn_cond_split (t := t) hc (fun e => ?_) (fun e => ?_)
    · exact ihx s K (h.1 e) F n hF Hd B ι a w hB hR Q hq
    · exact ihy s K (h.2 e) F n hF Hd B ι a w hB hR Q hq
  | block id c ih =>
    intro s K h F n hF Hd B ι a w hB hR Q hq
    refine wpIn_block (ih s _ h F n hF Hd B ι a w hB hR _ ?_)
    intro e s' ι' a' w' hK hR' hE
    cases e with
    | normal => exact hq .normal s' ι' a' w' hK hR' hE
    | exit id' =>
      simp only [AExit.inBlock] at hK
      simp only [AExit.to, Exit.inBlock]
      split at hK
      · rename_i hid; rw [if_pos hid]; exact hq .normal s' ι' a' w' hK hR' hE
      · rename_i hid; rw [if_neg hid]; exact hq (.exit id') s' ι' a' w' hK hR' hE
    | ret => exact hq .ret s' ι' a' w' hK hR' hE
  | loop c _ => intro s K h; exact h
  | rangeFunc f ps asg bd _ _ => intro s K h; exact h
  | scope c _ => intro s K h; exact h
  | label l => intro s K h; exact h
  | goto l => intro s K h; exact h
  | refuse w => intro s K h; exact h
inductive Fr where
  | code (c : Code)
  | ops (ops : Array Oper) (l : List Oper)
  | blk (id : Nat)
def goE (P : Program) (T : TypeId → Option TI) (L : Nat) : List Fr → AExit → St → (AExit → St → Prop) → Prop
  | [], e, s, K => K e s
  | .code c :: k, .normal, s, K => codeW P T L c s (fun e s' => goE P T L k e s' K)
  | .ops a l :: k, .normal, s, K => opsW P T L a l s (fun s' => goE P T L k .normal s' K)
  | .blk _ :: k, .normal, s, K => goE P T L k .normal s K
  | .blk id :: k, .exit id', s, K => if id' = id then goE P T L k .normal s K else goE P T L k (.exit id') s K
  | _ :: k, .exit id, s, K => goE P T L k (.exit id) s K
  | _ :: k, .ret, s, K => goE P T L k .ret s K
def go (P : Program) (T : TypeId → Option TI) (L : Nat) (k : List Fr) (s : St) (K : AExit → St → Prop) : Prop := goE P T L k .normal s K
def contK (P : Program) (T : TypeId → Option TI) (L : Nat) (r : Step) (d : Option Tmp) (a : Array Oper) (rest : List Oper) (k : List Fr) (K : AExit → St → Prop) : Prop :=
  stepK r (fun x s' => go P T L (.ops a rest :: k) (s'.put d x) K)
def callK (P : Program) (T : TypeId → Option TI) (L : Nat) (f : Operand) (args : List Operand) (d : Option Tmp) (a : Array Oper) (rest : List Oper) (k : List Fr) (s : St) (K : AExit → St → Prop) : Prop :=
  acall P L f args s (fun x s' => go P T L (.ops a rest :: k) (s'.put d x) K)
def opK (P : Program) (T : TypeId → Option TI) (L : Nat) (c : Option (Operand × Array Operand)) (o : Op) (d : Option Tmp) (a : Array Oper) (rest : List Oper) (k : List Fr) (s : St) (K : AExit → St → Prop) : Prop :=
  match c with
  | some (f, args) => callK P T L f args.toList d a rest k s K
  | none => contK P T L (fstep P T L o s) d a rest k K
def guardK (P : Program) (T : TypeId → Option TI) (L : Nat) (gd : Option Tmp) (want : Bool) (o : Op) (d : Option Tmp) (a : Array Oper) (rest : List Oper) (k : List Fr) (s : St) (K : AExit → St → Prop) : Prop :=
  match gd with
  | some g => match s.tmps.getD g .any with
    | .v (.bool c) => (c = want → opK P T L (q13 o) o d a rest k { s with tmps := s.tmps.set g (.v (.bool want)) } K) ∧
        (c = !want → go P T L (.ops a rest :: k) (({ s with tmps := s.tmps.set g (.v (.bool !want)) } : St).put d (.v undef)) K)
    | .v (.tuple _) => go P T L (.ops a rest :: k) (s.put d (.v undef)) K
    | _ => False
  | none => False
def condK (P : Program) (T : TypeId → Option TI) (L : Nat) (v : AV) (x y : Code) (k : List Fr) (s : St) (K : AExit → St → Prop) : Prop :=
  match v with
  | .v (.bool t) => (t = true → go P T L (.code x :: k) s K) ∧ (t = false → go P T L (.code y :: k) s K)
  | _ => False
def exitK (P : Program) (T : TypeId → Option TI) (L : Nat) (id : Nat) (k : List Fr) (s : St) (K : AExit → St → Prop) : Prop := goE P T L k (.exit id) s K
def loopK (P : Program) (T : TypeId → Option TI) (L : Nat) (body : Code) (k : List Fr) (s : St) (K : AExit → St → Prop) : Prop :=
  ASem P L (.loop body) s (fun e s' => goE P T L k e s' K)
def restK (P : Program) (T : TypeId → Option TI) (L : Nat) (c : Code) (k : List Fr) (s : St) (K : AExit → St → Prop) : Prop :=
  ASem P L c s (fun e s' => goE P T L k e s' K)
def callG (P : Program) (T : TypeId → Option TI) (L : Nat) (g : FuncId) (argv : List AV) (d : Option Tmp) (a : Array Oper) (rest : List Oper) (k : List Fr) (s : St) (K : AExit → St → Prop) : Prop :=
  ACalls P L g s argv (fun x s' => go P T L (.ops a rest :: k) (s'.put d x) K)
def callH (P : Program) (T : TypeId → Option TI) (L : Nat) (v v' : AV) (own : List Nat) (argv : List AV) (d : Option Tmp) (a : Array Oper) (rest : List Oper) (k : List Fr) (s : St) (K : AExit → St → Prop) : Prop :=
  match v with
  | .fn g _ => match v' with
    | .fn g' caps => own.all (fun b => decide (L ≤ b)) = true ∧ g' = g ∧ callG P T L g (argv ++ caps) d a rest k s K
    | _ => False
  | _ => False
def callD (P : Program) (T : TypeId → Option TI) (L : Nat) (v : AV) (argv : List AV) (d : Option Tmp) (a : Array Oper) (rest : List Oper) (k : List Fr) (s : St) (K : AExit → St → Prop) : Prop :=
  match v with
  | .fn g caps => callG P T L g (argv ++ caps) d a rest k s K
  | _ => False
def callQ (P : Program) (T : TypeId → Option TI) (L : Nat) (own : List Nat) (f : Operand) (args : List Operand) (d : Option Tmp) (a : Array Oper) (rest : List Oper) (k : List Fr) (s : St) (K : AExit → St → Prop) : Prop :=
  ∃ bs : List Nat, bs ≠ [] ∧ (∀ b ∈ bs, b ∈ own) ∧ bs.all (fun b => decide (L ≤ b)) = true ∧ callD P T L ((s.shutAll bs).ev f) (evs (s.shutAll bs) args) d a rest k (s.shutAll bs) K
def callO (P : Program) (T : TypeId → Option TI) (L : Nat) (own : List Nat) (f : Operand) (args : List Operand) (d : Option Tmp) (a : Array Oper) (rest : List Oper) (k : List Fr) (s : St) (K : AExit → St → Prop) : Prop :=
  callH P T L (s.ev f) ((s.shutAll own).ev f) own (evs (s.shutAll own) args) d a rest k (s.shutAll own) K ∨ callD P T L (s.ev f) (evs s args) d a rest k s K ∨ callQ P T L own f args d a rest k s K
def callJ (P : Program) (T : TypeId → Option TI) (L : Nat) (own : List Nat) (f : Operand) (args : List Operand) (d : Option Tmp) (a : Array Oper) (rest : List Oper) (k : List Fr) (s : St) (K : AExit → St → Prop) : Prop :=
  match own with
  | [] => callD P T L (s.ev f) (evs s args) d a rest k s K
  | b :: bs => callO P T L (b :: bs) f args d a rest k s K
theorem callD_eq {P : Program} {T : TypeId → Option TI} {f : Operand} {args : List Operand} {d : Option Tmp} {a : Array Oper} {rest : List Oper} {k : List Fr} {s : St} {K : AExit → St → Prop} :
    acallD P L f args s (fun x s' => go P T L (.ops a rest :: k) (s'.put d x) K) = callD P T L (s.ev f) (evs s args) d a rest k s K := by
  unfold acallD callD callG
  simp only [evs_eq]
  cases s.ev f <;> rfl
theorem callO_eq {P : Program} {T : TypeId → Option TI} {f : Operand} {args : List Operand} {d : Option Tmp} {a : Array Oper} {rest : List Oper} {k : List Fr} {s : St} {K : AExit → St → Prop} :
    callK P T L f args d a rest k s K = callO P T L (q0w (evs s args)) f args d a rest k s K := by
  unfold callK acall callO
  congr 1
  · unfold acallS callH callG
    simp only [evs_eq]
    cases s.ev f with
    | fn g c =>
      simp only
      cases (s.shutAll (q0w (args.map s.ev))).ev f <;> rfl
    | _ => rfl
  · congr 1
    · exact callD_eq
    · unfold acallP callQ
      simp only [callD_eq, evs_eq]
theorem callK_eq {P : Program} {T : TypeId → Option TI} {f : Operand} {args : List Operand} {d : Option Tmp} {a : Array Oper} {rest : List Oper} {k : List Fr} {s : St} {K : AExit → St → Prop} :
    callK P T L f args d a rest k s K = callJ P T L (q0w (evs s args)) f args d a rest k s K := by
  rw [callO_eq]
  cases ho : q0w (evs s args) with
  | cons b bs => rfl
  | nil =>
    unfold callO callJ
    simp only [St.shutAll]
    have hQ : callQ P T L [] f args d a rest k s K = False := by
      unfold callQ
      refine propext ⟨?_, False.elim⟩
      rintro ⟨bs, h1, h2, _⟩
      cases bs with
      | nil => exact h1 rfl
      | cons b bs => exact absurd (h2 b (by simp)) (by simp)
    rw [hQ]
    unfold callH callD
    cases s.ev f with
    | fn g c => simp
    | _ => simp
theorem callJ_nil {P : Program} {T : TypeId → Option TI} {f : Operand} {args : List Operand} {d : Option Tmp} {a : Array Oper} {rest : List Oper} {k : List Fr} {s : St} {K : AExit → St → Prop} :
    callJ P T L [] f args d a rest k s K = callD P T L (s.ev f) (evs s args) d a rest k s K := _root_.id rfl
theorem callJ_cons {P : Program} {T : TypeId → Option TI} {b : Nat} {bs : List Nat} {f : Operand} {args : List Operand} {d : Option Tmp} {a : Array Oper} {rest : List Oper} {k : List Fr} {s : St} {K : AExit → St → Prop} :
    callJ P T L (b :: bs) f args d a rest k s K = callO P T L (b :: bs) f args d a rest k s K := _root_.id rfl
theorem callD_fn {P : Program} {T : TypeId → Option TI} {g : FuncId} {caps argv : List AV} {d : Option Tmp} {a : Array Oper} {rest : List Oper} {k : List Fr} {s : St} {K : AExit → St → Prop} :
    callD P T L (.fn g caps) argv d a rest k s K = callG P T L g (argv ++ caps) d a rest k s K := _root_.id rfl
theorem callO_shut {P : Program} {T : TypeId → Option TI} {own : List Nat} {f : Operand} {args : List Operand} {d : Option Tmp} {a : Array Oper} {rest : List Oper} {k : List Fr} {s : St} {K : AExit → St → Prop}
    (h : callH P T L (s.ev f) ((s.shutAll own).ev f) own (evs (s.shutAll own) args) d a rest k (s.shutAll own) K) : callO P T L own f args d a rest k s K := .inl h
theorem q33 {P : Program} {T : TypeId → Option TI} {own : List Nat} {f : Operand} {args : List Operand} {d : Option Tmp} {a : Array Oper} {rest : List Oper} {k : List Fr} {s : St} {K : AExit → St → Prop}
    (h : callD P T L (s.ev f) (evs s args) d a rest k s K) : callO P T L own f args d a rest k s K := .inr (.inl h)
theorem callO_some {P : Program} {T : TypeId → Option TI} {own : List Nat} {f : Operand} {args : List Operand} {d : Option Tmp} {a : Array Oper} {rest : List Oper} {k : List Fr} {s : St} {K : AExit → St → Prop} (bs : List Nat)
    (h1 : (!bs.isEmpty && bs.all (fun b => own.contains b) && bs.all (fun b => decide (L ≤ b))) = true)
    (h : callD P T L ((s.shutAll bs).ev f) (evs (s.shutAll bs) args) d a rest k (s.shutAll bs) K) : callO P T L own f args d a rest k s K := by
  simp only [Bool.and_eq_true, Bool.not_eq_true'] at h1
  refine .inr (.inr ⟨bs, ?_, ?_, h1.2, h⟩)
  · rintro rfl; simp at h1
  · intro b hb
    simpa using List.all_eq_true.1 h1.1.2 b hb
theorem callG_lend {P : Program} {T : TypeId → Option TI} {g : FuncId} {argv argv' : List AV} {d : Option Tmp} {a : Array Oper} {rest : List Oper} {k : List Fr} {s : St} {K : AExit → St → Prop} {x : AV}
    (h : PCall P g argv' (fun y => y = x)) (ha : q00 s.mem 0 argv = argv') (hp : x.plain = true) (hk : go P T L (.ops a rest :: k) (s.put d x) K) : callG P T L g argv d a rest k s K :=
  .inl <| PCall.borrow (by rw [ha]; exact h) (by rintro _ rfl; exact hp) (by rintro _ rfl; exact hk)
theorem callH_fn {P : Program} {T : TypeId → Option TI} {g g' : FuncId} {c caps : List AV} {own : List Nat} {argv : List AV} {d : Option Tmp} {a : Array Oper} {rest : List Oper} {k : List Fr} {s : St} {K : AExit → St → Prop} :
    callH P T L (.fn g c) (.fn g' caps) own argv d a rest k s K = (own.all (fun b => decide (L ≤ b)) = true ∧ g' = g ∧ callG P T L g (argv ++ caps) d a rest k s K) := _root_.id rfl
theorem q02 {P : Program} {T : TypeId → Option TI} {g : FuncId} {argv : List AV} {d : Option Tmp} {a : Array Oper} {rest : List Oper} {k : List Fr} {s : St} {K : AExit → St → Prop} {R : AV → Prop}
    (h : PCall P g argv R) (hp : q0r argv = true) (hk : ∀ x, R x → go P T L (.ops a rest :: k) (s.put d x) K) : callG P T L g argv d a rest k s K :=
  .inl (h.use hp hk)
theorem q52 {P : Program} {T : TypeId → Option TI} {g : FuncId} {m0 : List AB} {argv args0 : List AV} {K0 : AV → List AB → Prop} {d : Option Tmp} {a : Array Oper} {rest : List Oper} {k : List Fr} {s : St} {K : AExit → St → Prop}
    (h : ACall P g m0 args0 K0) (bs : List Nat) (hnd : bs.Nodup) (hm : bs.map (fun b => s.mem[b]?) = (renM bs m0).map some) (ha : argv = q0e bs args0) (hk1 : (q03 args0).all (fun b => decide (b < bs.length)) = true) (hk2 : m0.all (AB.inR bs.length) = true)
    (hK : ∀ x m0', K0 x m0' → m0'.length = m0.length ∧ go P T L (.ops a rest :: k) (({ s with mem := putL s.mem bs (renM bs m0') } : St).put d (ren bs x)) K) : callG P T L g argv d a rest k s K :=
  .inl (h.frame bs hnd hm ha hk1 hk2 hK)
theorem callG_R {P : Program} {T : TypeId → Option TI} {g : FuncId} {argv : List AV} {d : Option Tmp} {a : Array Oper} {rest : List Oper} {k : List Fr} {s : St} {K : AExit → St → Prop} {b : Nat} {blk : AB} {x : AV}
    (hL : L ≤ b) (h : ACallR P b g s.mem argv blk x) (hk : go P T L (.ops a rest :: k) ((s.rehome b blk).put d x) K) : callG P T L g argv d a rest k s K := .inr (.inr (.inl ⟨0, b, blk, x, hL, by simpa using h, by
      have : ({ s with mem := s.mem ++ List.replicate 0 AB.gone } : St) = s := by simp
      rw [this]; exact hk⟩))
theorem callG_new {P : Program} {T : TypeId → Option TI} {g : FuncId} {argv : List AV} {d : Option Tmp} {a : Array Oper} {rest : List Oper} {k : List Fr} {s : St} {K : AExit → St → Prop} {blk : AB} {x : AV} {n : Nat}
    (hn : s.mem.length = n) (hL : L ≤ n) (h : ACallR P n g (s.mem ++ [.gone]) argv blk x) (hk : go P T L (.ops a rest :: k) ((({ s with mem := s.mem ++ [.gone] } : St).rehome n blk).put d x) K) : callG P T L g argv d a rest k s K :=
  .inr (.inr (.inl ⟨1, n, blk, x, hL, h, hk⟩))
theorem callG_ext {P : Program} {T : TypeId → Option TI} {g : FuncId} {argv : List AV} {d : Option Tmp} {a : Array Oper} {rest : List Oper} {k : List Fr} {s : St} {K : AExit → St → Prop} {x : AV}
    (h : XCall P g s.mem argv x) (hk : go P T L (.ops a rest :: k) (s.put d x) K) : callG P T L g argv d a rest k s K := .inr (.inr (.inr ⟨x, h, hk⟩))
section rules
variable {P : Program} {T : TypeId → Option TI} {k : List Fr} {s : St} {K : AExit → St → Prop}
theorem go_nil : go P T L [] s K = K .normal s := _root_.id rfl
theorem go_skip : go P T L (.code .skip :: k) s K = go P T L k s K := _root_.id rfl
theorem go_region {id : Nat} {ops : Array Oper} : go P T L (.code (.region id ops false) :: k) s K = go P T L (.ops ops ops.toList :: k) s K := _root_.id rfl
theorem go_draws {id : Nat} {ops : Array Oper} : go P T L (.code (.region id ops true) :: k) s K = restK P T L (.region id ops true) k s K := _root_.id rfl
theorem go_seq {x y : Code} : go P T L (.code (.seq x y) :: k) s K = go P T L (.code x :: .code y :: k) s K := by
  show codeW P T L x s _ = codeW P T L x s _
  congr 1
  funext e s'
  cases e <;> rfl
theorem go_cond {c : Operand} {x y : Code} : go P T L (.code (.cond c x y) :: k) s K = condK P T L (s.ev c) x y k s K := _root_.id rfl
theorem go_block {id : Nat} {c : Code} : go P T L (.code (.block id c) :: k) s K = go P T L (.code c :: .blk id :: k) s K := by
  show codeW P T L c s _ = codeW P T L c s _
  congr 1
  funext e s'
  cases e <;> rfl
theorem go_blk {id : Nat} : go P T L (.blk id :: k) s K = go P T L k s K := _root_.id rfl
theorem go_exit {id : Nat} : go P T L (.code (.exit id) :: k) s K = exitK P T L id k s K := _root_.id rfl
theorem go_ret : go P T L (.code .ret :: k) s K = K .ret s := by
  show goE P T L k .ret s K = K .ret s
  induction k with
  | nil => rfl
  | cons f k ih => cases f <;> exact ih
theorem go_loop {c : Code} : go P T L (.code (.loop c) :: k) s K = loopK P T L c k s K := _root_.id rfl
theorem go_range {f : Operand} {ps : Array Tmp} {x y : Code} : go P T L (.code (.rangeFunc f ps x y) :: k) s K = restK P T L (.rangeFunc f ps x y) k s K := _root_.id rfl
theorem exitK_code {id : Nat} {c : Code} : exitK P T L id (.code c :: k) s K = exitK P T L id k s K := _root_.id rfl
theorem exitK_ops {id : Nat} {a : Array Oper} {l : List Oper} : exitK P T L id (.ops a l :: k) s K = exitK P T L id k s K := _root_.id rfl
theorem exitK_blk {id id' : Nat} : exitK P T L id (.blk id' :: k) s K = if id = id' then go P T L k s K else exitK P T L id k s K := _root_.id rfl
theorem exitK_nil {id : Nat} : exitK P T L id [] s K = K (.exit id) s := _root_.id rfl
theorem go_ops_nil {a : Array Oper} : go P T L (.ops a [] :: k) s K = go P T L k s K := _root_.id rfl
theorem go_op {a : Array Oper} {rest : List Oper} {d : Option Tmp} {o : Op} {ty : TypeId} {pos : String} {af : Array Edge} :
    go P T L (.ops a (⟨d, o, ty, pos, af, none⟩ :: rest) :: k) s K = opK P T L (q13 o) o d a rest k s K := by
  show opW P T L o s _ = _
  unfold opW opK
  cases q13 o <;> rfl
theorem go_guard {a : Array Oper} {rest : List Oper} {d : Option Tmp} {o : Op} {ty : TypeId} {pos : String} {af : Array Edge} {j : Nat} {want : Bool} :
    go P T L (.ops a (⟨d, o, ty, pos, af, some (j, want)⟩ :: rest) :: k) s K = guardK P T L ((a[j]?).bind (·.dst)) want o d a rest k s K := by
  show opsW P T L a _ s _ = _
  unfold opsW guardK
  simp only
  cases (a[j]?).bind (·.dst) with
  | none => rfl
  | some g =>
    simp only
    cases s.tmps.getD g .any with
    | v x =>
      cases x with
      | bool c =>
        simp only
        congr 1
      | _ => rfl
    | _ => rfl
theorem opK_none {a : Array Oper} {rest : List Oper} {d : Option Tmp} {o : Op} : opK P T L none o d a rest k s K = contK P T L (fstep P T L o s) d a rest k K := _root_.id rfl
theorem opK_some {a : Array Oper} {rest : List Oper} {d : Option Tmp} {o : Op} {f : Operand} {args : Array Operand} : opK P T L (some (f, args)) o d a rest k s K = callK P T L f args.toList d a rest k s K := _root_.id rfl
theorem contK_some {a : Array Oper} {rest : List Oper} {d : Option Tmp} {C : Prop} {x : AV} {s' : St} : contK P T L (some (C, x, s')) d a rest k K = (C ∧ go P T L (.ops a rest :: k) (s'.put d x) K) := _root_.id rfl
end rules
theorem q0d {P : Program} {T : TypeId → Option TI} (hT : TyOk P T) {g : FuncId} {fn : Func} {c : Code} (hf : P.funcs[g]? = some fn) (hb : fn.body = some c) (hname : (fn.name == "runtime.NumGoroutine") = false)
    {args : List AV} {R : AV → Prop} (h : ∀ K, (∀ e s, retK P T fn 0 (fun x m' => m' = [] ∧ R x) e s → K e s) → go P T 0 [.code c] ⟨args ++ List.replicate (fn.ntmps - args.length) .any, []⟩ K) : PCall P g args R := by
  have h1 := h _ (fun e s hh => hh)
  have h2 : codeW P T 0 c ⟨args ++ List.replicate (fn.ntmps - args.length) .any, []⟩ (retK P T fn 0 (fun x m' => m' = [] ∧ R x)) := h1
  exact acall_of_asem hT hf hb hname (q32 hT c _ _ h2)
end Go.Proofs.YtdkcpcflfnakdaaGreat.Sym
