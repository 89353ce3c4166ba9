/- A text of the walk that proves a law of this seat; joined by a program. -/
import Derived.Test.YtdkcpcflfnakdaaGreatSymM
set_option linter.unusedSimpArgs false
set_option linter.unusedVariables false
namespace Go.Proofs.YtdkcpcflfnakdaaGreat.Sym
open Go Go.RowKit
variable {L : Nat} {Hd : Nat → Prop}
variable {K' : AV → St → Prop} {a ops : Array Oper} {args : List Operand} {argv : List AV} {c y : Code} {d : Option Tmp} {f : Operand} {g : FuncId} {id : Nat} {m : List AB} {o : Op} {own : List Nat} {rest : List Oper} {x : AV}
def q1g : Op → Option (Operand × Array Operand)
 | .call { callee := .value f, args := args, .. } => some (f, args)
 | _ => none
def qhe (r : Step) (K : AV → St → Prop) : Prop :=
 match r with
 | some (C, x, s') => C ∧ K x s'
 | none => False
def opW (P : Program) (T : TypeId → Option TI) (L : Nat) (o : Op) (s : St) (K : AV → St → Prop) : Prop :=
 match q1g o with
 | some (f, args) => q8i P L f args.toList s K
 | none => qhe (qbh P T L o s) K
def opsW (P : Program) (T : TypeId → Option TI) (L : Nat) (ops : Array Oper) : List Oper → St → (St → Prop) → Prop
 | [], s, K => K s
 | o :: rest, s, K => match o.guard with
  | none => opW P T L o.op s (fun x s' => opsW P T L ops rest (s'.put o.dst x) K)
  | some (j, want) => match (ops[j]?).bind (·.dst) with
   | some d => match s.tmps.getD d .any with
    | .v (.bool c) => (c = want → opW P T L o.op { s with tmps := s.tmps.set d (.v (.bool want)) } (fun x s' => opsW P T L ops rest (s'.put o.dst x) K)) ∧
     (c = !want → opsW P T L ops rest (({ s with tmps := s.tmps.set d (.v (.bool !want)) } : St).put o.dst (.v undef)) K)
    | .v (.tuple _) => opsW P T L ops rest (s.put o.dst (.v undef)) K
    | _ => False
   | none => False
def q43 (P : Program) (T : TypeId → Option TI) (L : Nat) : Code → St → (AExit → St → Prop) → Prop
 | .skip, s, K => K .normal s
 | .region id ops d, s, K => if d then ASem P L (.region id ops d) s K else opsW P T L ops ops.toList s (K .normal)
 | .seq a b, s, K => q43 P T L a s (AExit.thenK K fun s' => q43 P T L b s' K)
 | .cond c a b, s, K => match s.ev c with
  | .v (.bool t) => (t = true → q43 P T L a s K) ∧ (t = false → q43 P T L b s K)
  | _ => False
 | .block id c, s, K => q43 P T L c s (AExit.inBlock id K)
 | .exit id, s, K => K (.exit id) s
 | .ret, s, K => K .ret s
 | c, s, K => ASem P L c s K
theorem qll {r : Step} {K : AV → St → Prop} (h : qhe r K) : ∃ C x s', r = some (C, x, s') ∧ C ∧ K x s' := by
 unfold qhe at h
 split at h
 · exact ⟨_, _, _, rfl, h.1, h.2⟩
 · exact h.elim
theorem aop_mono {P : Program} {T : TypeId → Option TI} {s : St} {K : AV → St → Prop} (hT : TyOk P T) (h : opW P T L o s K) : aop P T L o s K := by
 unfold opW at h
 split at h
 · rename_i f args hc
   unfold q1g at hc
   split at hc <;> try (cases hc; done)
   cases hc
   exact .inl h
 · obtain ⟨C, x, s', e, hC, hK⟩ := qll h
   exact qit hT e hC hK
theorem q0r.mono {P : Program} {kp : Nat → Bool} {args : List AV} {K K' : AV → List AB → Prop} (h : q0r P kp g m args K) (hk : ∀ x m', K x m' → K' x m') : q0r P kp g m args K' :=
 ⟨h.1, fun Hd ι w vs hR => (h.2 Hd ι w vs hR).mono fun e w' ⟨y, x, ι', m', h1, h2, h3, h5, h4⟩ => ⟨y, x, ι', m', h1, h2, h3, h5, hk x m' h4⟩⟩
theorem q0j.mono {P : Program} {N : Nat} {args : List AV} {K K' : AV → List AB → Prop} (h : q0j P N g m args K) (hk : ∀ x m', K x m' → K' x m') : q0j P N g m args K' :=
 ⟨h.1, fun Hd ι w vs hR => (h.2 Hd ι w vs hR).mono fun e w' ⟨y, x, ι', m', h1, h2, h3, h4⟩ => ⟨y, x, ι', m', h1, h2, h3, hk x m' h4⟩⟩
theorem q0j.toX {P : Program} {N : Nat} {args : List AV} {K : AV → List AB → Prop} (h : q0j P N g m args K) : q0r P (fun b => decide (b < N)) g m args K :=
 ⟨h.1, fun Hd ι w vs hR => (h.2 Hd ι w vs hR).mono fun e w' ⟨y, x, ι', m', h1, h2, h3, h4⟩ =>
  ⟨y, x, ι', m', h1, h2, ⟨h3.os, h3.tape, h3.output, h3.size, h3.imm, h3.shape, fun b o hb => absurd hb (z28 b)⟩, fun b o hb ho => h3.keep b o (by simpa using hb) ho, h4⟩⟩
theorem qax.mono {P : Program} {s : St} {K : AV → St → Prop} (hk : ∀ x s, K x s → K' x s) (h : qax P L g s argv K) : qax P L g s argv K' := by
 rcases h with h | ⟨kp, hkp, h⟩ | ⟨k, b, blk, x, h1, h2, h3⟩ | ⟨x, h1, h2⟩
 · exact .inl (h.mono fun x m hx => hk _ _ hx)
 · exact .inr (.inl ⟨kp, hkp, h.mono fun x m hx => hk _ _ hx⟩)
 · exact .inr (.inr (.inl ⟨k, b, blk, x, h1, h2, hk _ _ h3⟩))
 · exact .inr (.inr (.inr ⟨x, h1, hk _ _ h2⟩))
theorem qiq {P : Program} {s : St} {K : AV → St → Prop} (hk : ∀ x s, K x s → K' x s) (h : q6i P L f args s K) : q6i P L f args s K' := by
 unfold q6i at h ⊢
 split at h <;> try (exact h.elim)
 rename_i g cs hg
 try simp only [hg]
 exact qax.mono hk h
theorem qvf {P : Program} {s : St} {K : AV → St → Prop} (hk : ∀ x s, K x s → K' x s) (h : q8i P L f args s K) : q8i P L f args s K' := by
 rcases h with h | h | ⟨bs, h1, h2, h3, h4⟩
 · left
   unfold qfp at h ⊢
   split at h <;> try (exact h.elim)
   rename_i g cs hg
   try simp only [hg]
   split at h <;> try (exact h.elim)
   rename_i g' caps hg'
   try simp only [hg']
   exact ⟨h.1, h.2.1, h.2.2.mono hk⟩
 · exact .inr (.inl (qiq hk h))
 · exact .inr (.inr ⟨bs, h1, h2, h3, qiq hk h4⟩)
theorem q5p {P : Program} {T : TypeId → Option TI} (hT : TyOk P T) : ∀ (l : List Oper) (s : St) (K : St → Prop), opsW P T L ops l s K → q72 P T L ops l s K
 | [], s, K, h => h
 | o :: rest, s, K, h => by
  have key : ∀ s0, opW P T L o.op s0 (fun x s' => opsW P T L ops rest (s'.put o.dst x) K) → aop P T L o.op s0 (fun x s' => q72 P T L ops rest (s'.put o.dst x) K) := by
   intro s0 h0
   have e : (fun (x : AV) (s' : St) => opsW P T L ops rest (s'.put o.dst x) K) = fun x s' => opsW P T L ops rest (s'.put o.dst x) K := rfl
   unfold opW at h0
   split at h0
   · rename_i f args hc
     unfold q1g at hc
     split at hc <;> try (cases hc; done)
     rename_i f' args' ts' ho
     cases hc
     rw [ho]
     left
     simp only [aop0]
     have h1 : q8i P L f args.toList s0 (fun x s' => opsW P T L ops rest (s'.put o.dst x) K) := h0
     exact qvf (fun x s' hx => q5p hT rest _ K hx) h1
   · obtain ⟨C, x, s', e, hC, hK⟩ := qll h0
     exact qit hT e hC (q5p hT rest _ K hK)
  unfold opsW at h
  unfold q72
  split at h
  · rename_i hg
    simp only [hg]
    exact key s h
  · rename_i j want hg
    simp only [hg]
    split at h <;> try (exact h.elim)
    rename_i d hd
    simp only [hd]
    split at h <;> try (exact h.elim)
    · rename_i c hc
      simp only [hc]
      exact ⟨fun e => key _ (h.1 e), fun e => q5p hT rest _ K (h.2 e)⟩
    · rename_i t hc
      simp only [hc]
      exact q5p hT rest _ K h
theorem ASem.mono {P : Program} {s : St} {K K' : AExit → St → Prop} (h : ASem P L c s K) (hk : ∀ e s, K e s → K' e s) : ASem P L c s K' :=
 fun F n hF Hd B ι a w hB hR Q hq => h F n hF Hd B ι a w hB hR Q (fun e s' ι' a' w' k1 k2 k3 => hq e s' ι' a' w' (hk e s' k1) k2 k3)
theorem q48 {P : Program} {T : TypeId → Option TI} (hT : TyOk P T) : ∀ (c : Code) (s : St) (K : AExit → St → Prop), q43 P T L c s K → ASem P L c s K := by
 intro c
 induction c with
 | region id ops d =>
  intro s K h
  unfold q43 at h
  split at h
  · exact h
  · rename_i hd
    refine q82 hT _ s K ?_
    unfold vc
    rw [if_neg hd]
    exact q5p hT _ _ _ h
 | skip => intro s K h; exact q82 hT _ s K h
 | exit id => intro s K h; exact q82 hT _ s K h
 | ret => intro s K h; exact q82 hT _ s K h
 | seq x y ihx ihy =>
  intro s K h F n hF Hd B ι a w hB hR Q hq
  refine wpIn_seq (ihx s _ h F n hF Hd B ι a w hB hR _ ?_)
  intro e s' ι' a' w' hK hR' hE
  cases e with
  | normal => exact ihy s' K hK F n hF Hd B ι' a' w' (z1f hB hE.size) hR' Q (fun e2 s2 ι2 a2 w2 k1 k2 k3 => hq e2 s2 ι2 a2 w2 k1 k2 (hE.trans k3))
  | exit id => exact hq (.exit id) s' ι' a' w' hK hR' hE
  | ret => exact hq .ret s' ι' a' w' hK hR' hE
 | cond c x y ihx ihy =>
  intro s K h F n hF Hd B ι a w hB hR Q hq
  unfold q43 at h
  split at h <;> try exact h.elim
  rename_i t ht
  have hc := hR.ev c
  rw [ht] at hc
  refine wpIn_cond_split (t := t) hc (fun e => ?_) (fun e => ?_)
  · exact ihx s K (h.1 e) F n hF Hd B ι a w hB hR Q hq
  · exact ihy s K (h.2 e) F n hF Hd B ι a w hB hR Q hq
 | block id c ih =>
  intro s K h F n hF Hd B ι a w hB hR Q hq
  refine wpIn_block (ih s _ h F n hF Hd B ι a w hB hR _ ?_)
  intro e s' ι' a' w' hK hR' hE
  cases e with
  | normal => exact hq .normal s' ι' a' w' hK hR' hE
  | exit id' =>
   simp only [AExit.inBlock] at hK
   simp only [AExit.to, Exit.inBlock]
   split at hK
   · rename_i hid; rw [if_pos hid]; exact hq .normal s' ι' a' w' hK hR' hE
   · rename_i hid; rw [if_neg hid]; exact hq (.exit id') s' ι' a' w' hK hR' hE
  | ret => exact hq .ret s' ι' a' w' hK hR' hE
 | loop c _ => intro s K h; exact h
 | rangeFunc f ps asg bd _ _ => intro s K h; exact h
 | scope c _ => intro s K h; exact h
 | label l => intro s K h; exact h
 | goto l => intro s K h; exact h
 | refuse w => intro s K h; exact h
inductive Fr where
 | code (c : Code)
 | ops (ops : Array Oper) (l : List Oper)
 | blk (id : Nat)
def goE (P : Program) (T : TypeId → Option TI) (L : Nat) : List Fr → AExit → St → (AExit → St → Prop) → Prop
 | [], e, s, K => K e s
 | .code c :: k, .normal, s, K => q43 P T L c s (fun e s' => goE P T L k e s' K)
 | .ops a l :: k, .normal, s, K => opsW P T L a l s (fun s' => goE P T L k .normal s' K)
 | .blk _ :: k, .normal, s, K => goE P T L k .normal s K
 | .blk id :: k, .exit id', s, K => if id' = id then goE P T L k .normal s K else goE P T L k (.exit id') s K
 | _ :: k, .exit id, s, K => goE P T L k (.exit id) s K
 | _ :: k, .ret, s, K => goE P T L k .ret s K
def go (P : Program) (T : TypeId → Option TI) (L : Nat) (k : List Fr) (s : St) (K : AExit → St → Prop) : Prop := goE P T L k .normal s K
def contK (P : Program) (T : TypeId → Option TI) (L : Nat) (r : Step) (d : Option Tmp) (a : Array Oper) (rest : List Oper) (k : List Fr) (K : AExit → St → Prop) : Prop :=
 qhe r (fun x s' => go P T L (.ops a rest :: k) (s'.put d x) K)
def qk3 (P : Program) (T : TypeId → Option TI) (L : Nat) (f : Operand) (args : List Operand) (d : Option Tmp) (a : Array Oper) (rest : List Oper) (k : List Fr) (s : St) (K : AExit → St → Prop) : Prop :=
 q8i P L f args s (fun x s' => go P T L (.ops a rest :: k) (s'.put d x) K)
def opK (P : Program) (T : TypeId → Option TI) (L : Nat) (c : Option (Operand × Array Operand)) (o : Op) (d : Option Tmp) (a : Array Oper) (rest : List Oper) (k : List Fr) (s : St) (K : AExit → St → Prop) : Prop :=
 match c with
 | some (f, args) => qk3 P T L f args.toList d a rest k s K
 | none => contK P T L (qbh P T L o s) d a rest k K
def qqu (P : Program) (T : TypeId → Option TI) (L : Nat) (gd : Option Tmp) (want : Bool) (o : Op) (d : Option Tmp) (a : Array Oper) (rest : List Oper) (k : List Fr) (s : St) (K : AExit → St → Prop) : Prop :=
 match gd with
 | some g => match s.tmps.getD g .any with
  | .v (.bool c) => (c = want → opK P T L (q1g o) o d a rest k { s with tmps := s.tmps.set g (.v (.bool want)) } K) ∧
   (c = !want → go P T L (.ops a rest :: k) (({ s with tmps := s.tmps.set g (.v (.bool !want)) } : St).put d (.v undef)) K)
  | .v (.tuple _) => go P T L (.ops a rest :: k) (s.put d (.v undef)) K
  | _ => False
 | none => False
def qbk (P : Program) (T : TypeId → Option TI) (L : Nat) (v : AV) (x y : Code) (k : List Fr) (s : St) (K : AExit → St → Prop) : Prop :=
 match v with
 | .v (.bool t) => (t = true → go P T L (.code x :: k) s K) ∧ (t = false → go P T L (.code y :: k) s K)
 | _ => False
def q7w (P : Program) (T : TypeId → Option TI) (L : Nat) (id : Nat) (k : List Fr) (s : St) (K : AExit → St → Prop) : Prop := goE P T L k (.exit id) s K
def qek (P : Program) (T : TypeId → Option TI) (L : Nat) (body : Code) (k : List Fr) (s : St) (K : AExit → St → Prop) : Prop :=
 ASem P L (.loop body) s (fun e s' => goE P T L k e s' K)
def qa6 (P : Program) (T : TypeId → Option TI) (L : Nat) (c : Code) (k : List Fr) (s : St) (K : AExit → St → Prop) : Prop :=
 ASem P L c s (fun e s' => goE P T L k e s' K)
def q6d (P : Program) (T : TypeId → Option TI) (L : Nat) (g : FuncId) (argv : List AV) (d : Option Tmp) (a : Array Oper) (rest : List Oper) (k : List Fr) (s : St) (K : AExit → St → Prop) : Prop :=
 qax P L g s argv (fun x s' => go P T L (.ops a rest :: k) (s'.put d x) K)
def qk6 (P : Program) (T : TypeId → Option TI) (L : Nat) (v v' : AV) (own : List Nat) (argv : List AV) (d : Option Tmp) (a : Array Oper) (rest : List Oper) (k : List Fr) (s : St) (K : AExit → St → Prop) : Prop :=
 match v with
 | .fn g _ => match v' with
  | .fn g' caps => own.all (fun b => decide (L ≤ b)) = true ∧ g' = g ∧ q6d P T L g (argv ++ caps) d a rest k s K
  | _ => False
 | _ => False
def qa8 (P : Program) (T : TypeId → Option TI) (L : Nat) (v : AV) (argv : List AV) (d : Option Tmp) (a : Array Oper) (rest : List Oper) (k : List Fr) (s : St) (K : AExit → St → Prop) : Prop :=
 match v with
 | .fn g caps => q6d P T L g (argv ++ caps) d a rest k s K
 | _ => False
def callQ (P : Program) (T : TypeId → Option TI) (L : Nat) (own : List Nat) (f : Operand) (args : List Operand) (d : Option Tmp) (a : Array Oper) (rest : List Oper) (k : List Fr) (s : St) (K : AExit → St → Prop) : Prop :=
 ∃ bs : List Nat, bs ≠ [] ∧ (∀ b ∈ bs, b ∈ own) ∧ bs.all (fun b => decide (L ≤ b)) = true ∧ qa8 P T L ((s.shutAll bs).ev f) (evs (s.shutAll bs) args) d a rest k (s.shutAll bs) K
def qcq (P : Program) (T : TypeId → Option TI) (L : Nat) (own : List Nat) (f : Operand) (args : List Operand) (d : Option Tmp) (a : Array Oper) (rest : List Oper) (k : List Fr) (s : St) (K : AExit → St → Prop) : Prop :=
 qk6 P T L (s.ev f) ((s.shutAll own).ev f) own (evs (s.shutAll own) args) d a rest k (s.shutAll own) K ∨ qa8 P T L (s.ev f) (evs s args) d a rest k s K ∨ callQ P T L own f args d a rest k s K
def callJ (P : Program) (T : TypeId → Option TI) (L : Nat) (own : List Nat) (f : Operand) (args : List Operand) (d : Option Tmp) (a : Array Oper) (rest : List Oper) (k : List Fr) (s : St) (K : AExit → St → Prop) : Prop :=
 match own with
 | [] => qa8 P T L (s.ev f) (evs s args) d a rest k s K
 | b :: bs => qcq P T L (b :: bs) f args d a rest k s K
theorem qr2 {P : Program} {T : TypeId → Option TI} {k : List Fr} {s : St} {K : AExit → St → Prop} :
 q6i P L f args s (fun x s' => go P T L (.ops a rest :: k) (s'.put d x) K) = qa8 P T L (s.ev f) (evs s args) d a rest k s K := by
 unfold q6i qa8 q6d
 simp only [q4d]
 cases s.ev f <;> rfl
theorem callO_eq {P : Program} {T : TypeId → Option TI} {k : List Fr} {s : St} {K : AExit → St → Prop} :
 qk3 P T L f args d a rest k s K = qcq P T L (q0z (evs s args)) f args d a rest k s K := by
 unfold qk3 q8i qcq
 congr 1
 · unfold qfp qk6 q6d
   simp only [q4d]
   cases s.ev f with
   | fn g c =>
    simp only
    cases (s.shutAll (q0z (args.map s.ev))).ev f <;> rfl
   | _ => rfl
 · congr 1
   · exact qr2
   · unfold acallP callQ
     simp only [qr2, q4d]
theorem callK_eq {P : Program} {T : TypeId → Option TI} {k : List Fr} {s : St} {K : AExit → St → Prop} :
 qk3 P T L f args d a rest k s K = callJ P T L (q0z (evs s args)) f args d a rest k s K := by
 rw [callO_eq]
 cases ho : q0z (evs s args) with
 | cons b bs => rfl
 | nil =>
  unfold qcq callJ
  simp only [St.shutAll]
  have hQ : callQ P T L [] f args d a rest k s K = False := by
   unfold callQ
   refine propext ⟨?_, False.elim⟩
   rintro ⟨bs, h1, h2, _⟩
   cases bs with
   | nil => exact h1 rfl
   | cons b bs => exact absurd (h2 b (by simp)) (by simp)
  rw [hQ]
  unfold qk6 qa8
  cases s.ev f with
  | fn g c => simp
  | _ => simp
theorem qz5 {P : Program} {T : TypeId → Option TI} {k : List Fr} {s : St} {K : AExit → St → Prop} :
 callJ P T L [] f args d a rest k s K = qa8 P T L (s.ev f) (evs s args) d a rest k s K := _root_.id rfl
theorem qwe {P : Program} {T : TypeId → Option TI} {b : Nat} {bs : List Nat} {k : List Fr} {s : St} {K : AExit → St → Prop} :
 callJ P T L (b :: bs) f args d a rest k s K = qcq P T L (b :: bs) f args d a rest k s K := _root_.id rfl
theorem callD_fn {P : Program} {T : TypeId → Option TI} {caps : List AV} {k : List Fr} {s : St} {K : AExit → St → Prop} :
 qa8 P T L (.fn g caps) argv d a rest k s K = q6d P T L g (argv ++ caps) d a rest k s K := _root_.id rfl
theorem qk5 {P : Program} {T : TypeId → Option TI} {k : List Fr} {s : St} {K : AExit → St → Prop} (h : qk6 P T L (s.ev f) ((s.shutAll own).ev f) own (evs (s.shutAll own) args) d a rest k (s.shutAll own) K) : qcq P T L own f args d a rest k s K := .inl h
theorem q44 {P : Program} {T : TypeId → Option TI} {k : List Fr} {s : St} {K : AExit → St → Prop} (h : qa8 P T L (s.ev f) (evs s args) d a rest k s K) : qcq P T L own f args d a rest k s K := .inr (.inl h)
theorem qus {P : Program} {T : TypeId → Option TI} {k : List Fr} {s : St} {K : AExit → St → Prop} (bs : List Nat) (h1 : (!bs.isEmpty && bs.all (fun b => own.contains b) && bs.all (fun b => decide (L ≤ b))) = true) (h : qa8 P T L ((s.shutAll bs).ev f) (evs (s.shutAll bs) args) d a rest k (s.shutAll bs) K) : qcq P T L own f args d a rest k s K := by
 simp only [z0d, z2l] at h1
 refine .inr (.inr ⟨bs, ?_, ?_, h1.2, h⟩)
 · rintro rfl; simp at h1
 · intro b hb
   simpa using z0l.1 h1.1.2 b hb
theorem qer {P : Program} {T : TypeId → Option TI} {argv' : List AV} {k : List Fr} {s : St} {K : AExit → St → Prop} (h : q08 P g argv' (fun y => y = x)) (ha : q06 s.mem 0 argv = argv') (hp : x.plain = true) (hk : go P T L (.ops a rest :: k) (s.put d x) K) : q6d P T L g argv d a rest k s K :=
 .inl <| q08.borrow (by rw [ha]; exact h) (by rintro _ rfl; exact hp) (by rintro _ rfl; exact hk)
theorem callH_fn {P : Program} {T : TypeId → Option TI} {g' : FuncId} {c caps : List AV} {k : List Fr} {s : St} {K : AExit → St → Prop} :
 qk6 P T L (.fn g c) (.fn g' caps) own argv d a rest k s K = (own.all (fun b => decide (L ≤ b)) = true ∧ g' = g ∧ q6d P T L g (argv ++ caps) d a rest k s K) := _root_.id rfl
theorem q00 {P : Program} {T : TypeId → Option TI} {k : List Fr} {s : St} {K : AExit → St → Prop} {R : AV → Prop} (h : q08 P g argv R) (hp : q18 argv = true) (hk : ∀ x, R x → go P T L (.ops a rest :: k) (s.put d x) K) : q6d P T L g argv d a rest k s K :=
 .inl (h.use hp hk)
theorem q7e {P : Program} {T : TypeId → Option TI} {m0 : List AB} {args0 : List AV} {K0 : AV → List AB → Prop} {k : List Fr} {s : St} {K : AExit → St → Prop} (h : ACall P g m0 args0 K0) (bs : List Nat) (hnd : bs.Nodup) (hm : bs.map (fun b => s.mem[b]?) = (renM bs m0).map some) (ha : argv = q0i bs args0) (hk1 : (q03 args0).all (fun b => decide (b < bs.length)) = true) (hk2 : m0.all (AB.inR bs.length) = true) (hK : ∀ x m0', K0 x m0' → m0'.length = m0.length ∧ go P T L (.ops a rest :: k) (({ s with mem := putL s.mem bs (renM bs m0') } : St).put d (ren bs x)) K) : q6d P T L g argv d a rest k s K :=
 .inl (h.frame bs hnd hm ha hk1 hk2 hK)
theorem callG_R {P : Program} {T : TypeId → Option TI} {k : List Fr} {s : St} {K : AExit → St → Prop} {b : Nat} {blk : AB} (hL : L ≤ b) (h : q6k P b g s.mem argv blk x) (hk : go P T L (.ops a rest :: k) ((s.rehome b blk).put d x) K) : q6d P T L g argv d a rest k s K := .inr (.inr (.inl ⟨0, b, blk, x, hL, by simpa using h, by
 have : ({ s with mem := s.mem ++ List.replicate 0 AB.gone } : St) = s := by simp
 rw [this]; exact hk⟩))
theorem qct {P : Program} {T : TypeId → Option TI} {k : List Fr} {s : St} {K : AExit → St → Prop} {blk : AB} {n : Nat} (hn : s.mem.length = n) (hL : L ≤ n) (h : q6k P n g (s.mem ++ [.gone]) argv blk x) (hk : go P T L (.ops a rest :: k) ((({ s with mem := s.mem ++ [.gone] } : St).rehome n blk).put d x) K) : q6d P T L g argv d a rest k s K :=
 .inr (.inr (.inl ⟨1, n, blk, x, hL, h, hk⟩))
theorem qcn {P : Program} {T : TypeId → Option TI} {k : List Fr} {s : St} {K : AExit → St → Prop} (h : XCall P g s.mem argv x) (hk : go P T L (.ops a rest :: k) (s.put d x) K) : q6d P T L g argv d a rest k s K := .inr (.inr (.inr ⟨x, h, hk⟩))
section rules
variable {P : Program} {T : TypeId → Option TI} {k : List Fr} {s : St} {K : AExit → St → Prop}
theorem go_nil : go P T L [] s K = K .normal s := _root_.id rfl
theorem go_skip : go P T L (.code .skip :: k) s K = go P T L k s K := _root_.id rfl
theorem qyn : go P T L (.code (.region id ops false) :: k) s K = go P T L (.ops ops ops.toList :: k) s K := _root_.id rfl
theorem go_draws : go P T L (.code (.region id ops true) :: k) s K = qa6 P T L (.region id ops true) k s K := _root_.id rfl
theorem go_seq {x : Code} : go P T L (.code (.seq x y) :: k) s K = go P T L (.code x :: .code y :: k) s K := by
 show q43 P T L x s _ = q43 P T L x s _
 congr 1
 funext e s'
 cases e <;> rfl
theorem go_cond {c : Operand} {x : Code} : go P T L (.code (.cond c x y) :: k) s K = qbk P T L (s.ev c) x y k s K := _root_.id rfl
theorem go_block : go P T L (.code (.block id c) :: k) s K = go P T L (.code c :: .blk id :: k) s K := by
 show q43 P T L c s _ = q43 P T L c s _
 congr 1
 funext e s'
 cases e <;> rfl
theorem go_blk : go P T L (.blk id :: k) s K = go P T L k s K := _root_.id rfl
theorem go_exit : go P T L (.code (.exit id) :: k) s K = q7w P T L id k s K := _root_.id rfl
theorem go_ret : go P T L (.code .ret :: k) s K = K .ret s := by
 show goE P T L k .ret s K = K .ret s
 induction k with
 | nil => rfl
 | cons f k ih => cases f <;> exact ih
theorem go_loop : go P T L (.code (.loop c) :: k) s K = qek P T L c k s K := _root_.id rfl
theorem go_range {ps : Array Tmp} {x : Code} : go P T L (.code (.rangeFunc f ps x y) :: k) s K = qa6 P T L (.rangeFunc f ps x y) k s K := _root_.id rfl
theorem qur : q7w P T L id (.code c :: k) s K = q7w P T L id k s K := _root_.id rfl
theorem qy7 {l : List Oper} : q7w P T L id (.ops a l :: k) s K = q7w P T L id k s K := _root_.id rfl
theorem qyy {id' : Nat} : q7w P T L id (.blk id' :: k) s K = if id = id' then go P T L k s K else q7w P T L id k s K := _root_.id rfl
theorem qyo : q7w P T L id [] s K = K (.exit id) s := _root_.id rfl
theorem qwd : go P T L (.ops a [] :: k) s K = go P T L k s K := _root_.id rfl
theorem go_op {ty : TypeId} {pos : String} {af : Array Edge} :
 go P T L (.ops a (⟨d, o, ty, pos, af, none⟩ :: rest) :: k) s K = opK P T L (q1g o) o d a rest k s K := by
 show opW P T L o s _ = _
 unfold opW opK
 cases q1g o <;> rfl
theorem go_guard {ty : TypeId} {pos : String} {af : Array Edge} {j : Nat} {want : Bool} :
 go P T L (.ops a (⟨d, o, ty, pos, af, some (j, want)⟩ :: rest) :: k) s K = qqu P T L ((a[j]?).bind (·.dst)) want o d a rest k s K := by
 show opsW P T L a _ s _ = _
 unfold opsW qqu
 simp only
 cases (a[j]?).bind (·.dst) with
 | none => rfl
 | some g =>
  simp only
  cases s.tmps.getD g .any with
  | v x =>
   cases x with
   | bool c =>
    simp only
    congr 1
   | _ => rfl
  | _ => rfl
theorem opK_none : opK P T L none o d a rest k s K = contK P T L (qbh P T L o s) d a rest k K := _root_.id rfl
theorem opK_some {args : Array Operand} : opK P T L (some (f, args)) o d a rest k s K = qk3 P T L f args.toList d a rest k s K := _root_.id rfl
theorem qv9 {C : Prop} {s' : St} : contK P T L (some (C, x, s')) d a rest k K = (C ∧ go P T L (.ops a rest :: k) (s'.put d x) K) := _root_.id rfl
end rules
theorem q09 {P : Program} {T : TypeId → Option TI} (hT : TyOk P T) {fn : Func} (hf : P.funcs[g]? = some fn) (hb : fn.body = some c) (hname : (fn.name == "runtime.NumGoroutine") = false) {args : List AV} {R : AV → Prop} (h : ∀ K, (∀ e s, retK P T fn 0 (fun x m' => m' = [] ∧ R x) e s → K e s) → go P T 0 [.code c] ⟨args ++ List.replicate (fn.ntmps - args.length) .any, []⟩ K) : q08 P g args R := by
 have h1 := h _ (fun e s hh => hh)
 have h2 : q43 P T 0 c ⟨args ++ List.replicate (fn.ntmps - args.length) .any, []⟩ (retK P T fn 0 (fun x m' => m' = [] ∧ R x)) := h1
 exact qfg hT hf hb hname (q48 hT c _ _ h2)
