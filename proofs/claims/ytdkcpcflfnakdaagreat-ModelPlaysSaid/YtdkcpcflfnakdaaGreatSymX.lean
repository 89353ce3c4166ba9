/- A text of the walk that proves a law of this seat; joined by a program. -/
import Derived.Test.YtdkcpcflfnakdaaGreatSymW
set_option linter.unusedSimpArgs false
set_option linter.unusedVariables false
namespace Go.Proofs.YtdkcpcflfnakdaaGreat.Sym
open Go Go.RowKit
variable {L : Nat} {Hd Hd' : Nat → Prop}
variable {a ops : Array Oper} {c p q : Code} {d : Option Tmp} {f : Operand} {id : Nat} {o : Op} {rest : List Oper} {want : Bool}
structure Yie (P : Program) (L : Nat) {Γ : Type} (al : Γ → List AV → Prop) (an : Γ → List AV → Bool → Γ) (y : Value) where
 J : Γ → (Nat → Prop) → Loc → World → Prop
 ext : ∀ {g : Γ} {Hd : Nat → Prop} {ι : Loc} {w : World} {ι' : Loc} {w' : World}, J g Hd ι w → Ext L ι w ι' w' → (∀ r : Nat, some r ∈ ι' → r < w'.heap.size) → J g Hd ι' w'
 B0 : Nat
 leave : ∀ {g : Γ} {Hd : Nat → Prop} {ι : Loc} {w w' : World}, J g Hd ι w → Same w w' → (∀ r, r < B0 → w'.heap[r]? = w.heap[r]?) → w'.os = w.os → w'.tape = w.tape → w'.output = w.output → (∀ r, w'.shape? r = w.shape? r) → J g Hd ι w'
 ok : ∀ (g : Γ) (xs : List AV) (Hd : Nat → Prop) (ι : Loc) (w : World) (vs : List Value), al g xs → J g Hd ι w → rels Hd ι w xs vs → (∀ r : Nat, Hd r → r < w.heap.size ∧ some r ∉ ι) → (∀ r : Nat, some r ∈ ι → r < w.heap.size) →
  ∀ {o : Oper} {c : Call} {f : Operand} {a : Act} {n : Nat} {next : Act → World → Prop} {Q : Exit → Act → World → Prop}, o.op = .call c → c.callee = .value f → a.eval f = y → c.args.toList.map a.eval = vs →
   (∀ (b : Bool) (Hd' : Nat → Prop) (w' : World), Yld Hd Hd' w w' → J (an g xs b) Hd' ι w' → next (a.put o.dst (.bool b)) w') → o.wpIn Fence.wide n P a w next Q
section
variable {P : Program} {T : TypeId → Option TI} {Γ : Type} {al : Γ → List AV → Prop} {an : Γ → List AV → Bool → Γ} {y : Value}
def q4l (P : Program) (L : Nat) {Γ : Type} (al : Γ → List AV → Prop) (an : Γ → List AV → Bool → Γ) (y : Value) (c : Code) (s : St) (g : Γ) (K : AExit → St → Γ → Prop) : Prop :=
 ∀ (Y : Yie P L al an y) (n : Nat) (Hd : Nat → Prop) (B : Nat) (ι : Loc) (a : Act) (w : World), B ≤ w.heap.size → Rel Hd B ι s a w → Y.J g Hd ι w → ∀ Q : Exit → Act → World → Prop,
  (∀ e s' g' Hd' ι' a' w', K e s' g' → w.heap.size ≤ w'.heap.size → Rel Hd' B ι' s' a' w' → Y.J g' Hd' ι' w' → Q e.to a' w') → c.wpIn Fence.wide n P Q a w
theorem q4l.of {s : St} {g : Γ} {K : AExit → St → Γ → Prop} (h : ASem P L c s (fun e s' => K e s' g)) : q4l P L al an y c s g K :=
 fun Y n Hd B ι a w hB hR hJ Q hq => h Fence.wide n (.inl rfl) Hd B ι a w hB hR Q fun e s' ι' a' w' k1 k2 k3 => hq e s' g Hd ι' a' w' k1 k3.size k2 (Y.ext hJ k3 k2.lt)
theorem q4l.mono {s : St} {g : Γ} {K K' : AExit → St → Γ → Prop} (h : q4l P L al an y c s g K) (hk : ∀ e s g, K e s g → K' e s g) : q4l P L al an y c s g K' :=
 fun Y n Hd B ι a w hB hR hJ Q hq => h Y n Hd B ι a w hB hR hJ Q fun e s' g' Hd' ι' a' w' k => hq e s' g' Hd' ι' a' w' (hk _ _ _ k)
def opY (P : Program) (T : TypeId → Option TI) (L : Nat) {Γ : Type} (al : Γ → List AV → Prop) (an : Γ → List AV → Bool → Γ) (y : Value) (o : Op) (s : St) (g : Γ) (K : AV → St → Γ → Prop) : Prop :=
 match q1g o with
 | some (f, args) => match s.ev f with
  | .v v => v = y ∧ al g (evs s args.toList) ∧ ∀ b, K (.v (.bool b)) s (an g (evs s args.toList) b)
  | _ => q8i P L f args.toList s (fun x s' => K x s' g)
 | none => qhe (qbh P T L o s) (fun x s' => K x s' g)
def opsY (P : Program) (T : TypeId → Option TI) (L : Nat) {Γ : Type} (al : Γ → List AV → Prop) (an : Γ → List AV → Bool → Γ) (y : Value) (ops : Array Oper) : List Oper → St → Γ → (St → Γ → Prop) → Prop
 | [], s, g, K => K s g
 | o :: rest, s, g, K => match o.guard with
  | none => opY P T L al an y o.op s g (fun x s' g' => opsY P T L al an y ops rest (s'.put o.dst x) g' K)
  | some (j, want) => match (ops[j]?).bind (·.dst) with
   | some d => match s.tmps.getD d .any with
    | .v (.bool c) => (c = want → opY P T L al an y o.op { s with tmps := s.tmps.set d (.v (.bool want)) } g (fun x s' g' => opsY P T L al an y ops rest (s'.put o.dst x) g' K)) ∧
     (c = !want → opsY P T L al an y ops rest (({ s with tmps := s.tmps.set d (.v (.bool !want)) } : St).put o.dst (.v undef)) g K)
    | .v (.tuple _) => opsY P T L al an y ops rest (s.put o.dst (.v undef)) g K
    | _ => False
   | none => False
theorem qz3 (hT : TyOk P T) (Y : Yie P L al an y) {o : Oper} {n B : Nat} {ι : Loc} {s : St} {g : Γ} {a : Act} {w : World} {K : AV → St → Γ → Prop} {next : Act → World → Prop} {Q : Exit → Act → World → Prop}
 (hR : Rel Hd B ι s a w) (hJ : Y.J g Hd ι w) (h : opY P T L al an y o.op s g K)
 (hn : ∀ x v s' g' Hd' ι' w', rel Hd' ι' w' x v → Rel Hd' B ι' s' a w' → w.heap.size ≤ w'.heap.size → Y.J g' Hd' ι' w' → K x s' g' → next (a.put o.dst v) w') : o.wpIn Fence.wide n P a w next Q := by
 have plain : ∀ K0 : AV → St → Prop, opW P T L o.op s K0 → (∀ x s', K0 x s' → K x s' g) → o.wpIn Fence.wide n P a w next Q := by
  intro K0 h0 hk
  refine q47 hT (.inl rfl) hR (aop_mono hT h0) ?_
  intro x v s' ι' w' k1 k2 k3 k4
  exact hn x v s' g Hd ι' w' k1 k2 k3.size (Y.ext hJ k3 k2.lt) (hk x s' k4)
 unfold opY at h
 cases hc : q1g o.op with
 | none =>
  rw [hc] at h
  refine plain (fun x s' => K x s' g) ?_ (fun _ _ hx => hx)
  unfold opW
  rw [hc]
  exact h
 | some fa =>
  obtain ⟨f, args⟩ := fa
  rw [hc] at h
  simp only at h
  split at h
  · rename_i v hv
    obtain ⟨rfl, hal, hb⟩ := h
    have hfv := hR.ev f
    rw [hv] at hfv
    have hco : ∃ c, o.op = .call c ∧ c.callee = .value f ∧ c.args = args := by
     unfold q1g at hc
     split at hc
     · rename_i f' a' t' ho
       simp only [z1d, z34] at hc
       obtain ⟨rfl, rfl⟩ := hc
       exact ⟨_, ho, rfl, rfl⟩
     · cases hc
    obtain ⟨c, ho, hcf, rfl⟩ := hco
    have hr := hR.evs c.args.toList
    refine Y.ok g (evs s c.args.toList) Hd ι w _ hal hJ (by rw [q4d]; exact hr) hR.hid hR.lt ho hcf hfv rfl ?_
    intro b Hd' w' hy hJ'
    exact hn (.v (.bool b)) (.bool b) s _ Hd' ι w' rfl (hR.yld hy) hy.size hJ' (hb b)
  · refine plain (fun x s' => K x s' g) ?_ (fun _ _ hx => hx)
    unfold opW
    rw [hc]
    exact h
theorem qbi (hT : TyOk P T) (Y : Yie P L al an y) {n B : Nat} {Q : Exit → Act → World → Prop} : ∀ (l : List Oper) {Hd : Nat → Prop} {ι : Loc} {s : St} {g : Γ} {a : Act} {w : World} {K : St → Γ → Prop},
 Rel Hd B ι s a w → Y.J g Hd ι w → opsY P T L al an y ops l s g K → (∀ s' g' Hd' ι' a' w', Rel Hd' B ι' s' a' w' → w.heap.size ≤ w'.heap.size → Y.J g' Hd' ι' w' → K s' g' → Q .normal a' w') → wpListIn Fence.wide n P ops Q l a w
 | [], Hd, ι, s, g, a, w, K, h, hJ, hK, hn => hn s g Hd ι a w h (z09 _) hJ hK
 | o :: rest, Hd, ι, s, g, a, w, K, h, hJ, hK, hn => by
  have step : ∀ (s0 : St), Rel Hd B ι s0 a w → opY P T L al an y o.op s0 g (fun x s' g' => opsY P T L al an y ops rest (s'.put o.dst x) g' K) → o.wpIn Fence.wide n P a w (wpListIn Fence.wide n P ops Q rest) Q := by
   intro s0 h0 hK0
   refine qz3 hT Y h0 hJ hK0 ?_
   intro x v s' g' Hd' ι' w' hxy hR hs hJ' hK'
   exact qbi hT Y rest (hR.put o.dst hxy) hJ' hK' (fun s'' g'' Hd'' ι'' a'' w'' k1 k2 k3 k4 => hn s'' g'' Hd'' ι'' a'' w'' k1 (z1f hs k2) k3 k4)
  unfold opsY at hK
  split at hK
  · rename_i hg
    unfold wpListIn
    rw [if_pos (by simp [Region.wanted, hg])]
    exact step s h hK
  · rename_i j want hg
    split at hK <;> try exact hK.elim
    rename_i d hd
    split at hK <;> try exact hK.elim
    · rename_i c hc
      have hcv := q9n h hc
      have hy : yielded ops a.tmps j = some c := by
       unfold yielded
       rw [hd]
       simp [hcv]
      have hsame : { s with tmps := s.tmps.set d (.v (.bool c)) } = s := by
       rw [qej hc (by intro hh; cases hh)]
      by_cases hcw : c = want
      · subst hcw
        unfold wpListIn
        rw [if_pos (by simp [Region.wanted, hg, hy])]
        have := hK.1 rfl
        rw [hsame] at this
        exact step s h this
      · have hcn : c = !want := by cases c <;> cases want <;> simp_all
        unfold wpListIn
        rw [if_neg (by simp [Region.wanted, hg, hy, hcw])]
        refine ⟨fun f _ => trivial, ?_⟩
        have hK2 := hK.2 hcn
        rw [← hcn, hsame] at hK2
        exact qbi hT Y rest (h.put o.dst (x := .v undef) (y := undef) rfl) hJ hK2 hn
    · rename_i t hc
      have hcv := q9n h hc
      have hy : yielded ops a.tmps j = none := by
       unfold yielded
       rw [hd]
       simp [hcv]
      unfold wpListIn
      rw [if_neg (by simp [Region.wanted, hg, hy])]
      refine ⟨fun f _ => trivial, ?_⟩
      exact qbi hT Y rest (h.put o.dst (x := .v undef) (y := undef) rfl) hJ hK hn
def AExit.thenY (K : AExit → St → Γ → Prop) (next : St → Γ → Prop) : AExit → St → Γ → Prop
 | .normal, s, g => next s g
 | e, s, g => K e s g
def AExit.inBlockY (id : Nat) (K : AExit → St → Γ → Prop) : AExit → St → Γ → Prop
 | .exit id', s, g => if id' = id then K .normal s g else K (.exit id') s g
 | e, s, g => K e s g
def q4p (P : Program) (T : TypeId → Option TI) (L : Nat) {Γ : Type} (al : Γ → List AV → Prop) (an : Γ → List AV → Bool → Γ) (y : Value) (yl : Bool) : Code → St → Γ → (AExit → St → Γ → Prop) → Prop
 | .skip, s, g, K => K .normal s g
 | .region id ops d, s, g, K => if yl && !d then opsY P T L al an y ops ops.toList s g (K .normal) else q43 P T L (.region id ops d) s (fun e s' => K e s' g)
 | .seq a b, s, g, K => q4p P T L al an y yl a s g (AExit.thenY K fun s' g' => q4p P T L al an y yl b s' g' K)
 | .cond c a b, s, g, K => match s.ev c with
  | .v (.bool t) => (t = true → q4p P T L al an y yl a s g K) ∧ (t = false → q4p P T L al an y yl b s g K)
  | _ => False
 | .block id c, s, g, K => q4p P T L al an y yl c s g (AExit.inBlockY id K)
 | .exit id, s, g, K => K (.exit id) s g
 | .ret, s, g, K => K .ret s g
 | c, s, g, K => q4l P L al an y c s g K
theorem qaf (hT : TyOk P T) {yl : Bool} : ∀ (c : Code) (s : St) (g : Γ) (K : AExit → St → Γ → Prop), q4p P T L al an y yl c s g K → q4l P L al an y c s g K := by
 intro c
 induction c with
 | skip => intro s g K h; exact q4l.of (q82 hT .skip s _ h)
 | region id ops d =>
  intro s g K h
  unfold q4p at h
  split at h
  · rename_i hd
    simp only [z0d, z2l] at hd
    obtain ⟨_, rfl⟩ := hd
    intro Y n Hd B ι a w hB hR hJ Q hq
    exact wpIn_region_list (qbi hT Y ops.toList hR hJ h (fun s' g' Hd' ι' a' w' k1 k2 k3 k4 => hq .normal s' g' Hd' ι' a' w' k4 k2 k1 k3))
  · exact q4l.of (q48 hT _ s _ h)
 | seq p q ihp ihq =>
  intro s g K h Y n Hd B ι a w hB hR hJ Q hq
  refine wpIn_seq (ihp s g _ h Y n Hd B ι a w hB hR hJ _ ?_)
  intro e s' g' Hd' ι' a' w' hK hs hR' hJ'
  cases e with
  | normal => exact ihq s' g' K hK Y n Hd' B ι' a' w' (z1f hB hs) hR' hJ' Q (fun e2 s2 g2 Hd2 ι2 a2 w2 k1 k2 k3 k4 => hq e2 s2 g2 Hd2 ι2 a2 w2 k1 (z1f hs k2) k3 k4)
  | exit id => exact hq (.exit id) s' g' Hd' ι' a' w' hK hs hR' hJ'
  | ret => exact hq .ret s' g' Hd' ι' a' w' hK hs hR' hJ'
 | cond c p q ihp ihq =>
  intro s g K h Y n Hd B ι a w hB hR hJ Q hq
  unfold q4p at h
  split at h <;> try exact h.elim
  rename_i t ht
  have hc := hR.ev c
  rw [ht] at hc
  refine wpIn_cond_split (t := t) hc (fun e => ?_) (fun e => ?_)
  · exact ihp s g K (h.1 e) Y n Hd B ι a w hB hR hJ Q hq
  · exact ihq s g K (h.2 e) Y n Hd B ι a w hB hR hJ Q hq
 | block id c ih =>
  intro s g K h Y n Hd B ι a w hB hR hJ Q hq
  refine wpIn_block (ih s g _ h Y n Hd B ι a w hB hR hJ _ ?_)
  intro e s' g' Hd' ι' a' w' hK hs hR' hJ'
  cases e with
  | normal => exact hq .normal s' g' Hd' ι' a' w' hK hs hR' hJ'
  | exit id' =>
   simp only [AExit.inBlockY] at hK
   simp only [AExit.to, Exit.inBlock]
   split at hK
   · rename_i hid; rw [if_pos hid]; exact hq .normal s' g' Hd' ι' a' w' hK hs hR' hJ'
   · rename_i hid; rw [if_neg hid]; exact hq (.exit id') s' g' Hd' ι' a' w' hK hs hR' hJ'
  | ret => exact hq .ret s' g' Hd' ι' a' w' hK hs hR' hJ'
 | exit id => intro s g K h; exact q4l.of (q82 hT (.exit id) s _ h)
 | ret => intro s g K h; exact q4l.of (q82 hT .ret s _ h)
 | loop c _ => intro s g K h; exact h
 | rangeFunc f ps asg bd _ _ => intro s g K h; exact h
 | scope c _ => intro s g K h; exact h
 | label l => intro s g K h; exact h
 | goto l => intro s g K h; exact h
 | refuse w => intro s g K h; exact h
def goYE (P : Program) (T : TypeId → Option TI) (L : Nat) {Γ : Type} (al : Γ → List AV → Prop) (an : Γ → List AV → Bool → Γ) (y : Value) (yl : Bool) : List Fr → AExit → St → Γ → (AExit → St → Γ → Prop) → Prop
 | [], e, s, g, K => K e s g
 | .code c :: k, .normal, s, g, K => q4p P T L al an y yl c s g (fun e s' g' => goYE P T L al an y yl k e s' g' K)
 | .ops a l :: k, .normal, s, g, K => opsY P T L al an y a l s g (fun s' g' => goYE P T L al an y yl k .normal s' g' K)
 | .blk _ :: k, .normal, s, g, K => goYE P T L al an y yl k .normal s g K
 | .blk id :: k, .exit id', s, g, K => if id' = id then goYE P T L al an y yl k .normal s g K else goYE P T L al an y yl k (.exit id') s g K
 | _ :: k, .exit id, s, g, K => goYE P T L al an y yl k (.exit id) s g K
 | _ :: k, .ret, s, g, K => goYE P T L al an y yl k .ret s g K
def goY (P : Program) (T : TypeId → Option TI) (L : Nat) {Γ : Type} (al : Γ → List AV → Prop) (an : Γ → List AV → Bool → Γ) (y : Value) (yl : Bool) (k : List Fr) (s : St) (g : Γ) (K : AExit → St → Γ → Prop) : Prop :=
 goYE P T L al an y yl k .normal s g K
def q75 (P : Program) (T : TypeId → Option TI) (L : Nat) {Γ : Type} (al : Γ → List AV → Prop) (an : Γ → List AV → Bool → Γ) (y : Value) (yl : Bool) (id : Nat) (k : List Fr) (s : St) (g : Γ) (K : AExit → St → Γ → Prop) : Prop :=
 goYE P T L al an y yl k (.exit id) s g K
def yK (P : Program) (T : TypeId → Option TI) (L : Nat) {Γ : Type} (al : Γ → List AV → Prop) (an : Γ → List AV → Bool → Γ) (y : Value) (yl : Bool) (k : List Fr) (g : Γ) (K : AExit → St → Γ → Prop) (e : AExit) (s : St) : Prop :=
 goYE P T L al an y yl k e s g K
def qd2 (P : Program) (T : TypeId → Option TI) (L : Nat) {Γ : Type} (al : Γ → List AV → Prop) (an : Γ → List AV → Bool → Γ) (y : Value) (yl : Bool) (v : AV) (p q : Code) (k : List Fr) (s : St) (g : Γ) (K : AExit → St → Γ → Prop) : Prop :=
 match v with
 | .v (.bool t) => (t = true → goY P T L al an y yl (.code p :: k) s g K) ∧ (t = false → goY P T L al an y yl (.code q :: k) s g K)
 | _ => False
def qbl (P : Program) (T : TypeId → Option TI) (L : Nat) {Γ : Type} (al : Γ → List AV → Prop) (an : Γ → List AV → Bool → Γ) (y : Value) (yl : Bool) (c : Code) (k : List Fr) (s : St) (g : Γ) (K : AExit → St → Γ → Prop) : Prop :=
 q4l P L al an y c s g (fun e s' g' => goYE P T L al an y yl k e s' g' K)
def contY (P : Program) (T : TypeId → Option TI) (L : Nat) {Γ : Type} (al : Γ → List AV → Prop) (an : Γ → List AV → Bool → Γ) (y : Value) (yl : Bool) (r : Step) (d : Option Tmp) (a : Array Oper) (rest : List Oper) (k : List Fr) (g : Γ) (K : AExit → St → Γ → Prop) : Prop :=
 qhe r (fun x s' => goY P T L al an y yl (.ops a rest :: k) (s'.put d x) g K)
def qjy (P : Program) (T : TypeId → Option TI) (L : Nat) {Γ : Type} (al : Γ → List AV → Prop) (an : Γ → List AV → Bool → Γ) (y : Value) (yl : Bool) (fv : AV) (f : Operand) (args : List Operand) (d : Option Tmp) (a : Array Oper) (rest : List Oper) (k : List Fr) (s : St) (g : Γ) (K : AExit → St → Γ → Prop) : Prop :=
 match fv with
 | .v v => v = y ∧ al g (evs s args) ∧ ∀ b, goY P T L al an y yl (.ops a rest :: k) (s.put d (.v (.bool b))) (an g (evs s args) b) K
 | _ => q8i P L f args s (fun x s' => goY P T L al an y yl (.ops a rest :: k) (s'.put d x) g K)
def opYK (P : Program) (T : TypeId → Option TI) (L : Nat) {Γ : Type} (al : Γ → List AV → Prop) (an : Γ → List AV → Bool → Γ) (y : Value) (yl : Bool) (c : Option (Operand × Array Operand)) (o : Op) (d : Option Tmp) (a : Array Oper) (rest : List Oper) (k : List Fr) (s : St) (g : Γ) (K : AExit → St → Γ → Prop) : Prop :=
 match c with
 | some (f, args) => qjy P T L al an y yl (s.ev f) f args.toList d a rest k s g K
 | none => contY P T L al an y yl (qbh P T L o s) d a rest k g K
def q5x (P : Program) (T : TypeId → Option TI) (L : Nat) {Γ : Type} (al : Γ → List AV → Prop) (an : Γ → List AV → Bool → Γ) (y : Value) (yl : Bool) (gd : AV) (i : Nat) (want : Bool) (o : Op) (d : Option Tmp) (a : Array Oper) (rest : List Oper) (k : List Fr) (s : St) (g : Γ) (K : AExit → St → Γ → Prop) : Prop :=
 match gd with
 | .v (.bool c) => (c = want → opYK P T L al an y yl (q1g o) o d a rest k { s with tmps := s.tmps.set i (.v (.bool want)) } g K) ∧
  (c = !want → goY P T L al an y yl (.ops a rest :: k) (({ s with tmps := s.tmps.set i (.v (.bool !want)) } : St).put d (.v undef)) g K)
 | .v (.tuple _) => goY P T L al an y yl (.ops a rest :: k) (s.put d (.v undef)) g K
 | _ => False
def qlw (P : Program) (T : TypeId → Option TI) (L : Nat) {Γ : Type} (al : Γ → List AV → Prop) (an : Γ → List AV → Bool → Γ) (y : Value) (yl : Bool) (gd : Option Tmp) (want : Bool) (o : Op) (d : Option Tmp) (a : Array Oper) (rest : List Oper) (k : List Fr) (s : St) (g : Γ) (K : AExit → St → Γ → Prop) : Prop :=
 match gd with
 | some i => q5x P T L al an y yl (s.tmps.getD i .any) i want o d a rest k s g K
 | none => False
section rules
variable {k : List Fr} {s : St} {g : Γ} {K : AExit → St → Γ → Prop} {yl : Bool}
theorem goY_nil : goY P T L al an y yl [] s g K = K .normal s g := _root_.id rfl
theorem goY_skip : goY P T L al an y yl (.code .skip :: k) s g K = goY P T L al an y yl k s g K := _root_.id rfl
theorem qvx {d : Bool} : goY P T L al an y false (.code (.region id ops d) :: k) s g K = go P T L [.code (.region id ops d)] s (yK P T L al an y false k g K) := _root_.id rfl
theorem qt2 : goY P T L al an y true (.code (.region id ops false) :: k) s g K = goY P T L al an y true (.ops ops ops.toList :: k) s g K := _root_.id rfl
theorem goY_seq : goY P T L al an y yl (.code (.seq p q) :: k) s g K = goY P T L al an y yl (.code p :: .code q :: k) s g K := by
 show q4p P T L al an y yl p s g _ = q4p P T L al an y yl p s g _
 congr 1
 funext e s' g'
 cases e <;> rfl
theorem goY_cond {c : Operand} : goY P T L al an y yl (.code (.cond c p q) :: k) s g K = qd2 P T L al an y yl (s.ev c) p q k s g K := _root_.id rfl
theorem qws : goY P T L al an y yl (.code (.block id c) :: k) s g K = goY P T L al an y yl (.code c :: .blk id :: k) s g K := by
 show q4p P T L al an y yl c s g _ = q4p P T L al an y yl c s g _
 congr 1
 funext e s' g'
 cases e <;> rfl
theorem goY_blk : goY P T L al an y yl (.blk id :: k) s g K = goY P T L al an y yl k s g K := _root_.id rfl
theorem goY_exit : goY P T L al an y yl (.code (.exit id) :: k) s g K = q75 P T L al an y yl id k s g K := _root_.id rfl
theorem q85 : ∀ (k : List Fr) (s : St) (g : Γ) (K : AExit → St → Γ → Prop), goYE P T L al an y yl k .ret s g K = K .ret s g
 | [], s, g, K => rfl
 | .code c :: k, s, g, K => q85 k s g K
 | .ops a l :: k, s, g, K => q85 k s g K
 | .blk id :: k, s, g, K => q85 k s g K
theorem goY_ret : goY P T L al an y yl (.code .ret :: k) s g K = K .ret s g := q85 k s g K
theorem goY_loop : goY P T L al an y yl (.code (.loop c) :: k) s g K = qbl P T L al an y yl (.loop c) k s g K := _root_.id rfl
theorem qyl {ps : Array Tmp} : goY P T L al an y yl (.code (.rangeFunc f ps p q) :: k) s g K = qbl P T L al an y yl (.rangeFunc f ps p q) k s g K := _root_.id rfl
theorem qwb : q75 P T L al an y yl id (.code c :: k) s g K = q75 P T L al an y yl id k s g K := _root_.id rfl
theorem qyz {l : List Oper} : q75 P T L al an y yl id (.ops a l :: k) s g K = q75 P T L al an y yl id k s g K := _root_.id rfl
theorem qzc {id' : Nat} : q75 P T L al an y yl id (.blk id' :: k) s g K = if id = id' then goY P T L al an y yl k s g K else q75 P T L al an y yl id k s g K := _root_.id rfl
theorem qzd : q75 P T L al an y yl id [] s g K = K (.exit id) s g := _root_.id rfl
theorem qrc : goY P T L al an y yl (.ops a [] :: k) s g K = goY P T L al an y yl k s g K := _root_.id rfl
theorem opY_eq : opY P T L al an y o s g (fun x s' g' => goY P T L al an y yl (.ops a rest :: k) (s'.put d x) g' K) = opYK P T L al an y yl (q1g o) o d a rest k s g K := by
 unfold opY opYK qjy
 cases q1g o with
 | none => rfl
 | some fa =>
  rfl
theorem goY_op {ty : TypeId} {pos : String} {af : Array Edge} :
 goY P T L al an y yl (.ops a (⟨d, o, ty, pos, af, none⟩ :: rest) :: k) s g K = opYK P T L al an y yl (q1g o) o d a rest k s g K := opY_eq
theorem qy1 {ty : TypeId} {pos : String} {af : Array Edge} {j : Nat} :
 goY P T L al an y yl (.ops a (⟨d, o, ty, pos, af, some (j, want)⟩ :: rest) :: k) s g K = qlw P T L al an y yl ((a[j]?).bind (·.dst)) want o d a rest k s g K := by
 show opsY P T L al an y a _ s g _ = _
 unfold opsY qlw
 simp only
 cases (a[j]?).bind (·.dst) with
 | none => rfl
 | some i =>
  simp only
  unfold q5x
  cases s.tmps.getD i .any with
  | v x =>
   cases x with
   | bool c =>
    simp only
    rw [← opY_eq]; rfl
   | _ => rfl
  | _ => rfl
theorem qq1 {i : Tmp} : qlw P T L al an y yl (some i) want o d a rest k s g K = q5x P T L al an y yl (s.tmps.getD i .any) i want o d a rest k s g K := _root_.id rfl
theorem guardY_u {t : Array Value} {i : Tmp} : q5x P T L al an y yl (.v (.tuple t)) i want o d a rest k s g K = goY P T L al an y yl (.ops a rest :: k) (s.put d (.v undef)) g K := _root_.id rfl
theorem qyx : opYK P T L al an y yl none o d a rest k s g K = contY P T L al an y yl (qbh P T L o s) d a rest k g K := _root_.id rfl
theorem qze {args : Array Operand} : opYK P T L al an y yl (some (f, args)) o d a rest k s g K = qjy P T L al an y yl (s.ev f) f args.toList d a rest k s g K := _root_.id rfl
theorem qwg {C : Prop} {x : AV} {s' : St} : contY P T L al an y yl (some (C, x, s')) d a rest k g K = (C ∧ goY P T L al an y yl (.ops a rest :: k) (s'.put d x) g K) := _root_.id rfl
theorem qt3 {v : Value} {args : List Operand} : qjy P T L al an y yl (.v v) f args d a rest k s g K =
 (v = y ∧ al g (evs s args) ∧ ∀ b, goY P T L al an y yl (.ops a rest :: k) (s.put d (.v (.bool b))) (an g (evs s args) b) K) := _root_.id rfl
theorem qyd {args : List Operand} {h : FuncId} {caps argv : List AV} {R : AV → Prop} (hc : q08 P h argv R) (hf : s.ev f = .fn h caps) (ha : evs s args ++ caps = argv) (hp : q18 argv = true) (ho : q0z (evs s args) = []) (hk : ∀ x, R x → goY P T L al an y yl (.ops a rest :: k) (s.put d x) g K) : qjy P T L al an y yl (.fn h caps) f args d a rest k s g K := by
 subst ha
 show q8i P L f args s (fun x s' => goY P T L al an y yl (.ops a rest :: k) (s'.put d x) g K)
 right; left
 unfold q6i
 rw [hf]
 left
 show ACall P h s.mem (args.map s.ev ++ caps) (fun x m => goY P T L al an y yl (.ops a rest :: k) (({ s with mem := m } : St).put d x) g K)
 rw [← q4d]
 exact hc.use hp hk
theorem qwk : yK P T L al an y yl k g K .normal s = goY P T L al an y yl k s g K := _root_.id rfl
theorem yK_exit : yK P T L al an y yl k g K (.exit id) s = q75 P T L al an y yl id k s g K := _root_.id rfl
theorem yK_ret : yK P T L al an y yl k g K .ret s = K .ret s g := q85 k s g K
end rules
end
