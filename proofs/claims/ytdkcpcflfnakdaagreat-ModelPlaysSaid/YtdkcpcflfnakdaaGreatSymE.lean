/- A text of the walk that proves a law of this seat; joined by a program. -/
import Derived.Test.YtdkcpcflfnakdaaGreatSymD
set_option linter.unusedSimpArgs false
set_option linter.unusedVariables false
namespace Go.Proofs.YtdkcpcflfnakdaaGreat.Sym
open Go Go.RowKit
variable {L : Nat} {Hd : Nat → Prop}
variable {B : Nat} {K : AV → St → Prop} {P : Program} {T : TypeId → Option TI} {a : Act} {s : St} {t : TypeId} {w : World} {x : AV} {xv : Value} {ι : Loc}
def qg6 (T : TypeId → Option TI) (t : TypeId) (parts : List (Nat × AV)) (s : St) (K : AV → St → Prop) : Prop :=
  match T t with
  | some ti => match ti.desc with
    | .struct fs => qf6 (fun (i : Nat) => (fs[i]?).bind fun (f : Field) => (T f.type).map fun fi => (f.offset, fi.size)) (ti.zero.map .v) parts (fun cs => K (.agg cs) s)
    | .array _ e => match T e with
      | some te => qf6 (fun i => some (i * te.size, te.size)) (ti.zero.map .v) parts (fun cs => K (.agg cs) s)
      | none => False
    | _ => False
  | none => False
def qja (T : TypeId → Option TI) (fs : Array Field) : Prop := ∀ f ∈ fs.toList, ∃ fi, T f.type = some fi
theorem qkf {P : Program} {T : TypeId → Option TI} (hT : TyOk P T) {w : World} : ∀ (fs : List Field), (∀ f ∈ fs, ∃ fi, T f.type = some fi) →
    (fs.mapM fun f => do pure (f.offset, ← sizeOf f.type) : Sem (List (Nat × Nat))).run P w = .ok (fs.map fun f => (f.offset, ((T f.type).map (·.size)).getD 0)) w
  | [], _ => by simp
  | f :: fs, h => by
    obtain ⟨fi, hfi⟩ := h f (by simp)
    have ih := qkf hT (w := w) fs (fun g hg => h g (by simp [hg]))
    simp only [z5x, z0s, q10 hT hfi, z0b, z15, ih, z0r, hfi, z19, z3x]
theorem qp6 (hT : TyOk P T) (h : Rel Hd B ι s a w) {parts : Array (Nat × Operand)} (hF : ∀ ti fs, T t = some ti → ti.desc = .struct fs → qja T fs) (hK : qg6 T t (parts.toList.map fun (i, x) => (i, s.ev x)) s K) : Out P Hd L B ι a w (Instr.build t (parts.map fun (i, x) => (i, a.eval x))) isV K := by
  unfold qg6 at hK
  split at hK <;> try exact hK.elim
  rename_i ti ht
  obtain ⟨z, hz, hz2⟩ := q3x hT ht w
  have hfst : (parts.toList.map fun (i, x) => (i, s.ev x)).map Prod.fst = ((parts.map fun (i, x) => (i, a.eval x)).toList).map Prod.fst := by
    simp [z3m]
  have hsnd : rels Hd ι w ((parts.toList.map fun (i, x) => (i, s.ev x)).map Prod.snd) (((parts.map fun (i, x) => (i, a.eval x)).toList).map Prod.snd) := by
    simp only [z52, z3f, z3m]
    generalize parts.toList = l
    induction l with
    | nil => rfl
    | cons p l ih => exact ⟨_, _, rfl, h.ev _, ih⟩
  have hzr : rels Hd ι w (ti.zero.map .v) z.cells.toList := by rw [hz2]; exact qar.2 rfl
  split at hK <;> try exact hK.elim
  · rename_i fs hd
    obtain ⟨cells', vs', h1, h2, h3, h4⟩ := qeu _ _ _ _ z.cells _ hzr hfst hsnd hK
    refine Out.mk' h h4 (y := .agg vs') ?_ ⟨vs'.toList, by simp, h2⟩
    have hpl : (fs.mapM fun f => do pure (f.offset, ← sizeOf f.type) : Sem (Array (Nat × Nat))).run P w = .ok ((fs.toList.map fun (f : Field) => (f.offset, ((T f.type).map (·.size)).getD 0)).toArray) w := by
      have := qkf hT (w := w) fs.toList (hF ti fs ht hd)
      rw [← z1s (xs := fs), z5l]
      simp only [Sem.run_map, this, z0b]
    have hfun : (fun x => ((fs.toList.map fun (f : Field) => (f.offset, ((T f.type).map (·.size)).getD 0)).toArray)[x]?) = (fun (i : Nat) => (fs[i]?).bind fun (f : Field) => (T f.type).map fun fi => (f.offset, fi.size)) := by
      funext i
      simp only [z0k, z11, z3d]
      cases hfi : fs[i]? with
      | none => rfl
      | some f =>
        obtain ⟨fi, hh⟩ := hF ti fs ht hd f (by
          have := z1t.1 hfi
          obtain ⟨hlt, rfl⟩ := this
          simp)
        simp [hh]
    simp only [Instr.build, z0s, hz, z0b, run_underlying hT ht, hd, hpl]
    rw [hfun, h1]
    rfl
  · rename_i n e hd
    split at hK <;> try exact hK.elim
    rename_i te hte
    obtain ⟨cells', vs', h1, h2, h3, h4⟩ := qeu _ _ _ _ z.cells _ hzr hfst hsnd hK
    refine Out.mk' h h4 (y := .agg vs') ?_ ⟨vs'.toList, by simp, h2⟩
    simp only [Instr.build, z0s, hz, z0b, run_underlying hT ht, hd, q10 hT hte]
    rw [h1]
    rfl
def qcc (x : AV) (i : Nat) (s : St) (K : AV → St → Prop) : Prop :=
  match x with
  | .tup xs => match xs[i]? with
    | some y => K y s
    | none => False
  | _ => False
theorem qmb (h : Rel Hd B ι s a w) {i : Nat} (hx : rel Hd ι w x xv) (hK : qcc x i s K) : Out P Hd L B ι a w (Instr.extract xv i) isV K := by
  unfold qcc at hK
  split at hK <;> try exact hK.elim
  split at hK <;> try exact hK.elim
  rename_i xs y hy
  obtain ⟨vs, rfl, hr⟩ := hx
  obtain ⟨v, h1, h2⟩ := q9r hr hy
  refine Out.mk' h hK ?_ h2
  simp [Instr.extract, h1]
def abin (P : Program) (op : BinOp) (t : TypeId) (xo yo : Operand) (x y : AV) (s : St) (K : AV → St → Prop) : Prop :=
  match op, x, y with
  | .add, .v (.int k m), .v (.int k' n) => k = k' ∧ K (.v (.int k (k.wrap (m + n)))) s
  | .sub, .v (.int k m), .v (.int k' n) => k = k' ∧ K (.v (.int k (k.wrap (m - n)))) s
  | .mul, .v (.int k m), .v (.int k' n) => k = k' ∧ K (.v (.int k (k.wrap (m * n)))) s
  | .quo, .v (.int k m), .v (.int k' n) => k = k' ∧ n ≠ 0 ∧ K (.v (.int k (k.wrap (m.tdiv n)))) s
  | .rem, .v (.int k m), .v (.int k' n) => k = k' ∧ n ≠ 0 ∧ K (.v (.int k (m.tmod n))) s
  | .eql, .v (.int k m), .v (.int k' n) => k = k' ∧ K (.v (.bool (m == n))) s
  | .neq, .v (.int k m), .v (.int k' n) => k = k' ∧ K (.v (.bool (m != n))) s
  | .lss, .v (.int k m), .v (.int k' n) => k = k' ∧ K (.v (.bool (decide (m < n)))) s
  | .leq, .v (.int k m), .v (.int k' n) => k = k' ∧ K (.v (.bool (decide (m ≤ n)))) s
  | .gtr, .v (.int k m), .v (.int k' n) => k = k' ∧ K (.v (.bool (decide (n < m)))) s
  | .geq, .v (.int k m), .v (.int k' n) => k = k' ∧ K (.v (.bool (decide (n ≤ m)))) s
  | op, x, y => match aval x, aval y with
    | some u, some v => ∃ r, (∀ w, (do eqGuard op t xo yo u v; binOp op t u v : Sem Value).run P w = .ok r w) ∧ K (.v r) s
    | _, _ => False
theorem qis (op : BinOp) (t : TypeId) (xo yo : Operand) (k k' : IntKind) (m n : Int) : (eqGuard op t xo yo (.int k m) (.int k' n)).run P w = .ok () w := by
  unfold eqGuard
  cases op <;> simp
theorem qv0 (h : Rel Hd B ι s a w) {op : BinOp} {xo yo : Operand} {y : AV} {yv : Value} (hx : rel Hd ι w x xv) (hy : rel Hd ι w y yv) (hK : abin P op t xo yo x y s K) : Out P Hd L B ι a w (do eqGuard op t xo yo xv yv; binOp op t xv yv : Sem Value) isV K := by
  unfold abin at hK
  split at hK
  case h_12 =>
    split at hK <;> try exact hK.elim
    rename_i u v hu hv
    obtain ⟨r, h1, h2⟩ := hK
    rw [q81 hx hu, q81 hy hv]
    exact Out.mk' h h2 (h1 w) q1n
  all_goals
    cases hx; cases hy
    obtain ⟨rfl, hK⟩ := hK
    first
      | exact Out.mk' h hK.2 (by simp [qis, binOp, Op.intDiv, hK.1]) q1n
      | exact Out.mk' h hK (by simp [qis, binOp, Op.intArith, Op.intCmp]) q1n
def qky (P : Program) (op : UnOp) (x : AV) (s : St) (K : AV → St → Prop) : Prop :=
  match op, x with
  | .not, .v (.bool b) => K (.v (.bool (!b))) s
  | op, x => match aval x with
    | some u => ∃ r, (∀ w, (Op.unary op u).run P w = .ok r w) ∧ K (.v r) s
    | none => False
theorem qpw (h : Rel Hd B ι s a w) {op : UnOp} (hx : rel Hd ι w x xv) (hK : qky P op x s K) : Out P Hd L B ι a w (Op.unary op xv) isV K := by
  unfold qky at hK
  split at hK
  · cases hx
    exact Out.mk' h hK (by simp [Op.unary]) q1n
  · split at hK <;> try exact hK.elim
    rename_i u hu
    obtain ⟨r, h1, h2⟩ := hK
    rw [q81 hx hu]
    exact Out.mk' h h2 (h1 w) q1n
def q9h (P : Program) (T : TypeId → Option TI) (src dst : TypeId) (x : AV) (s : St) (K : AV → St → Prop) : Prop :=
  match aval x with
  | some (.int k n) => match T src, T dst with
    | some si, some di => match di.desc with
      | .int k' => K (.v (.int k' (k'.wrap n))) s
      | _ => False
    | _, _ => False
  | some u => ∃ r, (∀ w, (convert src dst u).run P w = .ok r w) ∧ K (.v r) s
  | none => False
theorem qm1 (hT : TyOk P T) (h : Rel Hd B ι s a w) {src dst : TypeId} (hx : rel Hd ι w x xv) (hK : q9h P T src dst x s K) : Out P Hd L B ι a w (convert src dst xv) isV K := by
  unfold q9h at hK
  split at hK
  · rename_i k n hu
    rw [q81 hx hu]
    split at hK <;> try exact hK.elim
    rename_i si di hs hd
    split at hK <;> try exact hK.elim
    rename_i k' hdd
    refine Out.mk' h hK ?_ q1n
    simp only [convert, z0s, run_underlying hT hs, run_underlying hT hd, z0b, hdd]
    cases si.desc <;> rfl
  · rename_i u _ hu
    obtain ⟨r, h1, h2⟩ := hK
    rw [q81 hx hu]
    exact Out.mk' h h2 (h1 w) q1n
  · exact hK.elim
def qgn (P : Program) (T : TypeId → Option TI) (t : TypeId) (x i : AV) (s : St) (K : AV → St → Prop) : Prop :=
  match T t with
  | some ti => match i with
    | .v (.int _ n) => match ti.desc, x with
      | .string, .v (.string b) => ∃ h : 0 ≤ n ∧ n.toNat < b.size, K (.v (.int .u8 (b[n.toNat]'h.2).toNat)) s
      | .array len e, .agg cs => match T e with
        | some te => (0 ≤ n ∧ n < len) ∧ apart T e cs (n.toNat * te.size) (fun y => K y s)
        | none => False
      | _, _ => False
    | _ => False
  | none => False
theorem qpn (hT : TyOk P T) (h : Rel Hd B ι s a w) {i : AV} {iv : Value} (hx : rel Hd ι w x xv) (hi : rel Hd ι w i iv) (hK : qgn P T t x i s K) : Out P Hd L B ι a w (Instr.index t xv iv) isV K := by
  unfold qgn at hK
  split at hK <;> try exact hK.elim
  rename_i ti ht
  split at hK <;> try exact hK.elim
  rename_i k n
  cases hi
  split at hK <;> try exact hK.elim
  · rename_i b hd
    obtain ⟨hn, hK⟩ := hK
    cases hx
    refine Out.mk' h hK ?_ q1n
    simp only [Instr.index, asIntOf, z0s, z15, z0b, run_underlying hT ht, hd, hn.1, if_true]
    rw [getElem?_pos b n.toNat hn.2]
    simp
  · rename_i len e cs hd
    split at hK <;> try exact hK.elim
    rename_i te hte
    obtain ⟨hn, hK⟩ := hK
    obtain ⟨vs, rfl, hr⟩ := hx
    obtain ⟨x', y, h1, h2, h3⟩ := qdj (P := P) hT hr hK
    refine Out.mk' h h3 ?_ h2
    simp only [Instr.index, asIntOf, z0s, z15, z0b, run_underlying hT ht, hd, hn, and_self, if_true, q10 hT hte, h1]
