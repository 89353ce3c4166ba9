/- A text of the walk that proves a law of this seat; joined by a program. -/
import Derived.Test.YtdkcpcflfnakdaaGreatSymHe
import Derived.RangeFuncCalls
import Derived.RangeFuncLeaves
import Derived.TacticsIn
import Derived.OrdersIn
set_option linter.unusedSimpArgs false
set_option linter.unusedVariables false
namespace Go.Proofs.YtdkcpcflfnakdaaGreat.Sym
open Go Go.RowKit
variable {L : Nat} {Hd : Nat → Prop}
variable {c : Call} {f : Operand} {o : Oper} {t : TypeId} {x : AV}
theorem qpy {P : Program} {T : TypeId → Option TI} (hT : TyOk P T) {B : Nat} {ι : Loc} {s : St} {a : Act} {w : World} {K : AV → St → Prop} (h : Rel Hd B ι s a w) {xv : Value} {lo hi mx : Option Operand} (hx : rel Hd ι w x xv) (hK : qe4 T t x (lo.map s.ev) (hi.map s.ev) (mx.map s.ev) s K) (hns : ∀ ti n e, T t = some ti → ti.desc ≠ .array n e) : Out P Hd L B ι a w (Instr.sliceAt t xv (lo.map a.eval) (hi.map a.eval) (mx.map a.eval)) isV K := by
 unfold qe4 at hK
 cases mx with
 | some m => simp at hK
 | none =>
  simp only [z5u] at hK ⊢
  cases ht : T t with
  | none => simp [ht] at hK
  | some ti =>
   simp only [ht] at hK
   have bnd : ∀ (o : Option Operand) (d y : Nat) (code : BoundsCode) (K' : Nat → Prop), q8x (o.map s.ev) d K' →
    ∃ n, K' n ∧ (o = none → n = d) ∧ (n ≤ y → ∀ v, o.map a.eval = some v → (Instr.sliceBound v y code).run P w = .ok n w) := by
    intro o d y code K' hb
    cases o with
    | none => exact ⟨d, hb, fun _ => rfl, fun _ v hv => by cases hv⟩
    | some op =>
     obtain ⟨n, h1, h2⟩ := qmg (P := P) (w := w) (h.ev op) (y := y) (code := code) (K := K') (d := d) hb
     exact ⟨n, h1, (fun e => by cases e), (fun hy v hv => by cases hv; exact h2 hy)⟩
   split at hK <;> try exact hK.elim
   · rename_i b hd
     cases hx
     obtain ⟨hh, hK, hh0, hhr⟩ := bnd hi b.size b.size .sliceAlen _ hK
     obtain ⟨ll, ⟨⟨hle1, hle2⟩, hK⟩, hl0, hlr⟩ := bnd lo 0 hh .sliceB _ hK
     refine Out.mk' h hK ?_ q1n
     simp only [Instr.sliceAt, z0s, run_underlying hT ht, z0b, hd, Instr.slice, Instr.sliceBounds, z15, z33, z0n, if_false]
     cases hi with
     | none =>
      obtain rfl := hh0 rfl
      cases lo with
      | none => obtain rfl := hl0 rfl; simp
      | some l => simp [hlr hle1 _ rfl]
     | some hx' =>
      have h1 := hhr hle2 _ rfl
      cases lo with
      | none => obtain rfl := hl0 rfl; simp [h1]
      | some l => simp [h1, hlr hle1 _ rfl]
   · rename_i e sz xs hd
     split at hK <;> try exact hK.elim
     rename_i te hte
     obtain ⟨rfl, hK⟩ := hK
     obtain ⟨hpu, ad, cap, vs, rfl, hc, hr, hm⟩ := hx
     obtain ⟨hh, hK, hh0, hhr⟩ := bnd hi xs.length cap .sliceAcap _ hK
     obtain ⟨ll, ⟨⟨hle1, hle2⟩, hK⟩, hl0, hlr⟩ := bnd lo 0 hh .sliceB _ hK
     have hlen : ((xs.take hh).drop ll).length = hh - ll := by simp; omega
     have hpu' := q25 (q2e hpu hh) ll
     have hrr := q1u ll (q2c hh hr)
     refine Out.mk' h hK (y := .slice (if cap = ll then ad else ad.map (·.add (ll * te.size))) (hh - ll) (cap - ll)) ?_ ⟨hpu', _, cap - ll, (vs.take hh).drop ll, by rw [hlen], by rw [hlen]; omega, hrr, ?_⟩
     · simp only [Instr.sliceAt, z0s, run_underlying hT ht, z0b, hd, Instr.slice, Instr.sliceBounds, z15, z33, z0n, if_false]
       cases hi with
       | none =>
        obtain rfl := hh0 rfl
        cases lo with
        | none => obtain rfl := hl0 rfl; simp [q10 hT hte]
        | some l => simp [hlr hle1 _ rfl, q10 hT hte]
       | some hx' =>
        have h1 := hhr (by omega) _ rfl
        cases lo with
        | none => obtain rfl := hl0 rfl; simp [h1, q10 hT hte]
        | some l => simp [h1, hlr hle1 _ rfl, q10 hT hte]
     · rcases hm with rfl | ⟨r, off, rfl, him, hrow⟩
       · exact .inl (by simp)
       · by_cases hz : (xs.take hh).drop ll = []
         · exact .inl hz
         · have : ll < hh := by
            apply z2k
            intro hge
            exact hz (z1a (by rw [hlen]; omega))
           refine .inr ⟨r, off + ll * te.size, ?_, him, ?_⟩
           · rw [if_neg (by omega)]; simp [q6s]
           · have := q20.drop_take hrow ll (hh - ll)
             rwa [List.take_drop, show ll + (hh - ll) = hh by omega] at this
def qdy (P : Program) (g : FuncId) : Prop := ∃ fn, P.funcs[g]? = some fn ∧ fn.body.isNone = false ∧ (fn.name == "runtime.NumGoroutine") = false
def ACall (P : Program) (g : FuncId) (m : List AB) (args : List AV) (K : AV → List AB → Prop) : Prop :=
 qdy P g ∧ ∀ (Hd : Nat → Prop) (ι : Loc) (w : World) (vs : List Value), Rel Hd 0 ι ⟨args, m⟩ ⟨vs.toArray, []⟩ w →
  Calls P g vs.toArray w fun e w' => ∃ y x ι' m', e = .returned y ∧ Rel Hd 0 ι' ⟨[x], m'⟩ ⟨#[y], []⟩ w' ∧ (∀ L, Ext L ι w ι' w') ∧ K x m'
def q0j (P : Program) (N : Nat) (g : FuncId) (m : List AB) (args : List AV) (K : AV → List AB → Prop) : Prop :=
 qdy P g ∧ ∀ (Hd : Nat → Prop) (ι : Loc) (w : World) (vs : List Value), Rel Hd 0 ι ⟨args, m⟩ ⟨vs.toArray, []⟩ w →
  Calls P g vs.toArray w fun e w' => ∃ y x ι' m', e = .returned y ∧ Rel Hd 0 ι' ⟨[x], m'⟩ ⟨#[y], []⟩ w' ∧ Ext N ι w ι' w' ∧ K x m'
mutual
def bks : AV → List Nat
 | .agg xs => q03 xs
 | .tup xs => q03 xs
 | .own b _ _ _ => [b]
 | .ptr b _ => [b]
 | .ep b _ _ _ => [b]
 | .fn _ caps => q03 caps
 | _ => []
def q03 : List AV → List Nat
 | [] => []
 | x :: xs => bks x ++ q03 xs
end
def q0r (P : Program) (kp : Nat → Bool) (g : FuncId) (m : List AB) (args : List AV) (K : AV → List AB → Prop) : Prop :=
 qdy P g ∧ ∀ (Hd : Nat → Prop) (ι : Loc) (w : World) (vs : List Value), Rel Hd 0 ι ⟨args, m⟩ ⟨vs.toArray, []⟩ w →
  Calls P g vs.toArray w fun e w' => ∃ y x ι' m', e = .returned y ∧ Rel Hd 0 ι' ⟨[x], m'⟩ ⟨#[y], []⟩ w' ∧ Ext 0 ι w ι' w' ∧ (∀ (b : Nat) (o : Option Nat), kp b = true → ι[b]? = some o → ι'[b]? = some o) ∧ K x m'
def cutV (kp : Nat → Bool) (x : AV) : AV := if (bks x).all kp = true then x else .any
def qbg (kp : Nat → Bool) : List AV → List AV
 | [] => []
 | x :: xs => cutV kp x :: qbg kp xs
mutual
theorem qjs {ι : Loc} {w : World} : ∀ (x : AV) (y : Value), rel Hd ι w x y → ∀ b ∈ x.refs, b ∈ bks x
 | .v _, _, _, b, hb => by simp [AV.refs] at hb
 | .agg xs, _, h, b, hb => by obtain ⟨vs, rfl, h⟩ := h; exact q62 xs vs h b hb
 | .tup xs, _, h, b, hb => by obtain ⟨vs, rfl, h⟩ := h; exact q62 xs vs h b hb
 | .sl sz xs, _, h, b, hb => by rw [AV.refs, h.1] at hb; cases hb
 | .rp cs, _, h, b, hb => by rw [AV.refs, h.1] at hb; cases hb
 | .own b' _ _ _, _, h, b, hb => by simpa [AV.refs, bks] using hb
 | .ptr b' _, _, h, b, hb => by simpa [AV.refs, bks] using hb
 | .ep b' _ _ _, _, h, b, hb => by simpa [AV.refs, bks] using hb
 | .fn f caps, _, h, b, hb => by obtain ⟨vs, rfl, h⟩ := h; exact q62 caps vs h b hb
 | .any, _, _, b, hb => by simp [AV.refs] at hb
theorem q62 {ι : Loc} {w : World} : ∀ (xs : List AV) (ys : List Value), rels Hd ι w xs ys → ∀ b ∈ q05 xs, b ∈ q03 xs
 | [], _, _, b, hb => by simp [q05] at hb
 | x :: xs, _, h, b, hb => by
  obtain ⟨y, zs, rfl, h1, h2⟩ := h
  simp only [q05, q03, z0q] at hb ⊢
  exact hb.imp (qjs x y h1 b) (q62 xs zs h2 b)
end
theorem qnq {kp : Nat → Bool} {ι ι' : Loc} {w w' : World} (e : Ext 0 ι w ι' w') (hk : ∀ (b : Nat) (o : Option Nat), kp b = true → ι[b]? = some o → ι'[b]? = some o) (hl : ∀ r : Nat, some r ∈ ι → r < w.heap.size) : ∀ (xs : List AV) (ys : List Value), rels Hd ι w xs ys → rels Hd ι' w' (qbg kp xs) ys
 | [], _, h => h
 | x :: xs, _, h => by
  obtain ⟨y, zs, rfl, h1, h2⟩ := h
  refine ⟨y, zs, rfl, ?_, qnq e hk hl xs zs h2⟩
  unfold cutV
  split
  · rename_i hc
    exact q66 e hl x y (fun b hb o ho => hk b o (z0l.1 hc b (qjs x y h1 b hb)) ho) h1
  · exact True.intro
theorem Rel.places {B : Nat} {ι : Loc} {s : St} {a : Act} {w w' : World} (h : Rel Hd B ι s a w) (k : Nat) (hh : w'.heap = w.heap) (h1 : w'.os = w.os) (h2 : w'.tape = w.tape) (h3 : w'.output = w.output) :
 Rel Hd B (ι ++ List.replicate k none) { s with mem := s.mem ++ List.replicate k .gone } a w' ∧ Ext L ι w (ι ++ List.replicate k none) w' := by
 have hmem : ∀ r : Nat, some r ∈ ι ++ List.replicate k none → some r ∈ ι := fun r hr => by
  rcases z0q.1 hr with hr | hr
  · exact hr
  · exact absurd (z1h hr) (by simp)
 have hk : ∀ (b : Nat) (o : Option Nat), ι[b]? = some o → (ι ++ List.replicate k none)[b]? = some o := fun b o hb => by
  rw [z0j (z08.1 hb).1]; exact hb
 have e : Ext L ι w (ι ++ List.replicate k none) w' := ⟨h1, h2, h3, by rw [hh]; exact z09 _, fun r _ hn => ⟨fun hh => hn (hmem r hh), by rw [hh]⟩, fun r _ => by simp only [World.shape?, hh], fun b o _ hb => hk b o hb⟩
 refine ⟨⟨by simp [h.len], fun r hr => by rw [hh]; exact h.lt r (hmem r hr), ?_, h.ext_tmps e hk, ?_, h.marks.ext e, h.hidExt e, h.glob.ext e⟩, e⟩
 · have key : ∀ (j r : Nat), (ι ++ List.replicate k none)[j]? = some (some r) → ι[j]? = some (some r) := by
    intro j r hj
    by_cases c : j < ι.length
    · rwa [z0j c] at hj
    · rw [z18 (by omega)] at hj
      exact absurd (z1h (z06 hj)) (by simp)
   exact fun i j r hi hj => h.inj i j r (key i r hi) (key j r hj)
 · intro i blk hi
   by_cases c : i < s.mem.length
   · have hi' : s.mem[i]? = some blk := by
      have : (s.mem ++ List.replicate k AB.gone)[i]? = some blk := hi
      rwa [z0j c] at this
     exact q3o e h.lt hk (fun _ _ => by rw [hh]) (h.mem i blk hi')
   · have hi' : (s.mem ++ List.replicate k AB.gone)[i]? = some blk := hi
     rw [z18 (by omega)] at hi'
     rw [z1h (z06 hi')]
     exact True.intro
def q6k (P : Program) (b : Nat) (g : FuncId) (m : List AB) (args : List AV) (blk : AB) (x : AV) : Prop :=
 qdy P g ∧ ∀ (Hd : Nat → Prop) (ι : Loc) (w : World) (vs : List Value), Rel Hd 0 ι ⟨args, m⟩ ⟨vs.toArray, []⟩ w →
  Calls P g vs.toArray w fun e w' => ∃ y ι', e = .returned y ∧ Rel Hd 0 ι' ⟨[x], (m.map (AB.kill b)).set b blk⟩ ⟨#[y], []⟩ w' ∧ Ext 0 ι w ι' w' ∧ (∀ (b' : Nat) (o : Option Nat), b' ≠ b → ι[b']? = some o → ι'[b']? = some o)
def XCall (P : Program) (g : FuncId) (m : List AB) (argv : List AV) (x : AV) : Prop :=
 ∃ fn, P.funcs[g]? = some fn ∧ ∀ (Hd : Nat → Prop) (B : Nat) (ι : Loc) (tm : List AV) (a : Act) (w : World) (vs : List Value), Rel Hd B ι ⟨tm, m⟩ a w → rels Hd ι w argv vs →
  ∃ y, (callFunc g vs.toArray).run P w = .ok (.value y) w ∧ rel Hd ι w x y
def qax (P : Program) (L : Nat) (g : FuncId) (s : St) (argv : List AV) (K : AV → St → Prop) : Prop :=
 ACall P g s.mem argv (fun x m => K x { s with mem := m }) ∨ (∃ kp : Nat → Bool, (∀ b, b < L → kp b = true) ∧ q0r P kp g s.mem argv (fun x m => K x ⟨qbg kp s.tmps, m⟩)) ∨
  (∃ k b blk x, L ≤ b ∧ q6k P b g (s.mem ++ List.replicate k .gone) argv blk x ∧ K x (({ s with mem := s.mem ++ List.replicate k .gone } : St).rehome b blk)) ∨ ∃ x, XCall P g s.mem argv x ∧ K x s
def Wide (F : Fence) : Prop := F = Fence.wide ∨ ∃ l, F = Fence.wide.inRound l
theorem Wide.fn {F : Fence} (h : Wide F) (f : FuncId) : F.fn f := by rcases h with rfl | ⟨l, rfl⟩ <;> exact True.intro
theorem Wide.depth {F : Fence} (h : Wide F) : F.depth = none := by rcases h with rfl | ⟨l, rfl⟩ <;> rfl
theorem Wide.callsIn {F : Fence} (h : Wide F) {n : Nat} {P : Program} {f : FuncId} {args : Array Value} {w : World} {R : Ending → World → Prop} (hc : Calls P f args w R) : CallsIn F n P f args w R := by
 rcases h with rfl | ⟨l, rfl⟩
 · exact callsIn_wide.2 hc
 · exact CallsIn.inRound l (callsIn_wide.2 hc)
def qfp (P : Program) (L : Nat) (f : Operand) (args : List Operand) (s : St) (K : AV → St → Prop) : Prop :=
 match s.ev f with
 | .fn g _ => match (s.shutAll (q0z (args.map s.ev))).ev f with
  | .fn g' caps => (q0z (args.map s.ev)).all (fun b => decide (L ≤ b)) = true ∧ g' = g ∧ qax P L g (s.shutAll (q0z (args.map s.ev))) (args.map (s.shutAll (q0z (args.map s.ev))).ev ++ caps) K
  | _ => False
 | _ => False
def q6i (P : Program) (L : Nat) (f : Operand) (args : List Operand) (s : St) (K : AV → St → Prop) : Prop :=
 match s.ev f with
 | .fn g caps => qax P L g s (args.map s.ev ++ caps) K
 | _ => False
def acallP (P : Program) (L : Nat) (f : Operand) (args : List Operand) (s : St) (K : AV → St → Prop) : Prop :=
 ∃ bs : List Nat, bs ≠ [] ∧ (∀ b ∈ bs, b ∈ q0z (args.map s.ev)) ∧ bs.all (fun b => decide (L ≤ b)) = true ∧ q6i P L f args (s.shutAll bs) K
def q8i (P : Program) (L : Nat) (f : Operand) (args : List Operand) (s : St) (K : AV → St → Prop) : Prop := qfp P L f args s K ∨ q6i P L f args s K ∨ acallP P L f args s K
def aop0 (P : Program) (T : TypeId → Option TI) (L : Nat) (o : Op) (s : St) (K : AV → St → Prop) : Prop :=
 match o with
 | .move x => K (s.ev x) s
 | .assign x => K (s.ev x) s
 | .pick c x y => qke (s.ev c) (s.ev x) (s.ev y) s K
 | .alloc t => qgu T t s K
 | .box _ x => abox (s.ev x) s K
 | .build t parts => (∀ ti fs, T t = some ti → ti.desc = .struct fs → qja T fs) ∧ qg6 T t (parts.toList.map fun (i, x) => (i, s.ev x)) s K
 | .buildSlice t len parts => q7h T L t len parts.toList s K
 | .load t x => q50 T t (s.ev x) s (fun y => K y s)
 | .store t p x => qg8 T t (s.ev p) (s.ev x) s K
 | .nilCheck x => match s.ev x with
  | .ptr b c => K (.ptr b c) s
  | .ep b sz i c => K (.ep b sz i c) s
  | .rp cs => K (.rp cs) s
  | _ => False
 | .binOp op t x y _ => abin P op t x y (s.ev x) (s.ev y) s K ∨ qhi (gbin T op t (s.ev x) (s.ev y) s) K
 | .unOp op _ x => qky P op (s.ev x) s K
 | .convert src dst x => q9h P T src dst (s.ev x) s K ∨ qdu T src dst (s.ev x) s K
 | .makeFunc (.func f) first caps => first.size = 0 ∧ K (.fn f (caps.toList.map s.ev)) s
 | .slice t x lo hi mx => ((∀ ti n e, T t = some ti → ti.desc ≠ .array n e) ∧ qe4 T t (s.ev x) (lo.map s.ev) (hi.map s.ev) (mx.map s.ev) s K) ∨ qhi (q63 T t (s.ev x) (q3v s lo) (q3v s hi) (q3v s mx) s) K
 | .fieldAddr t x f => q8k T t (s.ev x) f s K
 | .field t x f => qg7 T t (s.ev x) f s K
 | .indexAddr t x i => q96 T t (s.ev x) (s.ev i) s K
 | .index t x i => qgn P T t (s.ev x) (s.ev i) s K
 | .extract x i => qcc (s.ev x) i s K
 | .call { callee := .value f, args := args, .. } => q8i P L f args.toList s K
 | .call { callee := .builtin b, args := args, argTypes := ts } => match b with
  | .len => match args.toList, ts.toList with
   | [x], [t] => alen T t (s.ev x) s K
   | _, _ => False
  | .append => match args.toList with
   | [x, y] => qbs T L ts.toList (s.ev x) (s.ev y) s K
   | _ => False
  | .max => q8a true (args.toList.map s.ev) s K
  | .min => q8a false (args.toList.map s.ev) s K
  | _ => False
 | _ => False
def aop (P : Program) (T : TypeId → Option TI) (L : Nat) (o : Op) (s : St) (K : AV → St → Prop) : Prop := aop0 P T L o s K ∨ qhi (gpre T o s) K ∨ qhi (qew T L o s) K ∨ qki T L o s K
theorem Rel.evs {B : Nat} {ι : Loc} {s : St} {a : Act} {w : World} (h : Rel Hd B ι s a w) (xs : List Operand) : rels Hd ι w (xs.map s.ev) (xs.map a.eval) := by
 induction xs with
 | nil => rfl
 | cons x xs ih => exact ⟨_, _, rfl, h.ev x, ih⟩
section
variable {F : Fence} {n : Nat} {P : Program} {T : TypeId → Option TI} {B : Nat} {ι : Loc} {s : St} {a : Act} {w : World} {K : AV → St → Prop} {next : Act → World → Prop} {Q : Exit → Act → World → Prop}
theorem qv2 {T : TypeId → Option TI} {z : AV} {lo hi mx : Option AV} {s s' : St} {C : Prop} (e : q63 T t x lo hi mx s = some (C, z, s')) : q2k T t = true := by
 unfold q63 at e
 unfold q2k
 split at e <;> try (cases e; done)
 rename_i ti ht
 split at e <;> try (cases e; done)
 rename_i el hd
 simp [ht, hd]
theorem quj {T : TypeId → Option TI} {z : AV} {lo hi mx : Option AV} {s s' : St} {C : Prop} (e : qbu T t x lo hi mx s = some (C, z, s')) : q2k T t = true := by
 unfold qbu at e
 unfold q2k
 split at e <;> try (cases e; done)
 split at e <;> try (cases e; done)
 rename_i ti ht
 split at e <;> try (cases e; done)
 rename_i el hd
 simp [ht, hd]
theorem qfe {P : Program} {T : TypeId → Option TI} (hT : TyOk P T) (ht : q2k T t = true) (xv : Value) (lo hi mx : Option Value) : (Instr.sliceAt t xv lo hi mx).run P w = (Instr.slice t xv lo hi mx).run P w := by
 unfold q2k at ht
 split at ht <;> try (cases ht; done)
 rename_i ti hti
 split at ht <;> try (cases ht; done)
 rename_i el hd
 simp only [Instr.sliceAt, z0s, run_underlying hT hti, z0b, hd]
theorem q0b (hF : Wide F) (hnd : ∀ c, o.op ≠ .defer c) {m : Sem Value} (hm : (execOp a.eval o).run P w = (do pure (Next.value (← m)) : Sem Next).run P w) (ho : Out P Hd L B ι a w m isV K) (hn : ∀ x y s' ι' w', rel Hd ι' w' x y → Rel Hd B ι' s' a w' → Ext L ι w ι' w' → K x s' → next (a.put o.dst y) w') : o.wpIn F n P a w next Q := by
 obtain ⟨r, y, w', ι', x, s', h1, rfl, h2, h3, h4, h5⟩ := ho
 refine ⟨fun f _ => hF.fn f, ?_⟩
 rw [z4x _ _ _ hnd, hm]
 simp only [z0s, h1, z0b, z15, Oper.uponIn_value]
 exact hn x r s' ι' w' h2 h3 h4 h5
theorem qh3 {g : FuncId} {caps : List AV} (hF : Wide F) (hoc : o.op = .call c) (hcf : c.callee = .value f) (h : Rel Hd B ι s a w) (hg : s.ev f = .fn g caps) (hK : qax P L g s (c.args.toList.map s.ev ++ caps) K) (hn : ∀ x y s' ι' w', rel Hd ι' w' x y → Rel Hd B ι' s' a w' → Ext L ι w ι' w' → K x s' → next (a.put o.dst y) w') : o.wpIn F n P a w next Q := by
 by_cases hX : ∃ x, XCall P g s.mem (c.args.toList.map s.ev ++ caps) x ∧ K x s
 · obtain ⟨x, ⟨fn, hfn, hX⟩, hKx⟩ := hX
   have hfv := h.ev f
   rw [hg] at hfv
   obtain ⟨cvs, hfe, hcr⟩ := hfv
   obtain ⟨y, hy1, hy2⟩ := hX Hd B ι s.tmps a w _ h (q13 (h.evs c.args.toList) hcr)
   have hrun : (execOp a.eval o).run P w = .ok (.value y) w := by
    have harr : (c.args.map a.eval) ++ cvs.toArray = (c.args.toList.map a.eval ++ cvs).toArray := by
     apply z4q; simp
    rw [← harr] at hy1
    unfold execOp
    simp only [hoc, resolve, hcf, hfe, Deferred.ofValue, z0s, z15, z0b, invoke, z5i, hy1]
   refine ⟨fun f _ => hF.fn f, ?_⟩
   rw [z4x _ _ _ (by rw [hoc]; intro c; exact fun h => by cases h), hrun, Oper.uponIn_value]
   exact hn x y s ι w hy2 h (Ext.refl _ _) hKx
 have hent : qdy P g := by
  rcases hK with hK | ⟨kp, _, hK⟩ | ⟨k, b, blk, x, _, hK, _⟩ | hK
  · exact hK.1
  · exact hK.1
  · exact hK.1
  · exact absurd hK hX
 obtain ⟨fn, hfn, hbody, hname⟩ := hent
 have hfv := h.ev f
 rw [hg] at hfv
 obtain ⟨cvs, hfe, hcr⟩ := hfv
 have hargs := h.evs c.args.toList
 have hall := q13 hargs hcr
 have hR0 : Rel Hd 0 ι ⟨c.args.toList.map s.ev ++ caps, s.mem⟩ ⟨(c.args.toList.map a.eval ++ cvs).toArray, []⟩ w := ⟨h.len, h.lt, h.inj, by simpa using hall, h.mem, ⟨[], rfl, z24, fun r hr => by cases hr⟩, h.hid, h.glob⟩
 have hrun : (execOp a.eval o).run P w = .ok (.enter g (c.args.toList.map a.eval ++ cvs).toArray) w := by
  have harr : (c.args.map a.eval) ++ cvs.toArray = (c.args.toList.map a.eval ++ cvs).toArray := by
   apply z4q; simp
  unfold execOp
  simp only [hoc, resolve, hcf, hfe, Deferred.ofValue, z0s, z15, z0b, invoke, z5i, callFunc, run_program, hfn, hname, hbody, z0n, if_false, harr]
 refine ⟨fun f _ => hF.fn f, ?_⟩
 rw [z4x _ _ _ (by rw [hoc]; intro c; exact fun h => by cases h), hrun, Oper.uponIn_enter]
 refine ⟨(fun hd => by rw [hF.depth] at hd; cases hd), ?_⟩
 rcases hK with ⟨_, hK⟩ | ⟨kp, hkp, _, hK⟩ | ⟨k, b, blk, x, hLb, ⟨_, hK⟩, hKx⟩ | hK
 · refine (hF.callsIn (hK Hd ι w _ hR0)).mono ?_
   rintro e w' ⟨y, x, ι', m', rfl, hR', hE', hx⟩
   have hk : ∀ (b : Nat) (o : Option Nat), ι[b]? = some o → ι'[b]? = some o := fun b o ho => (hE' (b + 1)).keep b o (z3r b) ho
   obtain ⟨y', z', e1, hxy, rfl⟩ := hR'.tmps
   simp only [z0h] at e1
   obtain ⟨rfl, _⟩ := e1
   exact hn x y { s with mem := m' } ι' w' hxy ⟨hR'.len, hR'.lt, hR'.inj, q0l (hE' 0) h.lt _ _ (fun b _ o ho => hk b o ho) h.tmps, hR'.mem, h.marks.ext (hE' 0), hR'.hid, hR'.glob⟩ (hE' L) hx
 · refine (hF.callsIn (hK Hd ι w _ hR0)).mono ?_
   rintro e w' ⟨y, x, ι', m', rfl, hR', hE', hk, hx⟩
   obtain ⟨y', z', e1, hxy, rfl⟩ := hR'.tmps
   simp only [z0h] at e1
   obtain ⟨rfl, _⟩ := e1
   exact hn x y ⟨qbg kp s.tmps, m'⟩ ι' w' hxy ⟨hR'.len, hR'.lt, hR'.inj, qnq hE' hk h.lt _ _ h.tmps, hR'.mem, h.marks.ext hE', hR'.hid, hR'.glob⟩
    ⟨hE'.os, hE'.tape, hE'.output, hE'.size, hE'.imm, hE'.shape, fun b o hb ho => hk b o (hkp b hb) ho⟩ hx
 · obtain ⟨hR1, hE1⟩ := hR0.places (L := L) (w' := w) k rfl rfl rfl rfl
   obtain ⟨hS1, _⟩ := h.places (L := L) (w' := w) k rfl rfl rfl rfl
   refine (hF.callsIn (hK Hd _ w _ hR1)).mono ?_
   rintro e w' ⟨y, ι', rfl, hR', hE', hk⟩
   have hE2 : Ext L (ι ++ List.replicate k none) w ι' w' := ⟨hE'.os, hE'.tape, hE'.output, hE'.size, hE'.imm, hE'.shape, fun b' o hb ho => hk b' o (by omega) ho⟩
   obtain ⟨y', z', e1, hxy, rfl⟩ := hR'.tmps
   simp only [z0h] at e1
   obtain ⟨rfl, _⟩ := e1
   exact hn x y (({ s with mem := s.mem ++ List.replicate k .gone } : St).rehome b blk) ι' w' hxy
    ⟨hR'.len, hR'.lt, hR'.inj, q4t hE2 hS1.lt hk _ _ hS1.tmps, hR'.mem, hS1.marks.ext hE2, hR'.hid, hR'.glob⟩ (hE1.trans hE2) hKx
 · exact absurd hK hX
theorem qol (hF : Wide F) (hoc : o.op = .call c) (hcf : c.callee = .value f) (h : Rel Hd B ι s a w) (hK : qfp P L f c.args.toList s K) (hn : ∀ x y s' ι' w', rel Hd ι' w' x y → Rel Hd B ι' s' a w' → Ext L ι w ι' w' → K x s' → next (a.put o.dst y) w') : o.wpIn F n P a w next Q := by
 unfold qfp at hK
 split at hK <;> try exact hK.elim
 rename_i g _ hg
 generalize hs1 : s.shutAll (q0z (c.args.toList.map s.ev)) = s1 at hK
 split at hK <;> try exact hK.elim
 rename_i g' caps hg'
 obtain ⟨hLow, rfl, hK⟩ := hK
 obtain ⟨ι1, hR1, hE1⟩ := Rel.shutAll (L := L) (q0z (c.args.toList.map s.ev)) h (fun b hb => by simpa using z0l.1 hLow b hb)
 rw [hs1] at hR1
 exact qh3 hF hoc hcf hR1 hg' hK (fun x y s' ι' w' k1 k2 k3 => hn x y s' ι' w' k1 k2 (hE1.trans k3))
theorem qfs (hF : Wide F) (hoc : o.op = .call c) (hcf : c.callee = .value f) (h : Rel Hd B ι s a w) (hK : q6i P L f c.args.toList s K) (hn : ∀ x y s' ι' w', rel Hd ι' w' x y → Rel Hd B ι' s' a w' → Ext L ι w ι' w' → K x s' → next (a.put o.dst y) w') : o.wpIn F n P a w next Q := by
 unfold q6i at hK
 split at hK <;> try exact hK.elim
 rename_i g caps hg
 exact qh3 hF hoc hcf h hg hK hn
theorem qre (hF : Wide F) (hoc : o.op = .call c) (hcf : c.callee = .value f) (h : Rel Hd B ι s a w) (hK : q8i P L f c.args.toList s K) (hn : ∀ x y s' ι' w', rel Hd ι' w' x y → Rel Hd B ι' s' a w' → Ext L ι w ι' w' → K x s' → next (a.put o.dst y) w') : o.wpIn F n P a w next Q :=
 by
 rcases hK with hK | hK | ⟨bs, _, _, hLow, hK⟩
 · exact qol hF hoc hcf h hK hn
 · exact qfs hF hoc hcf h hK hn
 · obtain ⟨ι1, hR1, hE1⟩ := Rel.shutAll (L := L) bs h (fun b hb => by simpa using z0l.1 hLow b hb)
   exact qfs hF hoc hcf hR1 hK (fun x y s' ι' w' k1 k2 k3 => hn x y s' ι' w' k1 k2 (hE1.trans k3))
theorem qui (hT : TyOk P T) (hF : Wide F) (h : Rel Hd B ι s a w) (hK : aop0 P T L o.op s K) (hn : ∀ x y s' ι' w', rel Hd ι' w' x y → Rel Hd B ι' s' a w' → Ext L ι w ι' w' → K x s' → next (a.put o.dst y) w') : o.wpIn F n P a w next Q := by
 unfold aop0 at hK
 split at hK
 case h_1 x ho => exact q0b hF (by rw [ho]; simp) (m := Pure.pure (a.eval x)) (by simp [execOp, ho]) (Out.mk' h hK rfl (h.ev x)) hn
 case h_2 x ho => exact q0b hF (by rw [ho]; simp) (m := Pure.pure (a.eval x)) (by simp [execOp, ho]) (Out.mk' h hK rfl (h.ev x)) hn
 case h_3 c x y ho => exact q0b hF (by rw [ho]; simp) (by simp [execOp, ho]) (qrk h (h.ev c) (h.ev x) (h.ev y) hK) hn
 case h_4 t ho => exact q0b hF (by rw [ho]; simp) (by simp [execOp, ho]) (qpu hT h hK) hn
 case h_5 t x ho => exact q0b hF (by rw [ho]; simp) (by simp [execOp, ho]) (quz (t := t) h (h.ev x) hK) hn
 case h_6 t parts ho => exact q0b hF (by rw [ho]; simp) (by simp [execOp, ho]) (qp6 hT h hK.1 hK.2) hn
 case h_7 t len parts ho => exact q0b hF (by rw [ho]; simp) (by simp [execOp, ho]) (qhy hT h hK) hn
 case h_8 t x ho =>
  obtain ⟨y, v, h1, h2, h3⟩ := qi4 hT h (h.ev x) hK
  exact q0b hF (by rw [ho]; simp) (by simp [execOp, ho]) (Out.mk' h h3 h1 h2) hn
 case h_9 t p x ho =>
  obtain ⟨r, y, w', ι', x', s', h1, rfl, h2, h3, h4, h5⟩ := qpv hT h (h.ev p) (h.ev x) hK
  refine ⟨fun f _ => hF.fn f, ?_⟩
  rw [z4x _ _ _ (by rw [ho]; simp)]
  have hrun : (execOp a.eval o).run P w = .ok .skip w' := by simp [execOp, ho, h1]
  rw [hrun, Oper.uponIn_skip]
  exact hn x' undef s' ι' w' h2 h3 h4 h5
 case h_10 x ho =>
  have hx := h.ev x
  split at hK <;> try exact hK.elim
  · rename_i b c he
    rw [he] at hx
    have hx' := hx
    obtain ⟨r, hr, _⟩ := hx'
    exact q0b hF (by rw [ho]; simp) (m := Pure.pure (a.eval x)) (by simp [execOp, ho, hr]) (Out.mk' h hK rfl hx) hn
  · rename_i b sz i c he
    rw [he] at hx
    have hx' := hx
    obtain ⟨r, hr, _⟩ := hx'
    exact q0b hF (by rw [ho]; simp) (m := Pure.pure (a.eval x)) (by simp [execOp, ho, hr]) (Out.mk' h hK rfl hx) hn
  · rename_i cs he
    rw [he] at hx
    have hx' := hx
    obtain ⟨_, r, off, vs, hr, _⟩ := hx'
    exact q0b hF (by rw [ho]; simp) (m := Pure.pure (a.eval x)) (by simp [execOp, ho, hr]) (Out.mk' h hK rfl hx) hn
 case h_11 op t x y yt ho =>
  rcases hK with hK | ⟨C, x', s', he, hC, hK⟩
  · exact q0b hF (by rw [ho]; simp) (by simp [execOp, ho]) (qv0 h (h.ev x) (h.ev y) hK) hn
  · exact q0b hF (by rw [ho]; simp) (by simp [execOp, ho]) (qv1 (xo := x) (yo := y) hT h (h.ev x) (h.ev y) he hC hK) hn
 case h_12 op t x ho => exact q0b hF (by rw [ho]; simp) (by simp [execOp, ho]) (qpw h (h.ev x) hK) hn
 case h_13 src dst x ho => exact q0b hF (by rw [ho]; simp) (by simp [execOp, ho]) (hK.elim (fun hK => qm1 hT h (h.ev x) hK) (fun hK => qpx hT h (h.ev x) hK)) hn
 case h_14 f first caps ho =>
  obtain ⟨h0, hK⟩ := hK
  have hf : first.map a.eval = #[] := z58 (by simpa using h0)
  refine q0b hF (by rw [ho]; simp) (m := Pure.pure (.func (.func f) #[] (caps.map a.eval))) ?_ (Out.mk' h hK rfl ⟨caps.toList.map a.eval, by congr 1; apply z4q; simp, h.evs _⟩) hn
  simp [execOp, ho, Instr.makeFunc, hf]
 case h_15 t x lo hi mx ho =>
  rcases hK with hK | ⟨C, x', s', he, hC, hK⟩
  · exact q0b hF (by rw [ho]; simp) (by simp [execOp, ho]) (qpy hT h (h.ev x) hK.2 hK.1) hn
  · rw [q5n, q5n, q5n] at he
    exact q0b hF (by rw [ho]; simp) (by simp [execOp, ho, qfe hT (qv2 he)]) (qnv hT h (h.ev x) he hC hK) hn
 case h_16 t x f ho => exact q0b hF (by rw [ho]; simp) (by simp [execOp, ho]) (qjj hT h (h.ev x) hK) hn
 case h_17 t x f ho => exact q0b hF (by rw [ho]; simp) (by simp [execOp, ho]) (qp7 hT h (h.ev x) hK) hn
 case h_18 t x i ho => exact q0b hF (by rw [ho]; simp) (by simp [execOp, ho]) (qji hT h (h.ev x) (h.ev i) hK) hn
 case h_19 t x i ho => exact q0b hF (by rw [ho]; simp) (by simp [execOp, ho]) (qpn hT h (h.ev x) (h.ev i) hK) hn
 case h_20 x i ho => exact q0b hF (by rw [ho]; simp) (by simp [execOp, ho]) (qmb h (h.ev x) hK) hn
 case h_21 f args ts ho => exact qre hF ho rfl h hK hn
 case h_22 b args ts ho =>
  have hargs : args.map a.eval = (args.toList.map a.eval).toArray := by apply z4q; simp
  split at hK <;> try exact hK.elim
  · split at hK <;> try exact hK.elim
    rename_i x t ha hts
    have e1 : args = #[x] := by rw [← z1s (xs := args), ha]
    have e2 : ts = #[t] := by rw [← z1s (xs := ts), hts]
    subst e1; subst e2
    exact q0b hF (by rw [ho]; simp) (by simp [execOp, ho, resolve, invoke, builtin]) (qv3 (ty := o.type) hT h (h.ev x) hK) hn
  · split at hK <;> try exact hK.elim
    rename_i x y ha
    have e1 : args = #[x, y] := by rw [← z1s (xs := args), ha]
    subst e1
    exact q0b hF (by rw [ho]; simp) (by simp [execOp, ho, resolve, invoke, builtin]) (qo4 (ty := o.type) hT h (h.ev x) (h.ev y) hK) hn
  · exact q0b hF (by rw [ho]; simp) (by simp [execOp, ho, resolve, invoke, builtin, hargs]) (qv4 (ts := ts) (ty := o.type) h (h.evs _) hK) hn
  · exact q0b hF (by rw [ho]; simp) (by simp [execOp, ho, resolve, invoke, builtin, hargs]) (qu2 (ts := ts) (ty := o.type) h (h.evs _) hK) hn
 case h_23 => exact hK.elim
theorem q47 (hT : TyOk P T) (hF : Wide F) (h : Rel Hd B ι s a w) (hK : aop P T L o.op s K) (hn : ∀ x y s' ι' w', rel Hd ι' w' x y → Rel Hd B ι' s' a w' → Ext L ι w ι' w' → K x s' → next (a.put o.dst y) w') : o.wpIn F n P a w next Q := by
 rcases hK with hK | ⟨C, x', s', he, hC, hK⟩ | ⟨C, x', s', he, hC, hK⟩ | hK
 · exact qui hT hF h hK hn
 · unfold gpre at he
   split at he
   · rename_i t len parts ho
     exact q0b hF (by rw [ho]; simp) (by simp [execOp, ho]) (qny hT h he hC hK) hn
   · rename_i t x ho
     exact q0b hF (by rw [ho]; simp) (by simp [execOp, ho]) (qok hT h (h.ev x) he hC hK) hn
   · unfold fpre at he
     split at he <;> try (cases he; done)
     rename_i t x lo hi mx ho
     rw [q5n, q5n, q5n] at he
     exact q0b hF (by rw [ho]; simp) (by simp [execOp, ho, qfe hT (quj he)]) (qnz hT h (h.ev x) he hC hK) hn
 · unfold qew at he
   split at he <;> try (cases he; done)
   · rename_i t l c ho
     exact q0b hF (by rw [ho]; simp) (by simp [execOp, ho]) (qro hT h (h.ev l) (h.ev c) he hC hK) hn
   · rename_i b args ts ho
     split at he <;> try (cases he; done)
     · split at he <;> try (cases he; done)
       rename_i x y ha
       have e1 : args = #[x, y] := by rw [← z1s (xs := args), ha]
       subst e1
       exact q0b hF (by rw [ho]; simp) (by simp [execOp, ho, resolve, invoke, builtin]) (qo0 (ty := o.type) hT h (h.ev x) (h.ev y) he hC hK) hn
     · split at he <;> try (cases he; done)
       rename_i x t ha hts
       have e1 : args = #[x] := by rw [← z1s (xs := args), ha]
       have e2 : ts = #[t] := by rw [← z1s (xs := ts), hts]
       subst e1; subst e2
       exact q0b hF (by rw [ho]; simp) (by simp [execOp, ho, resolve, invoke, builtin]) (quk (ty := o.type) hT h (h.ev x) he hC hK) hn
     · split at he <;> try (cases he; done)
       rename_i x y t t2 ha hts
       have e1 : args = #[x, y] := by rw [← z1s (xs := args), ha]
       have e2 : ts = #[t, t2] := by rw [← z1s (xs := ts), hts]
       subst e1; subst e2
       exact q0b hF (by rw [ho]; simp) (by simp [execOp, ho, resolve, invoke, builtin]) (qrp (ty := o.type) (t2 := t2) hT h (h.ev x) (h.ev y) he hC hK) hn
     · split at he <;> try (cases he; done)
       rename_i x t ha hts
       have e1 : args = #[x] := by rw [← z1s (xs := args), ha]
       have e2 : ts = #[t] := by rw [← z1s (xs := ts), hts]
       subst e1; subst e2
       exact q0b hF (by rw [ho]; simp) (by simp [execOp, ho, resolve, invoke, builtin]) (qow (ty := o.type) hT h (h.ev x) he hC hK) hn
 · unfold qki at hK
   split at hK <;> try exact hK.elim
   rename_i args ts ho
   split at hK <;> try exact hK.elim
   rename_i x y ha
   have e1 : args = #[x, y] := by rw [← z1s (xs := args), ha]
   subst e1
   exact q0b hF (by rw [ho]; simp) (by simp [execOp, ho, resolve, invoke, builtin]) (qp3 (ty := o.type) hT h (h.ev x) (h.ev y) hK) hn
end
