/- A text of the walk that proves a law of this seat; joined by a program. -/
import Derived.Test.YtdkcpcflfnakdaaGreatSymHe
import Derived.RangeFuncCalls
import Derived.RangeFuncLeaves
import Derived.TacticsIn
import Derived.OrdersIn
set_option linter.unusedSimpArgs false
set_option linter.unusedVariables false
namespace Go.Proofs.YtdkcpcflfnakdaaGreat.Sym
open Go Go.RowKit
variable {L : Nat} {Hd : Nat → Prop}
theorem aslice_sound {P : Program} {T : TypeId → Option TI} (hT : TyOk P T) {B : Nat} {ι : Loc} {s : St} {a : Act} {w : World} {K : AV → St → Prop} (h : Rel Hd B ι s a w) {t : TypeId} {x : AV} {xv : Value} {lo hi mx : Option Operand}
    (hx : rel Hd ι w x xv) (hK : aslice T t x (lo.map s.ev) (hi.map s.ev) (mx.map s.ev) s K) (hns : ∀ ti n e, T t = some ti → ti.desc ≠ .array n e) : Out P Hd L B ι a w (Instr.sliceAt t xv (lo.map a.eval) (hi.map a.eval) (mx.map a.eval)) isV K := by
  unfold aslice at hK
  cases mx with
  | some m => simp at hK
  | none =>
    simp only [Option.map_none] at hK ⊢
    cases ht : T t with
    | none => simp [ht] at hK
    | some ti =>
      simp only [ht] at hK
      have bnd : ∀ (o : Option Operand) (d y : Nat) (code : BoundsCode) (K' : Nat → Prop), abound (o.map s.ev) d K' →
          ∃ n, K' n ∧ (o = none → n = d) ∧ (n ≤ y → ∀ v, o.map a.eval = some v → (Instr.sliceBound v y code).run P w = .ok n w) := by
        intro o d y code K' hb
        cases o with
        | none => exact ⟨d, hb, fun _ => rfl, fun _ v hv => by cases hv⟩
        | some op =>
          obtain ⟨n, h1, h2⟩ := run_sliceBound (P := P) (w := w) (h.ev op) (y := y) (code := code) (K := K') (d := d) hb
          exact ⟨n, h1, (fun e => by cases e), (fun hy v hv => by cases hv; exact h2 hy)⟩
      split at hK <;> try exact hK.elim
      · rename_i b hd
        cases hx
        obtain ⟨hh, hK, hh0, hhr⟩ := bnd hi b.size b.size .sliceAlen _ hK
        obtain ⟨ll, ⟨⟨hle1, hle2⟩, hK⟩, hl0, hlr⟩ := bnd lo 0 hh .sliceB _ hK
        refine Out.mk' h hK ?_ rel_v
        simp only [Instr.sliceAt, Sem.run_bind, run_underlying hT ht, Result.andThen_ok, hd, Instr.slice, Instr.sliceBounds, Sem.run_pure, Option.isSome_none, Bool.false_eq_true, if_false]
        cases hi with
        | none =>
          obtain rfl := hh0 rfl
          cases lo with
          | none => obtain rfl := hl0 rfl; simp
          | some l => simp [hlr hle1 _ rfl]
        | some hx' =>
          have h1 := hhr hle2 _ rfl
          cases lo with
          | none => obtain rfl := hl0 rfl; simp [h1]
          | some l => simp [h1, hlr hle1 _ rfl]
      · rename_i e sz xs hd
        split at hK <;> try exact hK.elim
        rename_i te hte
        obtain ⟨rfl, hK⟩ := hK
        obtain ⟨hpu, ad, cap, vs, rfl, hc, hr, hm⟩ := hx
        obtain ⟨hh, hK, hh0, hhr⟩ := bnd hi xs.length cap .sliceAcap _ hK
        obtain ⟨ll, ⟨⟨hle1, hle2⟩, hK⟩, hl0, hlr⟩ := bnd lo 0 hh .sliceB _ hK
        have hlen : ((xs.take hh).drop ll).length = hh - ll := by simp; omega
        have hpu' := q1m (q1s hpu hh) ll
        have hrr := q1i ll (q1t hh hr)
        refine Out.mk' h hK (y := .slice (if cap = ll then ad else ad.map (·.add (ll * te.size))) (hh - ll) (cap - ll)) ?_ ⟨hpu', _, cap - ll, (vs.take hh).drop ll, by rw [hlen], by rw [hlen]; omega, hrr, ?_⟩
        · simp only [Instr.sliceAt, Sem.run_bind, run_underlying hT ht, Result.andThen_ok, hd, Instr.slice, Instr.sliceBounds, Sem.run_pure, Option.isSome_none, Bool.false_eq_true, if_false]
          cases hi with
          | none =>
            obtain rfl := hh0 rfl
            cases lo with
            | none => obtain rfl := hl0 rfl; simp [q0x hT hte]
            | some l => simp [hlr hle1 _ rfl, q0x hT hte]
          | some hx' =>
            have h1 := hhr (by omega) _ rfl
            cases lo with
            | none => obtain rfl := hl0 rfl; simp [h1, q0x hT hte]
            | some l => simp [h1, hlr hle1 _ rfl, q0x hT hte]
        · rcases hm with rfl | ⟨r, off, rfl, him, hrow⟩
          · exact .inl (by simp)
          · by_cases hz : (xs.take hh).drop ll = []
            · exact .inl hz
            · have : ll < hh := by
                apply Nat.lt_of_not_le
                intro hge
                exact hz (List.eq_nil_of_length_eq_zero (by rw [hlen]; omega))
              refine .inr ⟨r, off + ll * te.size, ?_, him, ?_⟩
              · rw [if_neg (by omega)]; simp [addr_add]
              · have := RowAt.drop_take hrow ll (hh - ll)
                rwa [List.take_drop, show ll + (hh - ll) = hh by omega] at this
def Enters (P : Program) (g : FuncId) : Prop := ∃ fn, P.funcs[g]? = some fn ∧ fn.body.isNone = false ∧ (fn.name == "runtime.NumGoroutine") = false
def ACall (P : Program) (g : FuncId) (m : List AB) (args : List AV) (K : AV → List AB → Prop) : Prop :=
  Enters P g ∧ ∀ (Hd : Nat → Prop) (ι : Loc) (w : World) (vs : List Value), Rel Hd 0 ι ⟨args, m⟩ ⟨vs.toArray, []⟩ w →
    Calls P g vs.toArray w fun e w' => ∃ y x ι' m', e = .returned y ∧ Rel Hd 0 ι' ⟨[x], m'⟩ ⟨#[y], []⟩ w' ∧ (∀ L, Ext L ι w ι' w') ∧ K x m'
def q0h (P : Program) (N : Nat) (g : FuncId) (m : List AB) (args : List AV) (K : AV → List AB → Prop) : Prop :=
  Enters P g ∧ ∀ (Hd : Nat → Prop) (ι : Loc) (w : World) (vs : List Value), Rel Hd 0 ι ⟨args, m⟩ ⟨vs.toArray, []⟩ w →
    Calls P g vs.toArray w fun e w' => ∃ y x ι' m', e = .returned y ∧ Rel Hd 0 ι' ⟨[x], m'⟩ ⟨#[y], []⟩ w' ∧ Ext N ι w ι' w' ∧ K x m'
mutual
def bks : AV → List Nat
  | .agg xs => q03 xs
  | .tup xs => q03 xs
  | .own b _ _ _ => [b]
  | .ptr b _ => [b]
  | .ep b _ _ _ => [b]
  | .fn _ caps => q03 caps
  | _ => []
def q03 : List AV → List Nat
  | [] => []
  | x :: xs => bks x ++ q03 xs
end
def q0j (P : Program) (kp : Nat → Bool) (g : FuncId) (m : List AB) (args : List AV) (K : AV → List AB → Prop) : Prop :=
  Enters P g ∧ ∀ (Hd : Nat → Prop) (ι : Loc) (w : World) (vs : List Value), Rel Hd 0 ι ⟨args, m⟩ ⟨vs.toArray, []⟩ w →
    Calls P g vs.toArray w fun e w' => ∃ y x ι' m', e = .returned y ∧ Rel Hd 0 ι' ⟨[x], m'⟩ ⟨#[y], []⟩ w' ∧ Ext 0 ι w ι' w' ∧ (∀ (b : Nat) (o : Option Nat), kp b = true → ι[b]? = some o → ι'[b]? = some o) ∧ K x m'
def cutV (kp : Nat → Bool) (x : AV) : AV := if (bks x).all kp = true then x else .any
def cutVs (kp : Nat → Bool) : List AV → List AV
  | [] => []
  | x :: xs => cutV kp x :: cutVs kp xs
mutual
theorem refs_bks {ι : Loc} {w : World} : ∀ (x : AV) (y : Value), rel Hd ι w x y → ∀ b ∈ x.refs, b ∈ bks x
  | .v _, _, _, b, hb => by simp [AV.refs] at hb
  | .agg xs, _, h, b, hb => by obtain ⟨vs, rfl, h⟩ := h; exact q49 xs vs h b hb
  | .tup xs, _, h, b, hb => by obtain ⟨vs, rfl, h⟩ := h; exact q49 xs vs h b hb
  | .sl sz xs, _, h, b, hb => by rw [AV.refs, h.1] at hb; cases hb
  | .rp cs, _, h, b, hb => by rw [AV.refs, h.1] at hb; cases hb
  | .own b' _ _ _, _, h, b, hb => by simpa [AV.refs, bks] using hb
  | .ptr b' _, _, h, b, hb => by simpa [AV.refs, bks] using hb
  | .ep b' _ _ _, _, h, b, hb => by simpa [AV.refs, bks] using hb
  | .fn f caps, _, h, b, hb => by obtain ⟨vs, rfl, h⟩ := h; exact q49 caps vs h b hb
  | .any, _, _, b, hb => by simp [AV.refs] at hb
theorem q49 {ι : Loc} {w : World} : ∀ (xs : List AV) (ys : List Value), rels Hd ι w xs ys → ∀ b ∈ q04 xs, b ∈ q03 xs
  | [], _, _, b, hb => by simp [q04] at hb
  | x :: xs, _, h, b, hb => by
    obtain ⟨y, zs, rfl, h1, h2⟩ := h
    simp only [q04, q03, List.mem_append] at hb ⊢
    exact hb.imp (refs_bks x y h1 b) (q49 xs zs h2 b)
end
theorem cutVs_rel {kp : Nat → Bool} {ι ι' : Loc} {w w' : World} (e : Ext 0 ι w ι' w') (hk : ∀ (b : Nat) (o : Option Nat), kp b = true → ι[b]? = some o → ι'[b]? = some o) (hl : ∀ r : Nat, some r ∈ ι → r < w.heap.size) : ∀ (xs : List AV) (ys : List Value), rels Hd ι w xs ys → rels Hd ι' w' (cutVs kp xs) ys
  | [], _, h => h
  | x :: xs, _, h => by
    obtain ⟨y, zs, rfl, h1, h2⟩ := h
    refine ⟨y, zs, rfl, ?_, cutVs_rel e hk hl xs zs h2⟩
    unfold cutV
    split
    · rename_i hc
      exact rel_ext e hl x y (fun b hb o ho => hk b o (List.all_eq_true.1 hc b (refs_bks x y h1 b hb)) ho) h1
    · exact True.intro
theorem Rel.places {B : Nat} {ι : Loc} {s : St} {a : Act} {w w' : World} (h : Rel Hd B ι s a w) (k : Nat) (hh : w'.heap = w.heap) (h1 : w'.os = w.os) (h2 : w'.tape = w.tape) (h3 : w'.output = w.output) :
    Rel Hd B (ι ++ List.replicate k none) { s with mem := s.mem ++ List.replicate k .gone } a w' ∧ Ext L ι w (ι ++ List.replicate k none) w' := by
  have hmem : ∀ r : Nat, some r ∈ ι ++ List.replicate k none → some r ∈ ι := fun r hr => by
    rcases List.mem_append.1 hr with hr | hr
    · exact hr
    · exact absurd (List.eq_of_mem_replicate hr) (by simp)
  have hk : ∀ (b : Nat) (o : Option Nat), ι[b]? = some o → (ι ++ List.replicate k none)[b]? = some o := fun b o hb => by
    rw [List.getElem?_append_left (List.getElem?_eq_some_iff.1 hb).1]; exact hb
  have e : Ext L ι w (ι ++ List.replicate k none) w' := ⟨h1, h2, h3, by rw [hh]; exact Nat.le_refl _, fun r _ hn => ⟨fun hh => hn (hmem r hh), by rw [hh]⟩, fun r _ => by simp only [World.shape?, hh], fun b o _ hb => hk b o hb⟩
  refine ⟨⟨by simp [h.len], fun r hr => by rw [hh]; exact h.lt r (hmem r hr), ?_, h.ext_tmps e hk, ?_, h.marks.ext e, h.hidExt e, h.glob.ext e⟩, e⟩
  · have key : ∀ (j r : Nat), (ι ++ List.replicate k none)[j]? = some (some r) → ι[j]? = some (some r) := by
      intro j r hj
      by_cases c : j < ι.length
      · rwa [List.getElem?_append_left c] at hj
      · rw [List.getElem?_append_right (by omega)] at hj
        exact absurd (List.eq_of_mem_replicate (List.mem_of_getElem? hj)) (by simp)
    exact fun i j r hi hj => h.inj i j r (key i r hi) (key j r hj)
  · intro i blk hi
    by_cases c : i < s.mem.length
    · have hi' : s.mem[i]? = some blk := by
        have : (s.mem ++ List.replicate k AB.gone)[i]? = some blk := hi
        rwa [List.getElem?_append_left c] at this
      exact q2v e h.lt hk (fun _ _ => by rw [hh]) (h.mem i blk hi')
    · have hi' : (s.mem ++ List.replicate k AB.gone)[i]? = some blk := hi
      rw [List.getElem?_append_right (by omega)] at hi'
      rw [List.eq_of_mem_replicate (List.mem_of_getElem? hi')]
      exact True.intro
def ACallR (P : Program) (b : Nat) (g : FuncId) (m : List AB) (args : List AV) (blk : AB) (x : AV) : Prop :=
  Enters P g ∧ ∀ (Hd : Nat → Prop) (ι : Loc) (w : World) (vs : List Value), Rel Hd 0 ι ⟨args, m⟩ ⟨vs.toArray, []⟩ w →
    Calls P g vs.toArray w fun e w' => ∃ y ι', e = .returned y ∧ Rel Hd 0 ι' ⟨[x], (m.map (AB.kill b)).set b blk⟩ ⟨#[y], []⟩ w' ∧ Ext 0 ι w ι' w' ∧ (∀ (b' : Nat) (o : Option Nat), b' ≠ b → ι[b']? = some o → ι'[b']? = some o)
def XCall (P : Program) (g : FuncId) (m : List AB) (argv : List AV) (x : AV) : Prop :=
  ∃ fn, P.funcs[g]? = some fn ∧ ∀ (Hd : Nat → Prop) (B : Nat) (ι : Loc) (tm : List AV) (a : Act) (w : World) (vs : List Value), Rel Hd B ι ⟨tm, m⟩ a w → rels Hd ι w argv vs →
    ∃ y, (callFunc g vs.toArray).run P w = .ok (.value y) w ∧ rel Hd ι w x y
def ACalls (P : Program) (L : Nat) (g : FuncId) (s : St) (argv : List AV) (K : AV → St → Prop) : Prop :=
  ACall P g s.mem argv (fun x m => K x { s with mem := m }) ∨ (∃ kp : Nat → Bool, (∀ b, b < L → kp b = true) ∧ q0j P kp g s.mem argv (fun x m => K x ⟨cutVs kp s.tmps, m⟩)) ∨
    (∃ k b blk x, L ≤ b ∧ ACallR P b g (s.mem ++ List.replicate k .gone) argv blk x ∧ K x (({ s with mem := s.mem ++ List.replicate k .gone } : St).rehome b blk)) ∨ ∃ x, XCall P g s.mem argv x ∧ K x s
def Wide (F : Fence) : Prop := F = Fence.wide ∨ ∃ l, F = Fence.wide.inRound l
theorem Wide.fn {F : Fence} (h : Wide F) (f : FuncId) : F.fn f := by rcases h with rfl | ⟨l, rfl⟩ <;> exact True.intro
theorem Wide.depth {F : Fence} (h : Wide F) : F.depth = none := by rcases h with rfl | ⟨l, rfl⟩ <;> rfl
theorem Wide.callsIn {F : Fence} (h : Wide F) {n : Nat} {P : Program} {f : FuncId} {args : Array Value} {w : World} {R : Ending → World → Prop} (hc : Calls P f args w R) : CallsIn F n P f args w R := by
  rcases h with rfl | ⟨l, rfl⟩
  · exact callsIn_wide.2 hc
  · exact CallsIn.inRound l (callsIn_wide.2 hc)
def acallS (P : Program) (L : Nat) (f : Operand) (args : List Operand) (s : St) (K : AV → St → Prop) : Prop :=
  match s.ev f with
  | .fn g _ => match (s.shutAll (q0w (args.map s.ev))).ev f with
    | .fn g' caps => (q0w (args.map s.ev)).all (fun b => decide (L ≤ b)) = true ∧ g' = g ∧ ACalls P L g (s.shutAll (q0w (args.map s.ev))) (args.map (s.shutAll (q0w (args.map s.ev))).ev ++ caps) K
    | _ => False
  | _ => False
def acallD (P : Program) (L : Nat) (f : Operand) (args : List Operand) (s : St) (K : AV → St → Prop) : Prop :=
  match s.ev f with
  | .fn g caps => ACalls P L g s (args.map s.ev ++ caps) K
  | _ => False
def acallP (P : Program) (L : Nat) (f : Operand) (args : List Operand) (s : St) (K : AV → St → Prop) : Prop :=
  ∃ bs : List Nat, bs ≠ [] ∧ (∀ b ∈ bs, b ∈ q0w (args.map s.ev)) ∧ bs.all (fun b => decide (L ≤ b)) = true ∧ acallD P L f args (s.shutAll bs) K
def acall (P : Program) (L : Nat) (f : Operand) (args : List Operand) (s : St) (K : AV → St → Prop) : Prop := acallS P L f args s K ∨ acallD P L f args s K ∨ acallP P L f args s K
def aop0 (P : Program) (T : TypeId → Option TI) (L : Nat) (o : Op) (s : St) (K : AV → St → Prop) : Prop :=
  match o with
  | .move x => K (s.ev x) s
  | .assign x => K (s.ev x) s
  | .pick c x y => apick (s.ev c) (s.ev x) (s.ev y) s K
  | .alloc t => aalloc T t s K
  | .box _ x => abox (s.ev x) s K
  | .build t parts => (∀ ti fs, T t = some ti → ti.desc = .struct fs → FieldsOk T fs) ∧ abuild T t (parts.toList.map fun (i, x) => (i, s.ev x)) s K
  | .buildSlice t len parts => q53 T L t len parts.toList s K
  | .load t x => aload T t (s.ev x) s (fun y => K y s)
  | .store t p x => astore T t (s.ev p) (s.ev x) s K
  | .nilCheck x => match s.ev x with
    | .ptr b c => K (.ptr b c) s
    | .ep b sz i c => K (.ep b sz i c) s
    | .rp cs => K (.rp cs) s
    | _ => False
  | .binOp op t x y _ => abin P op t x y (s.ev x) (s.ev y) s K ∨ stepP (gbin T op t (s.ev x) (s.ev y) s) K
  | .unOp op _ x => aunary P op (s.ev x) s K
  | .convert src dst x => aconvert P T src dst (s.ev x) s K ∨ aconvS T src dst (s.ev x) s K
  | .makeFunc (.func f) first caps => first.size = 0 ∧ K (.fn f (caps.toList.map s.ev)) s
  | .slice t x lo hi mx => ((∀ ti n e, T t = some ti → ti.desc ≠ .array n e) ∧ aslice T t (s.ev x) (lo.map s.ev) (hi.map s.ev) (mx.map s.ev) s K) ∨ stepP (gsliceL T t (s.ev x) (optEv s lo) (optEv s hi) (optEv s mx) s) K
  | .fieldAddr t x f => afieldAddr T t (s.ev x) f s K
  | .field t x f => afield T t (s.ev x) f s K
  | .indexAddr t x i => aindexAddr T t (s.ev x) (s.ev i) s K
  | .index t x i => aindex P T t (s.ev x) (s.ev i) s K
  | .extract x i => aextract (s.ev x) i s K
  | .call { callee := .value f, args := args, .. } => acall P L f args.toList s K
  | .call { callee := .builtin b, args := args, argTypes := ts } => match b with
    | .len => match args.toList, ts.toList with
      | [x], [t] => alen T t (s.ev x) s K
      | _, _ => False
    | .append => match args.toList with
      | [x, y] => aappend T L ts.toList (s.ev x) (s.ev y) s K
      | _ => False
    | .max => aminmax true (args.toList.map s.ev) s K
    | .min => aminmax false (args.toList.map s.ev) s K
    | _ => False
  | _ => False
def aop (P : Program) (T : TypeId → Option TI) (L : Nat) (o : Op) (s : St) (K : AV → St → Prop) : Prop := aop0 P T L o s K ∨ stepP (gpre T o s) K ∨ stepP (fpost T L o s) K ∨ aappB T L o s K
theorem Rel.evs {B : Nat} {ι : Loc} {s : St} {a : Act} {w : World} (h : Rel Hd B ι s a w) (xs : List Operand) : rels Hd ι w (xs.map s.ev) (xs.map a.eval) := by
  induction xs with
  | nil => rfl
  | cons x xs ih => exact ⟨_, _, rfl, h.ev x, ih⟩
section
variable {F : Fence} {n : Nat} {P : Program} {T : TypeId → Option TI} {B : Nat} {ι : Loc} {s : St} {a : Act} {w : World} {K : AV → St → Prop} {next : Act → World → Prop} {Q : Exit → Act → World → Prop}
theorem gsliceL_ty {T : TypeId → Option TI} {t : TypeId} {x z : AV} {lo hi mx : Option AV} {s s' : St} {C : Prop} (e : gsliceL T t x lo hi mx s = some (C, z, s')) : q1z T t = true := by
  unfold gsliceL at e
  unfold q1z
  split at e <;> try (cases e; done)
  rename_i ti ht
  split at e <;> try (cases e; done)
  rename_i el hd
  simp [ht, hd]
theorem gsliceR_ty {T : TypeId → Option TI} {t : TypeId} {x z : AV} {lo hi mx : Option AV} {s s' : St} {C : Prop} (e : gsliceR T t x lo hi mx s = some (C, z, s')) : q1z T t = true := by
  unfold gsliceR at e
  unfold q1z
  split at e <;> try (cases e; done)
  split at e <;> try (cases e; done)
  rename_i ti ht
  split at e <;> try (cases e; done)
  rename_i el hd
  simp [ht, hd]
theorem sliceAt_slice {P : Program} {T : TypeId → Option TI} (hT : TyOk P T) {t : TypeId} (ht : q1z T t = true) (xv : Value) (lo hi mx : Option Value) : (Instr.sliceAt t xv lo hi mx).run P w = (Instr.slice t xv lo hi mx).run P w := by
  unfold q1z at ht
  split at ht <;> try (cases ht; done)
  rename_i ti hti
  split at ht <;> try (cases ht; done)
  rename_i el hd
  simp only [Instr.sliceAt, Sem.run_bind, run_underlying hT hti, Result.andThen_ok, hd]
theorem q0a {o : Oper} (hF : Wide F) (hnd : ∀ c, o.op ≠ .defer c) {m : Sem Value} (hm : (execOp a.eval o).run P w = (do pure (Next.value (← m)) : Sem Next).run P w) (ho : Out P Hd L B ι a w m isV K)
    (hn : ∀ x y s' ι' w', rel Hd ι' w' x y → Rel Hd B ι' s' a w' → Ext L ι w ι' w' → K x s' → next (a.put o.dst y) w') : o.wpIn F n P a w next Q := by
  obtain ⟨r, y, w', ι', x, s', h1, rfl, h2, h3, h4, h5⟩ := ho
  refine ⟨fun f _ => hF.fn f, ?_⟩
  rw [Oper.semAt_eq _ _ _ hnd, hm]
  simp only [Sem.run_bind, h1, Result.andThen_ok, Sem.run_pure, Oper.uponIn_value]
  exact hn x r s' ι' w' h2 h3 h4 h5
theorem acalls_sound {o : Oper} {c : Call} {f : Operand} {g : FuncId} {caps : List AV} (hF : Wide F) (hoc : o.op = .call c) (hcf : c.callee = .value f) (h : Rel Hd B ι s a w) (hg : s.ev f = .fn g caps) (hK : ACalls P L g s (c.args.toList.map s.ev ++ caps) K)
    (hn : ∀ x y s' ι' w', rel Hd ι' w' x y → Rel Hd B ι' s' a w' → Ext L ι w ι' w' → K x s' → next (a.put o.dst y) w') : o.wpIn F n P a w next Q := by
  by_cases hX : ∃ x, XCall P g s.mem (c.args.toList.map s.ev ++ caps) x ∧ K x s
  · obtain ⟨x, ⟨fn, hfn, hX⟩, hKx⟩ := hX
    have hfv := h.ev f
    rw [hg] at hfv
    obtain ⟨cvs, hfe, hcr⟩ := hfv
    obtain ⟨y, hy1, hy2⟩ := hX Hd B ι s.tmps a w _ h (q10 (h.evs c.args.toList) hcr)
    have hrun : (execOp a.eval o).run P w = .ok (.value y) w := by
      have harr : (c.args.map a.eval) ++ cvs.toArray = (c.args.toList.map a.eval ++ cvs).toArray := by
        apply Array.ext'; simp
      rw [← harr] at hy1
      unfold execOp
      simp only [hoc, resolve, hcf, hfe, Deferred.ofValue, Sem.run_bind, Sem.run_pure, Result.andThen_ok, invoke, Array.empty_append, hy1]
    refine ⟨fun f _ => hF.fn f, ?_⟩
    rw [Oper.semAt_eq _ _ _ (by rw [hoc]; intro c; exact fun h => by cases h), hrun, Oper.uponIn_value]
    exact hn x y s ι w hy2 h (Ext.refl _ _) hKx
  have hent : Enters P g := by
    rcases hK with hK | ⟨kp, _, hK⟩ | ⟨k, b, blk, x, _, hK, _⟩ | hK
    · exact hK.1
    · exact hK.1
    · exact hK.1
    · exact absurd hK hX
  obtain ⟨fn, hfn, hbody, hname⟩ := hent
  have hfv := h.ev f
  rw [hg] at hfv
  obtain ⟨cvs, hfe, hcr⟩ := hfv
  have hargs := h.evs c.args.toList
  have hall := q10 hargs hcr
  have hR0 : Rel Hd 0 ι ⟨c.args.toList.map s.ev ++ caps, s.mem⟩ ⟨(c.args.toList.map a.eval ++ cvs).toArray, []⟩ w := ⟨h.len, h.lt, h.inj, by simpa using hall, h.mem, ⟨[], rfl, List.nodup_nil, fun r hr => by cases hr⟩, h.hid, h.glob⟩
  have hrun : (execOp a.eval o).run P w = .ok (.enter g (c.args.toList.map a.eval ++ cvs).toArray) w := by
    have harr : (c.args.map a.eval) ++ cvs.toArray = (c.args.toList.map a.eval ++ cvs).toArray := by
      apply Array.ext'; simp
    unfold execOp
    simp only [hoc, resolve, hcf, hfe, Deferred.ofValue, Sem.run_bind, Sem.run_pure, Result.andThen_ok, invoke, Array.empty_append, callFunc, run_program, hfn, hname, hbody, Bool.false_eq_true, if_false, harr]
  refine ⟨fun f _ => hF.fn f, ?_⟩
  rw [Oper.semAt_eq _ _ _ (by rw [hoc]; intro c; exact fun h => by cases h), hrun, Oper.uponIn_enter]
  refine ⟨(fun hd => by rw [hF.depth] at hd; cases hd), ?_⟩
  rcases hK with ⟨_, hK⟩ | ⟨kp, hkp, _, hK⟩ | ⟨k, b, blk, x, hLb, ⟨_, hK⟩, hKx⟩ | hK
  · refine (hF.callsIn (hK Hd ι w _ hR0)).mono ?_
    rintro e w' ⟨y, x, ι', m', rfl, hR', hE', hx⟩
    have hk : ∀ (b : Nat) (o : Option Nat), ι[b]? = some o → ι'[b]? = some o := fun b o ho => (hE' (b + 1)).keep b o (Nat.lt_succ_self b) ho
    obtain ⟨y', z', e1, hxy, rfl⟩ := hR'.tmps
    simp only [List.cons.injEq] at e1
    obtain ⟨rfl, _⟩ := e1
    exact hn x y { s with mem := m' } ι' w' hxy ⟨hR'.len, hR'.lt, hR'.inj, q0l (hE' 0) h.lt _ _ (fun b _ o ho => hk b o ho) h.tmps, hR'.mem, h.marks.ext (hE' 0), hR'.hid, hR'.glob⟩ (hE' L) hx
  · refine (hF.callsIn (hK Hd ι w _ hR0)).mono ?_
    rintro e w' ⟨y, x, ι', m', rfl, hR', hE', hk, hx⟩
    obtain ⟨y', z', e1, hxy, rfl⟩ := hR'.tmps
    simp only [List.cons.injEq] at e1
    obtain ⟨rfl, _⟩ := e1
    exact hn x y ⟨cutVs kp s.tmps, m'⟩ ι' w' hxy ⟨hR'.len, hR'.lt, hR'.inj, cutVs_rel hE' hk h.lt _ _ h.tmps, hR'.mem, h.marks.ext hE', hR'.hid, hR'.glob⟩
      ⟨hE'.os, hE'.tape, hE'.output, hE'.size, hE'.imm, hE'.shape, fun b o hb ho => hk b o (hkp b hb) ho⟩ hx
  · obtain ⟨hR1, hE1⟩ := hR0.places (L := L) (w' := w) k rfl rfl rfl rfl
    obtain ⟨hS1, _⟩ := h.places (L := L) (w' := w) k rfl rfl rfl rfl
    refine (hF.callsIn (hK Hd _ w _ hR1)).mono ?_
    rintro e w' ⟨y, ι', rfl, hR', hE', hk⟩
    have hE2 : Ext L (ι ++ List.replicate k none) w ι' w' := ⟨hE'.os, hE'.tape, hE'.output, hE'.size, hE'.imm, hE'.shape, fun b' o hb ho => hk b' o (by omega) ho⟩
    obtain ⟨y', z', e1, hxy, rfl⟩ := hR'.tmps
    simp only [List.cons.injEq] at e1
    obtain ⟨rfl, _⟩ := e1
    exact hn x y (({ s with mem := s.mem ++ List.replicate k .gone } : St).rehome b blk) ι' w' hxy
      ⟨hR'.len, hR'.lt, hR'.inj, q3e hE2 hS1.lt hk _ _ hS1.tmps, hR'.mem, hS1.marks.ext hE2, hR'.hid, hR'.glob⟩ (hE1.trans hE2) hKx
  · exact absurd hK hX
theorem acallS_sound {o : Oper} {c : Call} {f : Operand} (hF : Wide F) (hoc : o.op = .call c) (hcf : c.callee = .value f) (h : Rel Hd B ι s a w) (hK : acallS P L f c.args.toList s K)
    (hn : ∀ x y s' ι' w', rel Hd ι' w' x y → Rel Hd B ι' s' a w' → Ext L ι w ι' w' → K x s' → next (a.put o.dst y) w') : o.wpIn F n P a w next Q := by
  unfold acallS at hK
  split at hK <;> try exact hK.elim
  rename_i g _ hg
  generalize hs1 : s.shutAll (q0w (c.args.toList.map s.ev)) = s1 at hK
  split at hK <;> try exact hK.elim
  rename_i g' caps hg'
  obtain ⟨hLow, rfl, hK⟩ := hK
  obtain ⟨ι1, hR1, hE1⟩ := Rel.shutAll (L := L) (q0w (c.args.toList.map s.ev)) h (fun b hb => by simpa using List.all_eq_true.1 hLow b hb)
  rw [hs1] at hR1
  exact acalls_sound hF hoc hcf hR1 hg' hK (fun x y s' ι' w' k1 k2 k3 => hn x y s' ι' w' k1 k2 (hE1.trans k3))
theorem acallD_sound {o : Oper} {c : Call} {f : Operand} (hF : Wide F) (hoc : o.op = .call c) (hcf : c.callee = .value f) (h : Rel Hd B ι s a w) (hK : acallD P L f c.args.toList s K)
    (hn : ∀ x y s' ι' w', rel Hd ι' w' x y → Rel Hd B ι' s' a w' → Ext L ι w ι' w' → K x s' → next (a.put o.dst y) w') : o.wpIn F n P a w next Q := by
  unfold acallD at hK
  split at hK <;> try exact hK.elim
  rename_i g caps hg
  exact acalls_sound hF hoc hcf h hg hK hn
theorem acall_sound {o : Oper} {c : Call} {f : Operand} (hF : Wide F) (hoc : o.op = .call c) (hcf : c.callee = .value f) (h : Rel Hd B ι s a w) (hK : acall P L f c.args.toList s K)
    (hn : ∀ x y s' ι' w', rel Hd ι' w' x y → Rel Hd B ι' s' a w' → Ext L ι w ι' w' → K x s' → next (a.put o.dst y) w') : o.wpIn F n P a w next Q :=
  by
  rcases hK with hK | hK | ⟨bs, _, _, hLow, hK⟩
  · exact acallS_sound hF hoc hcf h hK hn
  · exact acallD_sound hF hoc hcf h hK hn
  · obtain ⟨ι1, hR1, hE1⟩ := Rel.shutAll (L := L) bs h (fun b hb => by simpa using List.all_eq_true.1 hLow b hb)
    exact acallD_sound hF hoc hcf hR1 hK (fun x y s' ι' w' k1 k2 k3 => hn x y s' ι' w' k1 k2 (hE1.trans k3))
theorem aop0_sound (hT : TyOk P T) {o : Oper} (hF : Wide F) (h : Rel Hd B ι s a w) (hK : aop0 P T L o.op s K)
    (hn : ∀ x y s' ι' w', rel Hd ι' w' x y → Rel Hd B ι' s' a w' → Ext L ι w ι' w' → K x s' → next (a.put o.dst y) w') : o.wpIn F n P a w next Q := by
  unfold aop0 at hK
  split at hK
  case h_1 x ho => exact q0a hF (by rw [ho]; simp) (m := Pure.pure (a.eval x)) (by simp [execOp, ho]) (Out.mk' h hK rfl (h.ev x)) hn
  case h_2 x ho => exact q0a hF (by rw [ho]; simp) (m := Pure.pure (a.eval x)) (by simp [execOp, ho]) (Out.mk' h hK rfl (h.ev x)) hn
  case h_3 c x y ho => exact q0a hF (by rw [ho]; simp) (by simp [execOp, ho]) (apick_sound h (h.ev c) (h.ev x) (h.ev y) hK) hn
  case h_4 t ho => exact q0a hF (by rw [ho]; simp) (by simp [execOp, ho]) (aalloc_sound hT h hK) hn
  case h_5 t x ho => exact q0a hF (by rw [ho]; simp) (by simp [execOp, ho]) (abox_sound (t := t) h (h.ev x) hK) hn
  case h_6 t parts ho => exact q0a hF (by rw [ho]; simp) (by simp [execOp, ho]) (abuild_sound hT h hK.1 hK.2) hn
  case h_7 t len parts ho => exact q0a hF (by rw [ho]; simp) (by simp [execOp, ho]) (abuildSlice_sound hT h hK) hn
  case h_8 t x ho =>
    obtain ⟨y, v, h1, h2, h3⟩ := aload_sound hT h (h.ev x) hK
    exact q0a hF (by rw [ho]; simp) (by simp [execOp, ho]) (Out.mk' h h3 h1 h2) hn
  case h_9 t p x ho =>
    obtain ⟨r, y, w', ι', x', s', h1, rfl, h2, h3, h4, h5⟩ := astore_sound hT h (h.ev p) (h.ev x) hK
    refine ⟨fun f _ => hF.fn f, ?_⟩
    rw [Oper.semAt_eq _ _ _ (by rw [ho]; simp)]
    have hrun : (execOp a.eval o).run P w = .ok .skip w' := by simp [execOp, ho, h1]
    rw [hrun, Oper.uponIn_skip]
    exact hn x' undef s' ι' w' h2 h3 h4 h5
  case h_10 x ho =>
    have hx := h.ev x
    split at hK <;> try exact hK.elim
    · rename_i b c he
      rw [he] at hx
      have hx' := hx
      obtain ⟨r, hr, _⟩ := hx'
      exact q0a hF (by rw [ho]; simp) (m := Pure.pure (a.eval x)) (by simp [execOp, ho, hr]) (Out.mk' h hK rfl hx) hn
    · rename_i b sz i c he
      rw [he] at hx
      have hx' := hx
      obtain ⟨r, hr, _⟩ := hx'
      exact q0a hF (by rw [ho]; simp) (m := Pure.pure (a.eval x)) (by simp [execOp, ho, hr]) (Out.mk' h hK rfl hx) hn
    · rename_i cs he
      rw [he] at hx
      have hx' := hx
      obtain ⟨_, r, off, vs, hr, _⟩ := hx'
      exact q0a hF (by rw [ho]; simp) (m := Pure.pure (a.eval x)) (by simp [execOp, ho, hr]) (Out.mk' h hK rfl hx) hn
  case h_11 op t x y yt ho =>
    rcases hK with hK | ⟨C, x', s', he, hC, hK⟩
    · exact q0a hF (by rw [ho]; simp) (by simp [execOp, ho]) (abin_sound h (h.ev x) (h.ev y) hK) hn
    · exact q0a hF (by rw [ho]; simp) (by simp [execOp, ho]) (gbin_sound (xo := x) (yo := y) hT h (h.ev x) (h.ev y) he hC hK) hn
  case h_12 op t x ho => exact q0a hF (by rw [ho]; simp) (by simp [execOp, ho]) (aunary_sound h (h.ev x) hK) hn
  case h_13 src dst x ho => exact q0a hF (by rw [ho]; simp) (by simp [execOp, ho]) (hK.elim (fun hK => aconvert_sound hT h (h.ev x) hK) (fun hK => aconvS_sound hT h (h.ev x) hK)) hn
  case h_14 f first caps ho =>
    obtain ⟨h0, hK⟩ := hK
    have hf : first.map a.eval = #[] := Array.eq_empty_of_size_eq_zero (by simpa using h0)
    refine q0a hF (by rw [ho]; simp) (m := Pure.pure (.func (.func f) #[] (caps.map a.eval))) ?_ (Out.mk' h hK rfl ⟨caps.toList.map a.eval, by congr 1; apply Array.ext'; simp, h.evs _⟩) hn
    simp [execOp, ho, Instr.makeFunc, hf]
  case h_15 t x lo hi mx ho =>
    rcases hK with hK | ⟨C, x', s', he, hC, hK⟩
    · exact q0a hF (by rw [ho]; simp) (by simp [execOp, ho]) (aslice_sound hT h (h.ev x) hK.2 hK.1) hn
    · rw [q3x, q3x, q3x] at he
      exact q0a hF (by rw [ho]; simp) (by simp [execOp, ho, sliceAt_slice hT (gsliceL_ty he)]) (gsliceL_sound hT h (h.ev x) he hC hK) hn
  case h_16 t x f ho => exact q0a hF (by rw [ho]; simp) (by simp [execOp, ho]) (afieldAddr_sound hT h (h.ev x) hK) hn
  case h_17 t x f ho => exact q0a hF (by rw [ho]; simp) (by simp [execOp, ho]) (afield_sound hT h (h.ev x) hK) hn
  case h_18 t x i ho => exact q0a hF (by rw [ho]; simp) (by simp [execOp, ho]) (aindexAddr_sound hT h (h.ev x) (h.ev i) hK) hn
  case h_19 t x i ho => exact q0a hF (by rw [ho]; simp) (by simp [execOp, ho]) (aindex_sound hT h (h.ev x) (h.ev i) hK) hn
  case h_20 x i ho => exact q0a hF (by rw [ho]; simp) (by simp [execOp, ho]) (aextract_sound h (h.ev x) hK) hn
  case h_21 f args ts ho => exact acall_sound hF ho rfl h hK hn
  case h_22 b args ts ho =>
    have hargs : args.map a.eval = (args.toList.map a.eval).toArray := by apply Array.ext'; simp
    split at hK <;> try exact hK.elim
    · split at hK <;> try exact hK.elim
      rename_i x t ha hts
      have e1 : args = #[x] := by rw [← Array.toArray_toList (xs := args), ha]
      have e2 : ts = #[t] := by rw [← Array.toArray_toList (xs := ts), hts]
      subst e1; subst e2
      exact q0a hF (by rw [ho]; simp) (by simp [execOp, ho, resolve, invoke, builtin]) (alen_sound (ty := o.type) hT h (h.ev x) hK) hn
    · split at hK <;> try exact hK.elim
      rename_i x y ha
      have e1 : args = #[x, y] := by rw [← Array.toArray_toList (xs := args), ha]
      subst e1
      exact q0a hF (by rw [ho]; simp) (by simp [execOp, ho, resolve, invoke, builtin]) (aappend_sound (ty := o.type) hT h (h.ev x) (h.ev y) hK) hn
    · exact q0a hF (by rw [ho]; simp) (by simp [execOp, ho, resolve, invoke, builtin, hargs]) (amax_sound (ts := ts) (ty := o.type) h (h.evs _) hK) hn
    · exact q0a hF (by rw [ho]; simp) (by simp [execOp, ho, resolve, invoke, builtin, hargs]) (amin_sound (ts := ts) (ty := o.type) h (h.evs _) hK) hn
  case h_23 => exact hK.elim
theorem q2n (hT : TyOk P T) {o : Oper} (hF : Wide F) (h : Rel Hd B ι s a w) (hK : aop P T L o.op s K)
    (hn : ∀ x y s' ι' w', rel Hd ι' w' x y → Rel Hd B ι' s' a w' → Ext L ι w ι' w' → K x s' → next (a.put o.dst y) w') : o.wpIn F n P a w next Q := by
  rcases hK with hK | ⟨C, x', s', he, hC, hK⟩ | ⟨C, x', s', he, hC, hK⟩ | hK
  · exact aop0_sound hT hF h hK hn
  · unfold gpre at he
    split at he
    · rename_i t len parts ho
      exact q0a hF (by rw [ho]; simp) (by simp [execOp, ho]) (gbuildB_sound hT h he hC hK) hn
    · rename_i t x ho
      exact q0a hF (by rw [ho]; simp) (by simp [execOp, ho]) (gloadB_sound hT h (h.ev x) he hC hK) hn
    · unfold fpre at he
      split at he <;> try (cases he; done)
      rename_i t x lo hi mx ho
      rw [q3x, q3x, q3x] at he
      exact q0a hF (by rw [ho]; simp) (by simp [execOp, ho, sliceAt_slice hT (gsliceR_ty he)]) (gsliceR_sound hT h (h.ev x) he hC hK) hn
  · unfold fpost at he
    split at he <;> try (cases he; done)
    · rename_i t l c ho
      exact q0a hF (by rw [ho]; simp) (by simp [execOp, ho]) (gmake_sound hT h (h.ev l) (h.ev c) he hC hK) hn
    · rename_i b args ts ho
      split at he <;> try (cases he; done)
      · split at he <;> try (cases he; done)
        rename_i x y ha
        have e1 : args = #[x, y] := by rw [← Array.toArray_toList (xs := args), ha]
        subst e1
        exact q0a hF (by rw [ho]; simp) (by simp [execOp, ho, resolve, invoke, builtin]) (gappend_sound (ty := o.type) hT h (h.ev x) (h.ev y) he hC hK) hn
      · split at he <;> try (cases he; done)
        rename_i x t ha hts
        have e1 : args = #[x] := by rw [← Array.toArray_toList (xs := args), ha]
        have e2 : ts = #[t] := by rw [← Array.toArray_toList (xs := ts), hts]
        subst e1; subst e2
        exact q0a hF (by rw [ho]; simp) (by simp [execOp, ho, resolve, invoke, builtin]) (gcap_sound (ty := o.type) hT h (h.ev x) he hC hK) hn
      · split at he <;> try (cases he; done)
        rename_i x y t t2 ha hts
        have e1 : args = #[x, y] := by rw [← Array.toArray_toList (xs := args), ha]
        have e2 : ts = #[t, t2] := by rw [← Array.toArray_toList (xs := ts), hts]
        subst e1; subst e2
        exact q0a hF (by rw [ho]; simp) (by simp [execOp, ho, resolve, invoke, builtin]) (gcopy_sound (ty := o.type) (t2 := t2) hT h (h.ev x) (h.ev y) he hC hK) hn
      · split at he <;> try (cases he; done)
        rename_i x t ha hts
        have e1 : args = #[x] := by rw [← Array.toArray_toList (xs := args), ha]
        have e2 : ts = #[t] := by rw [← Array.toArray_toList (xs := ts), hts]
        subst e1; subst e2
        exact q0a hF (by rw [ho]; simp) (by simp [execOp, ho, resolve, invoke, builtin]) (gclear_sound (ty := o.type) hT h (h.ev x) he hC hK) hn
  · unfold aappB at hK
    split at hK <;> try exact hK.elim
    rename_i args ts ho
    split at hK <;> try exact hK.elim
    rename_i x y ha
    have e1 : args = #[x, y] := by rw [← Array.toArray_toList (xs := args), ha]
    subst e1
    exact q0a hF (by rw [ho]; simp) (by simp [execOp, ho, resolve, invoke, builtin]) (aappBx_sound (ty := o.type) hT h (h.ev x) (h.ev y) hK) hn
end
end Go.Proofs.YtdkcpcflfnakdaaGreat.Sym
