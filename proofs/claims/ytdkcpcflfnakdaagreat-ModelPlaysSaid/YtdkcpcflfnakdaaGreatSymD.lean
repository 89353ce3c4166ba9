/- A text of the walk that proves a law of this seat; joined by a program. -/
import Derived.Test.YtdkcpcflfnakdaaGreatSymC
set_option linter.unusedSimpArgs false
set_option linter.unusedVariables false
namespace Go.Proofs.YtdkcpcflfnakdaaGreat.Sym
open Go Go.RowKit
variable {L : Nat} {Hd : Nat → Prop}
variable {B : Nat} {K : AV → St → Prop} {P : Program} {T : TypeId → Option TI} {a : Act} {s : St} {t : TypeId} {w : World} {x : AV} {ι : Loc}
theorem Out.mk' {m : Sem Value} (h : Rel Hd B ι s a w) {y : Value} (hK : K x s) (hr : m.run P w = .ok y w) (hx : rel Hd ι w x y) : Out P Hd L B ι a w m isV K :=
 ⟨y, y, w, ι, x, s, hr, rfl, hx, h, Ext.refl _ _, hK⟩
def q8k (T : TypeId → Option TI) (t : TypeId) (p : AV) (f : Nat) (s : St) (K : AV → St → Prop) : Prop :=
 match T t with
 | some ti => match ti.desc with
  | .struct fs => match fs[f]? with
   | some fd => match T fd.type with
    | some fi => fi.size ≠ 0 ∧ match p with
     | .rp cs => K (.rp (cs.drop fd.offset)) s
     | .ptr b c => K (.ptr b (c + fd.offset)) s
     | .ep b sz i c => K (.ep b sz i (c + fd.offset)) s
     | _ => False
    | none => False
   | none => False
  | _ => False
 | none => False
theorem q6s (r o n : Nat) : (Addr.add ⟨r, o, none⟩ n : Addr) = ⟨r, o + n, none⟩ := by
 unfold Addr.add; split
 · next h => subst h; rfl
 · rfl
theorem qjj (hT : TyOk P T) (h : Rel Hd B ι s a w) {p : AV} {pv : Value} {f : Nat} (hp : rel Hd ι w p pv) (hK : q8k T t p f s K) : Out P Hd L B ι a w (Instr.fieldAt t pv f) isV K := by
 unfold q8k at hK
 split at hK <;> try exact hK.elim
 rename_i ti ht
 split at hK <;> try exact hK.elim
 rename_i fs hd
 split at hK <;> try exact hK.elim
 rename_i fd hf
 split at hK <;> try exact hK.elim
 rename_i fi hfi
 obtain ⟨hne, hK⟩ := hK
 have run : ∀ r o, (Instr.fieldAt t (.pointer (some ⟨r, o, none⟩)) f).run P w = .ok (.pointer (some ⟨r, o + fd.offset, none⟩)) w := by
  intro r o
  simp only [Instr.fieldAt, z0s, run_underlying hT ht, z0b, hd, hf, Instr.sureAddr, z15, fieldPlace, q10 hT hfi]
  rw [if_neg hne]
  simp [q6s]
 cases p with
 | rp cs =>
  obtain ⟨hpu, r, off, vs, rfl, hi, h1, h2⟩ := hp
  exact Out.mk' h hK (run _ _) ⟨q25 hpu _, r, off + fd.offset, vs.drop fd.offset, rfl, hi, q1u _ h1, h2.drop _⟩
 | ptr b c =>
  obtain ⟨r, rfl, hb⟩ := hp
  exact Out.mk' h hK (run _ _) ⟨r, rfl, hb⟩
 | ep b sz i c =>
  obtain ⟨r, rfl, hb⟩ := hp
  refine Out.mk' h hK (run _ _) ⟨r, ?_, hb⟩
  rw [z4j]
 | _ => exact hK.elim
def apart (T : TypeId → Option TI) (t : TypeId) (cs : List AV) (off : Nat) (K : AV → Prop) : Prop :=
 match T t with
 | some fi => if fi.isAgg then off + fi.size ≤ cs.length ∧ K (.agg ((cs.drop off).take fi.size)) else match cs.drop off with | c :: _ => K c | [] => False
 | none => False
theorem qdj (hT : TyOk P T) {K : AV → Prop} {cs : List AV} {off : Nat} {vs : List Value} (hr : rels Hd ι w cs vs) (hK : apart T t cs off K) : ∃ x y, (part t vs.toArray off).run P w = .ok y w ∧ rel Hd ι w x y ∧ K x := by
 unfold apart at hK
 split at hK <;> try exact hK.elim
 rename_i fi ht
 simp only [part, z0s, qnb hT ht, z0b]
 by_cases ha : fi.isAgg = true
 · rw [if_pos ha] at hK ⊢
   refine ⟨.agg ((cs.drop off).take fi.size), .agg ((vs.drop off).take fi.size).toArray, ?_, ⟨_, rfl, q2c _ (q1u off hr)⟩, hK.2⟩
   simp only [z0s, z15, q10 hT ht, z0b]
   congr 2
   simp
 · rw [if_neg ha] at hK ⊢
   split at hK
   · rename_i c cs' hc
     have h1 := q1u off hr
     rw [hc] at h1
     obtain ⟨y, zs, hy, h2, _⟩ := h1
     refine ⟨c, y, ?_, h2, hK⟩
     have : vs[off]? = some y := by
      have := congrArg (·[0]?) hy
      simpa using this
     simp [this]
   · exact hK.elim
def qg7 (T : TypeId → Option TI) (t : TypeId) (x : AV) (f : Nat) (s : St) (K : AV → St → Prop) : Prop :=
 match T t with
 | some ti => match ti.desc with
  | .struct fs => match fs[f]? with
   | some fd => match x with
    | .agg cs => apart T fd.type cs fd.offset (fun y => K y s)
    | _ => False
   | none => False
  | _ => False
 | none => False
theorem qp7 (hT : TyOk P T) (h : Rel Hd B ι s a w) {xv : Value} {f : Nat} (hx : rel Hd ι w x xv) (hK : qg7 T t x f s K) : Out P Hd L B ι a w (Instr.field t xv f) isV K := by
 unfold qg7 at hK
 split at hK <;> try exact hK.elim
 rename_i ti ht
 split at hK <;> try exact hK.elim
 rename_i fs hd
 split at hK <;> try exact hK.elim
 rename_i fd hf
 split at hK <;> try exact hK.elim
 rename_i cs
 obtain ⟨vs, rfl, hr⟩ := hx
 obtain ⟨x', y, h1, h2, h3⟩ := qdj (P := P) hT hr hK
 refine Out.pure h ?_ h2 h3
 simp only [Instr.field, z0s, run_underlying hT ht, z0b, hd, hf, asAgg, z15, h1]
def q96 (T : TypeId → Option TI) (t : TypeId) (x i : AV) (s : St) (K : AV → St → Prop) : Prop :=
 match T t with
 | some ti => match i with
  | .v (.int _ n) => match ti.desc with
   | .slice e => match T e with
    | some te => match x with
     | .sl sz xs => te.size = sz ∧ ∃ h : 0 ≤ n ∧ n.toNat < xs.length, (xs[n.toNat]'h.2).known = true ∧ K (.rp (xs[n.toNat]'h.2).cells) s
     | .own b sz off len => te.size = sz ∧ (0 ≤ n ∧ n.toNat < len) ∧ K (.ep b sz (off + n.toNat) 0) s
     | _ => False
    | none => False
   | .array len e => match T e with
    | some te => (0 ≤ n ∧ n.toNat < len) ∧ match x with
     | .ptr b c => K (.ptr b (c + n.toNat * te.size)) s
     | .rp cs => K (.rp (cs.drop (n.toNat * te.size))) s
     | .ep b sz j c => K (.ep b sz j (c + n.toNat * te.size)) s
     | _ => False
    | none => False
   | _ => False
  | _ => False
 | none => False
theorem qji (hT : TyOk P T) (h : Rel Hd B ι s a w) {i : AV} {xv iv : Value} (hx : rel Hd ι w x xv) (hi : rel Hd ι w i iv) (hK : q96 T t x i s K) : Out P Hd L B ι a w (Instr.indexAt t xv iv) isV K := by
 unfold q96 at hK
 split at hK <;> try exact hK.elim
 rename_i ti ht
 split at hK <;> try exact hK.elim
 rename_i k n
 cases hi
 split at hK <;> try exact hK.elim
 · rename_i e hd
   split at hK <;> try exact hK.elim
   rename_i te hte
   split at hK <;> try exact hK.elim
   · rename_i sz xs
     obtain ⟨rfl, hn, hkn, hK⟩ := hK
     obtain ⟨hpu, ad, cap, vs, rfl, hc, hr, hm⟩ := hx
     rcases hm with rfl | ⟨r, off, rfl, him, hrow⟩
     · simp at hn
     have hn2 := hn.2
     have hlt : n.toNat < vs.length := by rw [← q0h hr]; exact hn.2
     obtain ⟨y, hy1, hy2⟩ := q9r hr (z05 hn2)
     have hy : vs[n.toNat] = y := by
      rw [z05 hlt] at hy1; simpa using hy1
     refine Out.mk' h hK (y := .pointer (some ⟨r, off + n.toNat * te.size, none⟩)) ?_ ⟨qks (q0x.1 hpu _ (z1i hn2)), r, _, _, rfl, him, q6h hy2 (AV.known_ne hkn), hy ▸ hrow.cells hlt⟩
     have hn3 : 0 ≤ n ∧ n < (xs.length : Int) := by omega
     simp only [Instr.indexAt, asIntOf, z0s, z15, z0b, run_underlying hT ht, hd, hn3, and_self, if_true, q10 hT hte, q6s]
   · rename_i b sz off len
     obtain ⟨rfl, hn, hK⟩ := hK
     rcases hx with ⟨r, cap, n', t', rfl, hc, hmx, hb, hs, hn'⟩ | ⟨a0, rfl, h1, h2, h3⟩
     · refine Out.mk' h hK (y := .pointer (some ⟨r, off * te.size + n.toNat * te.size, none⟩)) ?_ ⟨r, ?_, hb⟩
       · have hn3 : 0 ≤ n ∧ n < (len : Int) := by omega
         simp only [Instr.indexAt, asIntOf, z0s, z15, z0b, run_underlying hT ht, hd, hn3, and_self, if_true, q10 hT hte, q6s]
       · rw [z1y, z25]
     · omega
 · rename_i len e hd
   split at hK <;> try exact hK.elim
   rename_i te hte
   obtain ⟨hn, hK⟩ := hK
   have run : ∀ r o, (Instr.indexAt t (.pointer (some ⟨r, o, none⟩)) (.int k n)).run P w = .ok (.pointer (some ⟨r, o + n.toNat * te.size, none⟩)) w := by
    intro r o
    have hn3 : 0 ≤ n ∧ n < (len : Int) := by omega
    simp only [Instr.indexAt, asIntOf, Instr.sureAddr, z0s, z15, z0b, run_underlying hT ht, hd, hn3, and_self, if_true, q10 hT hte, q6s]
   split at hK <;> try exact hK.elim
   · obtain ⟨r, rfl, hb⟩ := hx
     exact Out.mk' h hK (run _ _) ⟨r, rfl, hb⟩
   · obtain ⟨hpu, r, off, vs, rfl, hi, h1, h2⟩ := hx
     exact Out.mk' h hK (run _ _) ⟨q25 hpu _, r, _, _, rfl, hi, q1u _ h1, h2.drop _⟩
   · obtain ⟨r, rfl, hb⟩ := hx
     refine Out.mk' h hK (run _ _) ⟨r, ?_, hb⟩
     rw [z4j]
def qf6 (place : Nat → Option (Nat × Nat)) (cells : List AV) : List (Nat × AV) → (List AV → Prop) → Prop
 | [], K => K cells
 | (i, x) :: rest, K => match place i with
  | some (off, size) => x.known = true ∧ x.cells.length = size ∧ off + size ≤ cells.length ∧ qf6 place (q5c cells off x.cells) rest K
  | none => False
theorem qeu (place : Nat → Option (Nat × Nat)) : ∀ (parts : List (Nat × AV)) (vparts : List (Nat × Value)) (cells : List AV) (vs : Array Value) (K : List AV → Prop),
 rels Hd ι w cells vs.toList → parts.map Prod.fst = vparts.map Prod.fst → rels Hd ι w (parts.map Prod.snd) (vparts.map Prod.snd) → qf6 place cells parts K →
 ∃ cells' vs', Instr.fill place vs vparts = some vs' ∧ rels Hd ι w cells' vs'.toList ∧ vs'.size = vs.size ∧ K cells'
 | [], vparts, cells, vs, K, hc, hf, _, hK => by
  cases vparts with
  | nil => exact ⟨cells, vs, rfl, hc, rfl, hK⟩
  | cons a b => simp at hf
 | (i, x) :: rest, vparts, cells, vs, K, hc, hf, hs, hK => by
  cases vparts with
  | nil => simp at hf
  | cons a vrest =>
   obtain ⟨i', v⟩ := a
   simp only [z0r, z0h] at hf hs
   obtain ⟨rfl, hf⟩ := hf
   obtain ⟨y, zs, e, h1, h2⟩ := hs
   simp only [z0h] at e
   obtain ⟨rfl, rfl⟩ := e
   simp only [qf6] at hK
   cases hp : place i with
   | none => simp [hp] at hK
   | some os =>
    obtain ⟨off, size⟩ := os
    simp only [hp] at hK
    obtain ⟨hk, hl, hfit, hK⟩ := hK
    have hcx := q6h h1 (AV.known_ne hk)
    have hlx := q0h hcx
    have hlc := q0h hc
    simp only [z1g] at hlx hlc
    have hsp := qdq (c := off) hc hcx (by omega)
    obtain ⟨cells', vs', hv1, hv2, hv3, hv4⟩ := qeu place rest vrest (q5c cells off x.cells) (q1h vs off v.cells.toList) K hsp hf h2 hK
    refine ⟨cells', vs', ?_, hv2, by rw [hv3, q8v], hv4⟩
    simp only [Instr.fill, hp]
    have hcond : ¬ ((decide (v.cells.size ≠ size) || decide (off + v.cells.size > vs.size)) = true) := by simp; omega
    have hfold : ∀ (us : List Value) (k o : Nat) (arr : Array Value), (us.zipIdx k).foldl (fun cs (c, j) => cs.setIfInBounds (o + j) c) arr = q1h arr (o + k) us := by
     intro us
     induction us with
     | nil => intro k o arr; rfl
     | cons u us ih => intro k o arr; simp only [List.zipIdx_cons, z2o, q1h]; rw [ih]; rfl
    have hfold' : (v.cells.zipIdx.foldl (fun cs (c, j) => cs.setIfInBounds (off + j) c) vs) = q1h vs off v.cells.toList := by
     have := hfold v.cells.toList 0 off vs
     rw [z1y] at this
     rw [← this, ← z4p]
     congr 1
     simp
    have hcond' : ¬ (v.cells.size ≠ size ∨ off + v.cells.size > vs.size) := by omega
    simp only [z1q, decide_eq_true_eq, if_neg hcond']
    rw [hfold']
    exact hv1
