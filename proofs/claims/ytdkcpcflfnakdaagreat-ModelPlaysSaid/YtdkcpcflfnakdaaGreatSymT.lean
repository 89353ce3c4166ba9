/- A text of the walk that proves a law of this seat; joined by a program. -/
import Derived.Test.YtdkcpcflfnakdaaGreatSymS
set_option linter.unusedSimpArgs false
set_option linter.unusedVariables false
namespace Go.Proofs.YtdkcpcflfnakdaaGreat.Sym
open Go Go.RowKit
variable {L : Nat} {Hd : Nat → Prop}
variable {a : Array Oper} {argv : List AV} {c want : Bool} {d : Option Tmp} {x y : Code} {x0 : AV}
def q59 (P : Program) (T : TypeId → Option TI) (L : Nat) (v : AV) (g : Nat) (want : Bool) (o : Op) (d : Option Tmp) (a : Array Oper) (rest : List Oper) (k : List Fr) (s : St) (K : AExit → St → Prop) : Prop :=
 match v with
 | .v (.bool c) => (c = want → opK P T L (q1g o) o d a rest k { s with tmps := s.tmps.set g (.v (.bool want)) } K) ∧
  (c = !want → go P T L (.ops a rest :: k) (({ s with tmps := s.tmps.set g (.v (.bool !want)) } : St).put d (.v undef)) K)
 | .v (.tuple _) => go P T L (.ops a rest :: k) (s.put d (.v undef)) K
 | _ => False
theorem qz6 {P : Program} {T : TypeId → Option TI} {g : Nat} {o : Op} {rest : List Oper} {k : List Fr} {s : St} {K : AExit → St → Prop} :
 qqu P T L (some g) want o d a rest k s K = q59 P T L (s.tmps.getD g .any) g want o d a rest k s K := _root_.id rfl
def q0q : List Oper → Nat
 | [] => 0
 | o :: os => (if q4g o.op = true then 1 else 0) + q0q os
def bump (o : Op) (nid : Nat) : Nat := if q4g o = true then nid + 1 else nid
def q3d (ops : Array Oper) (i : Nat) (o : Oper) (s : St) (x : AV) (wr : Wr) : Ent :=
 ⟨i, (o.looksAt ops).map (fun t => s.tmps.getD t .any), q3t o.op s, (q3t o.op s).map (fun b => s.mem[b]?), x, wr⟩
def drawD (r : Option (Prop × AV × Wr)) (k : AV → Wr → Prop) : Prop :=
 match r with
 | some (C, x, wr) => C ∧ k x wr
 | none => False
def drawC (P : Program) (L nid : Nat) (nw : Bool) (v : AV) (m : List AB) (argv : List AV) (k : AV → Wr → Prop) : Prop :=
 match v with
 | .fn g caps => ∃ x wr, Asks P L nid nw g m (argv ++ caps) x wr ∧ k x wr
 | _ => False
def ql8 (P : Program) (T : TypeId → Option TI) (L : Nat) (c : Option (Operand × Array Operand)) (o : Op) (nid : Nat) (s : St) (k : AV → Wr → Prop) : Prop :=
 match c with
 | some (f, args) => drawC P L nid (q4g o) (s.ev f) s.mem (evs s args.toList) k
 | none => drawD (q8j P T L nid o s) k
def q6x (P : Program) (T : TypeId → Option TI) (L : Nat) (ops : Array Oper) : List Oper → Nat → Nat → List Ent → St → (St → Prop) → Prop
 | [], i, nid, es, s, Kn => qb9 (q3n ops.toList []) ops es.reverse = true ∧ Kn s
 | o :: rest, i, nid, es, s, Kn => match o.guard with
  | none => ql8 P T L (q1g o.op) o.op nid s (fun x wr => q6x P T L ops rest (i + 1) (bump o.op nid) (q3d ops i o s x wr :: es) ((s.app wr).put o.dst x) Kn)
  | some (j, want) => match (ops[j]?).bind (·.dst) with
   | some g => match s.tmps.getD g .any with
    | .v (.bool c) => (c = want → ql8 P T L (q1g o.op) o.op nid { s with tmps := s.tmps.set g (.v (.bool want)) } (fun x wr => q6x P T L ops rest (i + 1) (bump o.op nid) (q3d ops i o { s with tmps := s.tmps.set g (.v (.bool want)) } x wr :: es) ((({ s with tmps := s.tmps.set g (.v (.bool want)) } : St).app wr).put o.dst x) Kn)) ∧
     (c = !want → q6x P T L ops rest (i + 1) (bump o.op nid) (q3d ops i o { s with tmps := s.tmps.set g (.v (.bool !want)) } (.v undef) none :: es) (({ s with tmps := s.tmps.set g (.v (.bool !want)) } : St).put o.dst (.v undef)) Kn)
    | .v (.tuple _) => q6x P T L ops rest (i + 1) (bump o.op nid) (q3d ops i o s (.v undef) none :: es) (s.put o.dst (.v undef)) Kn
    | _ => False
   | none => False
theorem qco {P : Program} {T : TypeId → Option TI} {o : Op} {nid : Nat} {s : St} {k : AV → Wr → Prop} (h : ql8 P T L (q1g o) o nid s k) : ∃ x wr, Act1 P T L nid o s x wr ∧ k x wr := by
 unfold ql8 at h
 split at h
 · rename_i f args hc
   unfold drawC at h
   split at h
   · rename_i g caps hf
     obtain ⟨x, wr, hcall, hk⟩ := h
     exact ⟨x, wr, .inr ⟨f, args, g, caps, hc, hf, hcall⟩, hk⟩
   · exact h.elim
 · rename_i hc
   unfold drawD at h
   split at h
   · rename_i C x wr e
     exact ⟨x, wr, .inl ⟨hc, C, e, h.1⟩, h.2⟩
   · exact h.elim
theorem q9f : ∀ (l m : List Oper), q0q (l ++ m) = q0q l + q0q m
 | [], m => by simp [q0q]
 | o :: l, m => by simp only [z1u, q0q, q9f l m]; omega
theorem q7t {l : List Oper} {i : Nat} {o : Oper} (h : l[i]? = some o) : q0q (l.take (i + 1)) = q0q (l.take i) + (if q4g o.op = true then 1 else 0) := by
 have hi := (z08.1 h).1
 have he := (z08.1 h).2
 rw [z51 hi, q9f, he]
 simp [q0q]
theorem qia (l : List Oper) (i : Nat) : q0q (l.take i) ≤ q0q l := by
 have := q9f (l.take i) (l.drop i)
 rw [z1o] at this
 omega
theorem qnh {P : Program} {T : TypeId → Option TI} {ops : Array Oper} {N : Nat} {Kn : St → Prop} {s0 : St} : ∀ (rest : List Oper) (i nid : Nat) (es : List Ent) (s : St),
 q6x P T L ops rest i nid es s Kn → rest = ops.toList.drop i → i ≤ ops.size → nid = N + q0q (ops.toList.take i) → RunE P T L ops (fun i => N + q0q (ops.toList.take i)) es.reverse s0 s → es.reverse.map Ent.i = List.range i →
 ∃ l s', RunE P T L ops (fun i => N + q0q (ops.toList.take i)) l s0 s' ∧ l.map Ent.i = List.range ops.size ∧ qb9 (q3n ops.toList []) ops l = true ∧ Kn s'
 | [], i, nid, es, s, h, hrest, hi, hnid, hr, hx => by
  have : ops.size ≤ i := by
   have := congrArg List.length hrest
   simp at this
   omega
  obtain rfl : i = ops.size := by omega
  exact ⟨es.reverse, s, hr, hx, h.1, h.2⟩
 | o :: rest, i, nid, es, s, h, hrest, hi, hnid, hr, hx => by
  have hlt : i < ops.size := by
   have := congrArg List.length hrest
   simp at this
   omega
  have hoi : ops.toList[i]? = some o := by
   have := congrArg (·[0]?) hrest
   simp at this
   simpa using this.symm
  have ho : ops[i]? = some o := by simpa using hoi
  have hrest' : rest = ops.toList.drop (i + 1) := by
   have := congrArg List.tail hrest
   simpa using this
  have hnid' : bump o.op nid = N + q0q (ops.toList.take (i + 1)) := by
   rw [q7t hoi, hnid]
   unfold bump
   split <;> omega
  have hdst : q4f ops i = o.dst := by simp [q4f, ho]
  have next : ∀ (s1 : St) (x : AV) (wr : Wr), RunE P T L ops (fun i => N + q0q (ops.toList.take i)) es.reverse s0 s1 →
   (match o.guard with
    | none => Act1 P T L nid o.op s1 x wr
    | some (j, want) => ∃ g, (ops[j]?).bind (·.dst) = some g ∧ ((∃ c, s1.tmps.getD g .any = .v (.bool c) ∧ (c = want → Act1 P T L nid o.op s1 x wr) ∧ (c ≠ want → x = .v undef ∧ wr = none)) ∨ (∃ t, s1.tmps.getD g .any = .v (.tuple t) ∧ x = .v undef ∧ wr = none))) →
   q6x P T L ops rest (i + 1) (bump o.op nid) (q3d ops i o s1 x wr :: es) ((s1.app wr).put o.dst x) Kn →
   ∃ l s', RunE P T L ops (fun i => N + q0q (ops.toList.take i)) l s0 s' ∧ l.map Ent.i = List.range ops.size ∧ qb9 (q3n ops.toList []) ops l = true ∧ Kn s' := by
   intro s1 x wr hr1 hact hd
   refine qnh rest (i + 1) _ _ _ hd hrest' hlt hnid' ?_ ?_
   · rw [z47]
     refine qft hr1 ⟨o, ho, rfl, rfl, rfl, ?_⟩ ?_
     · show (match o.guard with
        | none => Act1 P T L (N + q0q (ops.toList.take i)) o.op s1 x wr
        | some (j, want) => ∃ g, (ops[j]?).bind (·.dst) = some g ∧ ((∃ c, s1.tmps.getD g .any = .v (.bool c) ∧ (c = want → Act1 P T L (N + q0q (ops.toList.take i)) o.op s1 x wr) ∧ (c ≠ want → x = .v undef ∧ wr = none)) ∨ (∃ t, s1.tmps.getD g .any = .v (.tuple t) ∧ x = .v undef ∧ wr = none)))
       rw [← hnid]
       exact hact
     · show (s1.app wr).put (q4f ops i) x = _
       rw [hdst]
   · rw [z47, z12, hx, z2j]
     rfl
  unfold q6x at h
  split at h
  · rename_i hg
    obtain ⟨x, wr, ha, hk⟩ := qco h
    exact next s x wr hr (by rw [hg]; exact ha) hk
  · rename_i j want hg
    split at h <;> try (exact h.elim)
    rename_i g hgd
    split at h <;> try (exact h.elim)
    · rename_i c hc
      have hsame : ({ s with tmps := s.tmps.set g (.v (.bool c)) } : St) = s := by
       rw [qej hc (by intro hh; cases hh)]
      by_cases hcw : c = want
      · subst hcw
        have h1 := h.1 rfl
        rw [hsame] at h1
        obtain ⟨x, wr, ha, hk⟩ := qco h1
        exact next s x wr hr (by rw [hg]; exact ⟨g, hgd, .inl ⟨c, hc, fun _ => ha, fun hh => absurd rfl hh⟩⟩) hk
      · have hcn : c = !want := by cases c <;> cases want <;> simp_all
        have h2 := h.2 hcn
        rw [← hcn, hsame] at h2
        exact next s (.v undef) none hr (by rw [hg]; exact ⟨g, hgd, .inl ⟨c, hc, fun hh => absurd hh hcw, fun _ => ⟨rfl, rfl⟩⟩⟩) h2
    · rename_i t hc
      exact next s (.v undef) none hr (by rw [hg]; exact ⟨g, hgd, .inr ⟨t, hc, rfl, rfl⟩⟩) h
def q3f (P : Program) (T : TypeId → Option TI) (L : Nat) (ops : Array Oper) (rest : List Oper) (i nid : Nat) (es : List Ent) (k : List Fr) (s : St) (K : AExit → St → Prop) : Prop :=
 q6x P T L ops rest i nid es s (fun s' => go P T L k s' K)
def drawQ (P : Program) (T : TypeId → Option TI) (L : Nat) (r : Option (Prop × AV × Wr)) (ops : Array Oper) (o : Oper) (rest : List Oper) (i nid : Nat) (es : List Ent) (k : List Fr) (s : St) (K : AExit → St → Prop) : Prop :=
 drawD r (fun x wr => q3f P T L ops rest (i + 1) (bump o.op nid) (q3d ops i o s x wr :: es) k ((s.app wr).put o.dst x) K)
def drawH (P : Program) (T : TypeId → Option TI) (L : Nat) (v : AV) (argv : List AV) (ops : Array Oper) (o : Oper) (rest : List Oper) (i nid : Nat) (es : List Ent) (k : List Fr) (s : St) (K : AExit → St → Prop) : Prop :=
 drawC P L nid (q4g o.op) v s.mem argv (fun x wr => q3f P T L ops rest (i + 1) (bump o.op nid) (q3d ops i o s x wr :: es) k ((s.app wr).put o.dst x) K)
def qhc (P : Program) (T : TypeId → Option TI) (L : Nat) (c : Option (Operand × Array Operand)) (ops : Array Oper) (o : Oper) (rest : List Oper) (i nid : Nat) (es : List Ent) (k : List Fr) (s : St) (K : AExit → St → Prop) : Prop :=
 ql8 P T L c o.op nid s (fun x wr => q3f P T L ops rest (i + 1) (bump o.op nid) (q3d ops i o s x wr :: es) k ((s.app wr).put o.dst x) K)
def q5i (P : Program) (T : TypeId → Option TI) (L : Nat) (v : AV) (g : Nat) (want : Bool) (ops : Array Oper) (o : Oper) (rest : List Oper) (i nid : Nat) (es : List Ent) (k : List Fr) (s : St) (K : AExit → St → Prop) : Prop :=
 match v with
 | .v (.bool c) => (c = want → qhc P T L (q1g o.op) ops o rest i nid es k { s with tmps := s.tmps.set g (.v (.bool want)) } K) ∧
  (c = !want → q3f P T L ops rest (i + 1) (bump o.op nid) (q3d ops i o { s with tmps := s.tmps.set g (.v (.bool !want)) } (.v undef) none :: es) k (({ s with tmps := s.tmps.set g (.v (.bool !want)) } : St).put o.dst (.v undef)) K)
 | .v (.tuple _) => q3f P T L ops rest (i + 1) (bump o.op nid) (q3d ops i o s (.v undef) none :: es) k (s.put o.dst (.v undef)) K
 | _ => False
def drawW (P : Program) (T : TypeId → Option TI) (L : Nat) (gd : Option Tmp) (want : Bool) (ops : Array Oper) (o : Oper) (rest : List Oper) (i nid : Nat) (es : List Ent) (k : List Fr) (s : St) (K : AExit → St → Prop) : Prop :=
 match gd with
 | some g => q5i P T L (s.tmps.getD g .any) g want ops o rest i nid es k s K
 | none => False
def q80 (P : Program) (T : TypeId → Option TI) (L : Nat) (g : FuncId) (argv : List AV) (ops : Array Oper) (o : Oper) (rest : List Oper) (i nid : Nat) (es : List Ent) (k : List Fr) (s : St) (K : AExit → St → Prop) : Prop :=
 ∃ x wr, Asks P L nid (q4g o.op) g s.mem argv x wr ∧ q3f P T L ops rest (i + 1) (bump o.op nid) (q3d ops i o s x wr :: es) k ((s.app wr).put o.dst x) K
section rules
variable {P : Program} {T : TypeId → Option TI} {ops : Array Oper} {rest : List Oper} {i nid : Nat} {es : List Ent} {k : List Fr} {s : St} {K : AExit → St → Prop}
theorem qza : q3f P T L ops [] i nid es k s K = (qb9 (q3n ops.toList []) ops es.reverse = true ∧ go P T L k s K) := _root_.id rfl
theorem drawR_op {o : Op} {ty : TypeId} {pos : String} {af : Array Edge} :
 q3f P T L ops (⟨d, o, ty, pos, af, none⟩ :: rest) i nid es k s K = qhc P T L (q1g o) ops ⟨d, o, ty, pos, af, none⟩ rest i nid es k s K := _root_.id rfl
theorem qt1 {o : Op} {ty : TypeId} {pos : String} {af : Array Edge} {j : Nat} :
 q3f P T L ops (⟨d, o, ty, pos, af, some (j, want)⟩ :: rest) i nid es k s K = drawW P T L ((ops[j]?).bind (·.dst)) want ops ⟨d, o, ty, pos, af, some (j, want)⟩ rest i nid es k s K := by
 show q6x P T L ops _ i nid es s _ = _
 unfold q6x drawW q5i
 simp only
 cases (ops[j]?).bind (·.dst) with
 | none => rfl
 | some g =>
  simp only
  cases s.tmps.getD g .any with
  | v x => cases x <;> rfl
  | _ => rfl
theorem quv {g : Nat} {o : Oper} : drawW P T L (some g) want ops o rest i nid es k s K = q5i P T L (s.tmps.getD g .any) g want ops o rest i nid es k s K := _root_.id rfl
theorem qvd {o : Oper} : qhc P T L none ops o rest i nid es k s K = drawQ P T L (q8j P T L nid o.op s) ops o rest i nid es k s K := _root_.id rfl
theorem qvy {o : Oper} {f : Operand} {args : Array Operand} : qhc P T L (some (f, args)) ops o rest i nid es k s K = drawH P T L (s.ev f) (evs s args.toList) ops o rest i nid es k s K := _root_.id rfl
theorem qvq {o : Oper} {C : Prop} {x : AV} {wr : Wr} : drawQ P T L (some (C, x, wr)) ops o rest i nid es k s K =
 (C ∧ q3f P T L ops rest (i + 1) (bump o.op nid) (q3d ops i o s x wr :: es) k ((s.app wr).put o.dst x) K) := _root_.id rfl
theorem drawH_fn {o : Oper} {g : FuncId} {caps : List AV} : drawH P T L (.fn g caps) argv ops o rest i nid es k s K =
 q80 P T L g (argv ++ caps) ops o rest i nid es k s K := _root_.id rfl
theorem q16 {o : Oper} {g : FuncId} {x : AV} (h : q08 P g argv (fun y => y = x)) (hp : q18 argv = true) (hk : q3f P T L ops rest (i + 1) (bump o.op nid) (q3d ops i o s x none :: es) k (s.put o.dst x) K) :
 q80 P T L g argv ops o rest i nid es k s K := ⟨x, none, .inl ⟨rfl, hp, h⟩, hk⟩
theorem qah {o : Oper} {g : FuncId} {args0 : List AV} {blk0 blk1 : AB} (h : ACall P g [blk0] args0 (fun y m' => y = x0 ∧ m' = [blk1])) (b : Nat) (hb : (q03 argv).contains b = true) (ha : argv = q0i [b] args0) (hm : s.mem[b]? = some (AB.ren [b] blk0)) (h6 : (q03 args0).all (fun b => decide (b < 1)) = true) (h7 : AB.inR 1 blk0 = true) (hk : q3f P T L ops rest (i + 1) (bump o.op nid) (q3d ops i o s (ren [b] x0) (some (b, AB.ren [b] blk1, false)) :: es) k ((s.app (some (b, AB.ren [b] blk1, false))).put o.dst (ren [b] x0)) K) :
 q80 P T L g argv ops o rest i nid es k s K := ⟨_, _, .inr (.inr (.inl ⟨b, args0, blk0, blk1, x0, rfl, rfl, by simpa using hb, ha, hm, h6, h7, h⟩)), hk⟩
theorem q8z {o : Oper} {g : FuncId} {args0 : List AV} {t : TypeId} {sz : Nat} {xs ys : List AV} (h : q0r P (fun _ => false) g [.row t sz xs] args0 (fun y m' => y = x0 ∧ m' = [.row t sz ys])) (b : Nat) (hL : L ≤ b) (hb : (q03 argv).contains b = true) (ha : argv = q0i [b] args0) (hm : s.mem[b]? = some (.row t sz xs)) (h6 : (q03 args0).all (fun b => decide (b < 1)) = true) (hk : q3f P T L ops rest (i + 1) (bump o.op nid) (q3d ops i o s (ren [b] x0) (some (b, .row t sz ys, true)) :: es) k ((s.app (some (b, .row t sz ys, true))).put o.dst (ren [b] x0)) K) :
 q80 P T L g argv ops o rest i nid es k s K := ⟨_, _, .inr (.inr (.inr (.inl ⟨b, t, sz, xs, ys, args0, x0, rfl, rfl, by simpa using hb, hL, ha, hm, h6, h⟩))), hk⟩
theorem q2n {o : Oper} {g : FuncId} {t : TypeId} {sz : Nat} {ys : List AV} (h : ACall P g [] argv (fun y m' => y = x0 ∧ m' = [.row t sz ys])) (hn : q4g o.op = true) (hp : q18 argv = true) (hk : q3f P T L ops rest (i + 1) (bump o.op nid) (q3d ops i o s (ren [nid] x0) (some (nid, .row t sz ys, true)) :: es) k ((s.app (some (nid, .row t sz ys, true))).put o.dst (ren [nid] x0)) K) :
 q80 P T L g argv ops o rest i nid es k s K := ⟨_, _, .inr (.inr (.inr (.inr (.inl ⟨hn, .row t sz ys, x0, rfl, rfl, hp, h⟩)))), hk⟩
theorem qnw {o : Oper} {g : FuncId} {cs : List AV} (h : ACall P g [] argv (fun y m' => y = x0 ∧ m' = [.box cs])) (hn : q4g o.op = true) (hp : q18 argv = true) (hk : q3f P T L ops rest (i + 1) (bump o.op nid) (q3d ops i o s (ren [nid] x0) (some (nid, .box (q0i [nid] cs), true)) :: es) k ((s.app (some (nid, .box (q0i [nid] cs), true))).put o.dst (ren [nid] x0)) K) :
 q80 P T L g argv ops o rest i nid es k s K := ⟨_, _, .inr (.inr (.inr (.inr (.inl ⟨hn, .box cs, x0, rfl, rfl, hp, h⟩)))), hk⟩
theorem q0v {o : Oper} {g : FuncId} {x : AV} (h : ACall P g s.mem argv (fun y m' => y = x ∧ m' = s.mem)) (hw : wideF g = true) (hk : q3f P T L ops rest (i + 1) (bump o.op nid) (q3d ops i o s x none :: es) k (s.put o.dst x) K) :
 q80 P T L g argv ops o rest i nid es k s K := ⟨x, none, .inr (.inr (.inr (.inr (.inr ⟨hw, rfl, h⟩)))), hk⟩
end rules
section forks
variable {P : Program} {T : TypeId → Option TI} {k : List Fr} {s : St} {K : AExit → St → Prop}
theorem qyu {g : Nat} {o : Op} {rest : List Oper} {tm : List AV} {m : List AB} :
 q59 P T L (.v (.bool true)) g true o d a rest k ⟨tm, m⟩ K = opK P T L (q1g o) o d a rest k ⟨tm.set g (.v (.bool true)), m⟩ K := by simp [q59]
theorem qz8 {g : Nat} {o : Op} {rest : List Oper} {tm : List AV} {m : List AB} :
 q59 P T L (.v (.bool false)) g false o d a rest k ⟨tm, m⟩ K = opK P T L (q1g o) o d a rest k ⟨tm.set g (.v (.bool false)), m⟩ K := by simp [q59]
theorem qz4 {g : Nat} {o : Op} {rest : List Oper} {tm : List AV} {m : List AB} :
 q59 P T L (.v (.bool true)) g false o d a rest k ⟨tm, m⟩ K = go P T L (.ops a rest :: k) ((⟨tm.set g (.v (.bool true)), m⟩ : St).put d (.v undef)) K := by simp [q59]
theorem qz7 {g : Nat} {o : Op} {rest : List Oper} {tm : List AV} {m : List AB} :
 q59 P T L (.v (.bool false)) g true o d a rest k ⟨tm, m⟩ K = go P T L (.ops a rest :: k) ((⟨tm.set g (.v (.bool false)), m⟩ : St).put d (.v undef)) K := by simp [q59]
theorem guardV_u {t : Array Value} {g : Nat} {o : Op} {rest : List Oper} :
 q59 P T L (.v (.tuple t)) g want o d a rest k s K = go P T L (.ops a rest :: k) (s.put d (.v undef)) K := _root_.id rfl
theorem q1v {g : Nat} {o : Op} {rest : List Oper} {tm : List AV} {m : List AB} (h1 : c = true → q59 P T L (.v (.bool true)) g want o d a rest k ⟨tm, m⟩ K) (h2 : c = false → q59 P T L (.v (.bool false)) g want o d a rest k ⟨tm, m⟩ K) :
 q59 P T L (.v (.bool c)) g want o d a rest k ⟨tm, m⟩ K := by
 cases c
 · exact h2 rfl
 · exact h1 rfl
theorem condK_t : qbk P T L (.v (.bool true)) x y k s K = go P T L (.code x :: k) s K := by simp [qbk]
theorem condK_f : qbk P T L (.v (.bool false)) x y k s K = go P T L (.code y :: k) s K := by simp [qbk]
theorem q02 (h1 : c = true → qbk P T L (.v (.bool true)) x y k s K) (h2 : c = false → qbk P T L (.v (.bool false)) x y k s K) :
 qbk P T L (.v (.bool c)) x y k s K := by
 cases c
 · exact h2 rfl
 · exact h1 rfl
variable {ops : Array Oper} {rest : List Oper} {i nid : Nat} {es : List Ent} {tm : List AV} {m : List AB} {g : Nat} {o : Oper}
theorem drawV_tt : q5i P T L (.v (.bool true)) g true ops o rest i nid es k ⟨tm, m⟩ K = qhc P T L (q1g o.op) ops o rest i nid es k ⟨tm.set g (.v (.bool true)), m⟩ K := by simp [q5i]
theorem drawV_ff : q5i P T L (.v (.bool false)) g false ops o rest i nid es k ⟨tm, m⟩ K = qhc P T L (q1g o.op) ops o rest i nid es k ⟨tm.set g (.v (.bool false)), m⟩ K := by simp [q5i]
theorem drawV_tf : q5i P T L (.v (.bool true)) g false ops o rest i nid es k ⟨tm, m⟩ K =
 q3f P T L ops rest (i + 1) (bump o.op nid) (q3d ops i o ⟨tm.set g (.v (.bool true)), m⟩ (.v undef) none :: es) k ((⟨tm.set g (.v (.bool true)), m⟩ : St).put o.dst (.v undef)) K := by simp [q5i]
theorem drawV_ft : q5i P T L (.v (.bool false)) g true ops o rest i nid es k ⟨tm, m⟩ K =
 q3f P T L ops rest (i + 1) (bump o.op nid) (q3d ops i o ⟨tm.set g (.v (.bool false)), m⟩ (.v undef) none :: es) k ((⟨tm.set g (.v (.bool false)), m⟩ : St).put o.dst (.v undef)) K := by simp [q5i]
theorem drawV_u {t : Array Value} : q5i P T L (.v (.tuple t)) g want ops o rest i nid es k s K =
 q3f P T L ops rest (i + 1) (bump o.op nid) (q3d ops i o s (.v undef) none :: es) k (s.put o.dst (.v undef)) K := _root_.id rfl
theorem qa5 (h1 : c = true → q5i P T L (.v (.bool true)) g want ops o rest i nid es k ⟨tm, m⟩ K) (h2 : c = false → q5i P T L (.v (.bool false)) g want ops o rest i nid es k ⟨tm, m⟩ K) :
 q5i P T L (.v (.bool c)) g want ops o rest i nid es k ⟨tm, m⟩ K := by
 cases c
 · exact h2 rfl
 · exact h1 rfl
end forks
theorem qc7 {l : List Ent} {n : Nat} (h : l.map Ent.i = List.range n) : l.Pairwise (fun x y => x.i < y.i) := by
 have : (l.map Ent.i).Pairwise (· < ·) := by rw [h]; exact List.pairwise_lt_range
 exact z5j.1 this
theorem q0a {P : Program} {T : TypeId → Option TI} (hT : TyOk P T) (hm : P.follows .mixedOrders = true) {id : Nat} {ops : Array Oper} {k : List Fr} {s : St} {K : AExit → St → Prop} {c : Nat}
 (hL : L ≤ s.mem.length) (hb : qe3 ops.toList 0 = true) (hc : q0q ops.toList = c)
 (h : q3f P T L ops ops.toList 0 s.mem.length [] k { s with mem := s.mem ++ List.replicate c .gone } K) : qa6 P T L (.region id ops true) k s K := by
 subst hc
 unfold qa6
 intro F n hF Hd B ι a w hB hR Q hn
 obtain ⟨l, s', hr, hx, hok, hK⟩ := qnh (N := s.mem.length) (s0 := { s with mem := s.mem ++ List.replicate (q0q ops.toList) .gone }) ops.toList 0 s.mem.length [] _ h (by simp) (z00 _) (by simp [q0q]) rfl rfl
 refine wpIn_region_any hm ?_
 obtain ⟨hR1, hE1⟩ := hR.places (L := L) (w' := { w with drawn := w.drawn + 1 }) (q0q ops.toList) rfl rfl rfl rfl
 have hlen : l.length = ops.size := by
  have := congrArg List.length hx
  simpa using this
 have hmsp := (qex ops.toList []).2
 refine qwy hT hF (s' := s') (N := s.mem.length + q0q ops.toList) (ms := q3n ops.toList []) ?_ ?_ ?_ ops.size l _ hlen hr (by simp) ?_ (by simp) (qc7 hx) ?_ (qey hok) ?_ hR1 (fun ι' a' w' r1 r2 => hn .normal s' ι' a' w' hK r1 (hE1.trans r2))
 · intro j o ho e he hbi
   have := qdl hb j o (by simpa using ho) e (by simpa using he) hbi
   omega
 · intro j o ho p hp
   obtain ⟨e, h1, h2⟩ := hmsp j o (by simpa using ho) p (by simpa using hp)
   exact ⟨e, by simpa using h1, h2⟩
 · intro i o ho hnew
   have h1 := q7t (l := ops.toList) (i := i) (by simpa using ho)
   rw [if_pos hnew] at h1
   have h2 := qia ops.toList (i + 1)
   exact ⟨by omega, by omega⟩
 · intro i hi
   rw [hx]
   simp [hi]
 · intro e he
   have : e.i ∈ l.map Ent.i := z1b.2 ⟨e, he, rfl⟩
   rw [hx] at this
   simpa using this
 · intro f hf hnf
   rw [hx] at hnf
   simp at hnf
   omega
