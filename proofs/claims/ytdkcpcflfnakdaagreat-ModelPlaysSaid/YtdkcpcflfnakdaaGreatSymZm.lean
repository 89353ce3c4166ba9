/- A text of the walk that proves a law of this seat; joined by a program. -/
import Derived.Test.YtdkcpcflfnakdaaGreatSymZi
set_option linter.unusedSimpArgs false
set_option linter.unusedVariables false
namespace Go.Proofs.YtdkcpcflfnakdaaGreat.Sym
open Go Go.RowKit
variable {L : Nat} {P : Program} {T : TypeId → Option TI}
def kpK (kd : List Nat) (b : Nat) : Bool := !kd.elem b
def AB.cutK (kd : List Nat) : AB → AB
 | .box cs => .box (qbg (kpK kd) cs)
 | blk => blk
def AB.bks : AB → List Nat
 | .box cs => q03 cs
 | _ => []
def setW : List (Nat × AB) → List AB → List AB
 | [], m => m
 | (b, blk) :: W, m => setW W (m.set b blk)
structure EntX where
 i : Nat
 rdF : Bool
 rdR : List Nat
 acc : List Nat
 accF : Bool
 accR : List Nat
 xR : List Nat
 wI : List Nat
 wR : List Nat
 kd : List Nat
 rd : List AV
 accB : List (Option AB)
 x : AV
 wB : List AB
def EntX.W (e : EntX) : List (Nat × AB) := e.wI.zip e.wB
structure EntX.Ok (e : EntX) : Prop where
 rdF : e.rdF = true → q4a e.rd = true
 rdR : ∀ b ∈ q03 e.rd, b ∈ e.rdR
 accF : e.accF = true → qe0 e.accB = true
 accR : ∀ blk, some blk ∈ e.accB → ∀ b ∈ blk.bks, b ∈ e.accR
 xR : ∀ b ∈ bks e.x, b ∈ e.xR
 wR : ∀ blk ∈ e.wB, ∀ b ∈ blk.bks, b ∈ e.wR
 wl : e.wB.length = e.wI.length
 nd : e.wI.Nodup
theorem EntX.Ok.fst {e : EntX} (h : e.Ok) : e.W.map Prod.fst = e.wI := by
 unfold EntX.W
 exact List.map_fst_zip (by rw [h.wl]; exact z09 _)
theorem EntX.Ok.snd {e : EntX} (h : e.Ok) {b : Nat} {blk : AB} (hm : (b, blk) ∈ e.W) : blk ∈ e.wB := (List.of_mem_zip hm).2
def postX (ops : Array Oper) (e : EntX) (s : St) : St := (⟨qbg (kpK e.kd) s.tmps, setW e.W (s.mem.map (AB.cutK e.kd))⟩ : St).put (q4f ops e.i) e.x
def ExX (ops : Array Oper) (e : EntX) (s : St) : Prop :=
 ∃ o, ops[e.i]? = some o ∧ e.rd = (o.looksAt ops).map (fun t => s.tmps.getD t .any) ∧ e.accB = e.acc.map (fun b => s.mem[b]?)
def disj (a b : List Nat) : Bool := a.all fun x => !b.elem x
def indX (e1 e2 : EntX) : Bool :=
 disj e1.wI e2.acc && (disj e1.wI e2.wI && (disj e2.wI e1.acc &&
 ((e1.kd.isEmpty || (e2.rdF && (e2.accF && (disj e1.kd e2.xR && disj e1.kd e2.wR)))) &&
 (e2.kd.isEmpty || (disj e2.kd e1.rdR && (disj e2.kd e1.accR && (disj e2.kd e1.xR && disj e2.kd e1.wR)))))))
structure IndX (e1 e2 : EntX) : Prop where
 a2 : ∀ b ∈ e1.wI, b ∉ e2.acc
 ne : ∀ b ∈ e1.wI, b ∉ e2.wI
 a1 : ∀ b ∈ e2.wI, b ∉ e1.acc
 rd2 : ∀ u v, v ∈ e2.rd → v = cutV (kpK e1.kd) u → cutV (kpK e1.kd) u = u
 ac2 : ∀ u blk, some blk ∈ e2.accB → blk = AB.cutK e1.kd u → AB.cutK e1.kd u = u
 x2 : cutV (kpK e1.kd) e2.x = e2.x
 w2 : ∀ blk ∈ e2.wB, AB.cutK e1.kd blk = blk
 rd1 : ∀ v ∈ e1.rd, cutV (kpK e2.kd) v = v
 ac1 : ∀ blk, some blk ∈ e1.accB → AB.cutK e2.kd blk = blk
 x1 : cutV (kpK e2.kd) e1.x = e1.x
 w1 : ∀ blk ∈ e1.wB, AB.cutK e2.kd blk = blk
def okPairX (ms : List Nat) (ops : Array Oper) (e1 e2 : EntX) : Bool := (ms.getD e2.i 0).testBit e1.i || (q9v ops e1.i e2.i && indX e1 e2)
def DoesX (P : Program) (L N : Nat) (ops : Array Oper) (e : EntX) : Prop :=
 ∀ {Hd : Nat → Prop} {B : Nat} {ι : Loc} {s : St} {a : Act} {w : World} {F : Fence} {n : Nat} {K : Act → World → Prop} {Q : Exit → Act → World → Prop}, Wide F → Rel Hd B ι s a w → s.mem.length = N → ExX ops e s →
  (∀ ι' a' w', Rel Hd B ι' (postX ops e s) a' w' → Ext L ι w ι' w' → K a' w') → wpOpIn F n P ops Q e.i K a w
end Go.Proofs.YtdkcpcflfnakdaaGreat.Sym
namespace Go.Proofs.YtdkcpcflfnakdaaGreat.Sym
open Go Go.RowKit
variable {L : Nat} {P : Program} {T : TypeId → Option TI}
end Go.Proofs.YtdkcpcflfnakdaaGreat.Sym
namespace Go.Proofs.YtdkcpcflfnakdaaGreat.Sym
open Go Go.RowKit
variable {L : Nat} {P : Program} {T : TypeId → Option TI}
variable {b : Nat} {o : Oper}
def wIof : Wr → List Nat
 | none => []
 | some (b, _, _) => [b]
def wBof : Wr → List AB
 | none => []
 | some (_, blk, _) => [blk]
def kdOf : Wr → List Nat
 | some (b, _, true) => [b]
 | _ => []
def refsB : List (Option AB) → List Nat
 | [] => []
 | some blk :: l => blk.bks ++ refsB l
 | none :: l => refsB l
def refsW : Wr → List Nat
 | none => []
 | some (_, blk, _) => blk.bks
def entX (ops : Array Oper) (i : Nat) (o : Oper) (s : St) (x : AV) (wr : Wr) : EntX :=
 let rd := (o.looksAt ops).map fun t => s.tmps.getD t .any
 let acc := q3t o.op s
 let accB := acc.map fun b => s.mem[b]?
 ⟨i, q4a rd, q03 rd, acc, qe0 accB, refsB accB, bks x, wIof wr, refsW wr, kdOf wr, rd, accB, x, wBof wr⟩
def St.appX (s : St) : Wr → St
 | none => s
 | some (b, blk, false) => { s with mem := s.mem.set b blk }
 | some (b, blk, true) => ⟨qbg (kpK [b]) s.tmps, (s.mem.map (AB.cutK [b])).set b blk⟩
mutual
theorem noRef_of : ∀ (x : AV), (∀ c ∈ bks x, c ≠ b) → noRef b x = true
 | .v _, _ => rfl
 | .agg xs, h => qda xs h
 | .tup xs, h => qda xs h
 | .sl _ _, _ => rfl
 | .rp _, _ => rfl
 | .own c _ _ _, h => by have := h c (by simp [bks]); simpa [noRef] using this
 | .ptr c _, h => by have := h c (by simp [bks]); simpa [noRef] using this
 | .ep c _ _ _, h => by have := h c (by simp [bks]); simpa [noRef] using this
 | .fn _ caps, h => qda caps h
 | .any, _ => rfl
theorem qda : ∀ (xs : List AV), (∀ c ∈ q03 xs, c ≠ b) → q57 b xs = true
 | [], _ => rfl
 | x :: xs, h => by
  simp only [q03, z0q] at h
  simp only [q57, z0d]
  exact ⟨noRef_of x (fun c hc => h c (.inl hc)), qda xs (fun c hc => h c (.inr hc))⟩
end
mutual
theorem ren_in {bs : List Nat} : ∀ (x : AV), (bks x).all (fun b => decide (b < bs.length)) = true → ∀ b ∈ bks (ren bs x), b ∈ bs
 | .v _, _, b, hb => by simp [ren, bks] at hb
 | .agg xs, h, b, hb => qdd xs h b hb
 | .tup xs, h, b, hb => qdd xs h b hb
 | .sl _ _, _, b, hb => by simp [ren, bks] at hb
 | .rp _, _, b, hb => by simp [ren, bks] at hb
 | .own c _ _ _, h, b, hb => by
  simp only [bks, z35, z3t, z0t, decide_eq_true_eq] at h
  simp only [ren, bks, z1j] at hb
  rw [hb, z04, z05 h]; exact z1i h
 | .ptr c _, h, b, hb => by
  simp only [bks, z35, z3t, z0t, decide_eq_true_eq] at h
  simp only [ren, bks, z1j] at hb
  rw [hb, z04, z05 h]; exact z1i h
 | .ep c _ _ _, h, b, hb => by
  simp only [bks, z35, z3t, z0t, decide_eq_true_eq] at h
  simp only [ren, bks, z1j] at hb
  rw [hb, z04, z05 h]; exact z1i h
 | .fn f caps, h, b, hb => qdd caps h b hb
 | .any, _, b, hb => by simp [ren, bks] at hb
theorem qdd {bs : List Nat} : ∀ (xs : List AV), (q03 xs).all (fun b => decide (b < bs.length)) = true → ∀ b ∈ q03 (q0i bs xs), b ∈ bs
 | [], _, b, hb => by simp [q0i, q03] at hb
 | x :: xs, h, b, hb => by
  simp only [q03, z4m, z0d] at h
  simp only [q0i, q03, z0q] at hb
  rcases hb with hb | hb
  · exact ren_in x h.1 b hb
  · exact qdd xs h.2 b hb
end
def StepX (P : Program) (L N : Nat) (ops : Array Oper) (i : Nat) (s : St) (e : EntX) (s' : St) : Prop := e.Ok ∧ DoesX P L N ops e ∧ e.i = i ∧ ExX ops e s ∧ postX ops e s = s'
def xdrawC (P : Program) (L N : Nat) (ops : Array Oper) (o : Oper) (i nid : Nat) (s : St) (g : FuncId) (argv : List AV) (k : EntX → St → Prop) : Prop :=
 (∃ x wr, Asks P L nid (q4g o.op) g s.mem argv x wr ∧ k (entX ops i o s x wr) ((s.appX wr).put o.dst x)) ∨ (∃ e s', StepX P L N ops i s e s' ∧ k e s')
def xdrawV (P : Program) (L N : Nat) (ops : Array Oper) (o : Oper) (i nid : Nat) (s : St) (v : AV) (argv : List AV) (k : EntX → St → Prop) : Prop :=
 match v with
 | .fn g caps => xdrawC P L N ops o i nid s g (argv ++ caps) k
 | _ => False
def xdrawD (r : Option (Prop × AV × Wr)) (ops : Array Oper) (o : Oper) (i : Nat) (s : St) (k : EntX → St → Prop) : Prop :=
 match r with
 | some (C, x, wr) => C ∧ k (entX ops i o s x wr) ((s.appX wr).put o.dst x)
 | none => False
def xdrawO (P : Program) (T : TypeId → Option TI) (L N : Nat) (ops : Array Oper) (o : Oper) (i nid : Nat) (s : St) (c : Option (Operand × Array Operand)) (k : EntX → St → Prop) : Prop :=
 match c with
 | some (f, args) => xdrawV P L N ops o i nid s (s.ev f) (evs s args.toList) k
 | none => xdrawD (q8j P T L nid o.op s) ops o i s k
def qtv (ms : List Nat) (ops : Array Oper) (e : EntX) : List EntX → Bool
 | [] => true
 | e2 :: l => okPairX ms ops e e2 && qtv ms ops e l
def qpb (ms : List Nat) (ops : Array Oper) : List EntX → Bool
 | [] => true
 | e :: l => qtv ms ops e l && qpb ms ops l
def xdrawG (P : Program) (T : TypeId → Option TI) (L N : Nat) (ops : Array Oper) : List Oper → Nat → Nat → List EntX → St → (St → Prop) → Prop
 | [], i, nid, es, s, Kn => qpb (q3n ops.toList []) ops es.reverse = true ∧ Kn s
 | o :: rest, i, nid, es, s, Kn => match o.guard with
  | none => xdrawO P T L N ops o i nid s (q1g o.op) (fun e s' => xdrawG P T L N ops rest (i + 1) (bump o.op nid) (e :: es) s' Kn)
  | some _ => False
def qc8 (P : Program) (T : TypeId → Option TI) (L N : Nat) (ops : Array Oper) (rest : List Oper) (i nid : Nat) (es : List EntX) (k : List Fr) (s : St) (K : AExit → St → Prop) : Prop :=
 xdrawG P T L N ops rest i nid es s (fun s' => go P T L k s' K)
def xdrawQ (P : Program) (T : TypeId → Option TI) (L N : Nat) (r : Option (Prop × AV × Wr)) (ops : Array Oper) (o : Oper) (rest : List Oper) (i nid : Nat) (es : List EntX) (k : List Fr) (s : St) (K : AExit → St → Prop) : Prop :=
 xdrawD r ops o i s (fun e s' => qc8 P T L N ops rest (i + 1) (bump o.op nid) (e :: es) k s' K)
def xdrawH (P : Program) (T : TypeId → Option TI) (L N : Nat) (v : AV) (argv : List AV) (ops : Array Oper) (o : Oper) (rest : List Oper) (i nid : Nat) (es : List EntX) (k : List Fr) (s : St) (K : AExit → St → Prop) : Prop :=
 xdrawV P L N ops o i nid s v argv (fun e s' => qc8 P T L N ops rest (i + 1) (bump o.op nid) (e :: es) k s' K)
def qoo (P : Program) (T : TypeId → Option TI) (L N : Nat) (c : Option (Operand × Array Operand)) (ops : Array Oper) (o : Oper) (rest : List Oper) (i nid : Nat) (es : List EntX) (k : List Fr) (s : St) (K : AExit → St → Prop) : Prop :=
 xdrawO P T L N ops o i nid s c (fun e s' => qc8 P T L N ops rest (i + 1) (bump o.op nid) (e :: es) k s' K)
def qy5 (P : Program) (T : TypeId → Option TI) (L N : Nat) (g : FuncId) (argv : List AV) (ops : Array Oper) (o : Oper) (rest : List Oper) (i nid : Nat) (es : List EntX) (k : List Fr) (s : St) (K : AExit → St → Prop) : Prop :=
 xdrawC P L N ops o i nid s g argv (fun e s' => qc8 P T L N ops rest (i + 1) (bump o.op nid) (e :: es) k s' K)
section rules
variable {N : Nat} {ops : Array Oper} {rest : List Oper} {i nid : Nat} {es : List EntX} {k : List Fr} {s : St} {K : AExit → St → Prop}
theorem qwf : qc8 P T L N ops [] i nid es k s K = (qpb (q3n ops.toList []) ops es.reverse = true ∧ go P T L k s K) := _root_.id rfl
theorem qzb {d : Option Tmp} {o : Op} {ty : TypeId} {pos : String} {af : Array Edge} :
 qc8 P T L N ops (⟨d, o, ty, pos, af, none⟩ :: rest) i nid es k s K = qoo P T L N (q1g o) ops ⟨d, o, ty, pos, af, none⟩ rest i nid es k s K := _root_.id rfl
theorem qrf : qoo P T L N none ops o rest i nid es k s K = xdrawQ P T L N (q8j P T L nid o.op s) ops o rest i nid es k s K := _root_.id rfl
theorem qs3 {f : Operand} {args : Array Operand} : qoo P T L N (some (f, args)) ops o rest i nid es k s K = xdrawH P T L N (s.ev f) (evs s args.toList) ops o rest i nid es k s K := _root_.id rfl
theorem qrr {C : Prop} {x : AV} {wr : Wr} : xdrawQ P T L N (some (C, x, wr)) ops o rest i nid es k s K =
 (C ∧ qc8 P T L N ops rest (i + 1) (bump o.op nid) (entX ops i o s x wr :: es) k ((s.appX wr).put o.dst x) K) := _root_.id rfl
theorem qy4 {g : FuncId} {caps argv : List AV} : xdrawH P T L N (.fn g caps) argv ops o rest i nid es k s K = qy5 P T L N g (argv ++ caps) ops o rest i nid es k s K := _root_.id rfl
end rules
theorem kpK_one {c : Nat} : kpK [c] b = !decide (b = c) := by
 unfold kpK
 by_cases h : b = c <;> simp [h]
