/- A text of the walk that proves a law of this seat; joined by a program. -/
import Derived.Test.YtdkcpcflfnakdaaGreatSymKc
set_option linter.unusedSimpArgs false
set_option linter.unusedVariables false
namespace Go.Proofs.YtdkcpcflfnakdaaGreat.Sym
open Go Go.RowKit
variable {L : Nat} {Hd : Nat → Prop}
def qal (ti : TI) (cs : List AV) : Prop × AV := if ti.isAgg then (ti.size ≤ cs.length, .agg (cs.take ti.size)) else (0 < cs.length, cs.headD .any)
def qcm (T : TypeId → Option TI) (t : TypeId) (p : AV) (s : St) : Step :=
 match T t with
 | none => none
 | some ti => match p with
  | .rp cs => some ((qal ti cs).1, (qal ti cs).2, s)
  | .ptr b c => match s.mem[b]? with
   | some (.box cs) => some ((qal ti (cs.drop c)).1, (qal ti (cs.drop c)).2, s)
   | _ => none
  | .ep b sz i c => match s.mem[b]? with
   | some (.row _ sz' xs) => some (sz = sz' ∧ i < xs.length ∧ (xs.getD i .any).known = true ∧ (qal ti ((xs.getD i .any).cells.drop c)).1, (qal ti ((xs.getD i .any).cells.drop c)).2, s)
   | _ => none
  | _ => none
def qe2 (T : TypeId → Option TI) (t : TypeId) (p x : AV) (s : St) : Step :=
 match T t with
 | none => none
 | some ti => match p with
  | .ptr b c => match s.mem[b]? with
   | some (.box cs) => some (x.known = true ∧ x.cells.length = ti.size ∧ x.cells.all AV.flat = true ∧ c + ti.size ≤ cs.length, .any, { s with mem := s.mem.set b (.box (q5c cs c x.cells)) })
   | _ => none
  | .ep b sz i c => match s.mem[b]? with
   | some (.row t' sz' xs) => some (x.known = true ∧ x.cells.length = ti.size ∧ x.cells.all AV.flat = true ∧ sz = sz' ∧ c + ti.size ≤ sz ∧ x.pure = true ∧ i < xs.length ∧ (xs.getD i .any).known = true ∧ (xs.getD i .any).cells.length = sz ∧
    (match xs.getD i .any with | .agg _ => True | _ => c = 0 ∧ sz = 1 ∧ ti.size = 1), .any, { s with mem := s.mem.set b (.row t' sz' (xs.set i (q64 (xs.getD i .any) c x.cells))) })
   | _ => none
  | _ => none
def q6z (T : TypeId → Option TI) (t : TypeId) (p : AV) (f : Nat) (s : St) : Step :=
 match T t with
 | some ti => match ti.desc with
  | .struct fs => match fs[f]? with
   | some fd => match T fd.type with
    | some fi => match p with
     | .rp cs => some (fi.size ≠ 0, .rp (cs.drop fd.offset), s)
     | .ptr b c => some (fi.size ≠ 0, .ptr b (c + fd.offset), s)
     | .ep b sz i c => some (fi.size ≠ 0, .ep b sz i (c + fd.offset), s)
     | _ => none
    | none => none
   | none => none
  | _ => none
 | none => none
def qjx (T : TypeId → Option TI) (t : TypeId) (cs : List AV) (off : Nat) : Option (Prop × AV) :=
 match T t with
 | some fi => if fi.isAgg then some (off + fi.size ≤ cs.length, .agg ((cs.drop off).take fi.size)) else some (off < cs.length, (cs.drop off).headD .any)
 | none => none
def qdw (T : TypeId → Option TI) (t : TypeId) (x : AV) (f : Nat) (s : St) : Step :=
 match T t with
 | some ti => match ti.desc with
  | .struct fs => match fs[f]? with
   | some fd => match x with
    | .agg cs => match qjx T fd.type cs fd.offset with
     | some (c, y) => some (c, y, s)
     | none => none
    | _ => none
   | none => none
  | _ => none
 | none => none
def q70 (T : TypeId → Option TI) (t : TypeId) (x i : AV) (s : St) : Step :=
 match T t with
 | some ti => match i with
  | .v (.int _ n) => match ti.desc with
   | .slice e => match T e with
    | some te => match x with
     | .sl sz xs => some (te.size = sz ∧ (0 ≤ n ∧ n.toNat < xs.length) ∧ (xs.getD n.toNat .any).known = true, .rp (xs.getD n.toNat .any).cells, s)
     | .own b sz off len => some (te.size = sz ∧ (0 ≤ n ∧ n.toNat < len), .ep b sz (off + n.toNat) 0, s)
     | _ => none
    | none => none
   | .array len e => match T e with
    | some te => match x with
     | .ptr b c => some ((0 ≤ n ∧ n.toNat < len), .ptr b (c + n.toNat * te.size), s)
     | .rp cs => some ((0 ≤ n ∧ n.toNat < len), .rp (cs.drop (n.toNat * te.size)), s)
     | .ep b sz j c => some ((0 ≤ n ∧ n.toNat < len), .ep b sz j (c + n.toNat * te.size), s)
     | _ => none
    | none => none
   | _ => none
  | _ => none
 | none => none
def qae (place : Nat → Option (Nat × Nat)) (cells : List AV) : List (Nat × AV) → Prop × List AV
 | [] => (True, cells)
 | (i, x) :: rest => match place i with
  | some (off, size) => ((x.known = true ∧ x.cells.length = size ∧ off + size ≤ cells.length) ∧ (qae place (q5c cells off x.cells) rest).1, (qae place (q5c cells off x.cells) rest).2)
  | none => (False, cells)
def q6a (T : TypeId → Option TI) (fs : Array Field) (i : Nat) : Option (Nat × Nat) :=
 match fs[i]? with
 | some f => match T f.type with
  | some fi => some (f.offset, fi.size)
  | none => none
 | none => none
def qch (T : TypeId → Option TI) : List Field → Bool
 | [] => true
 | f :: fs => (T f.type).isSome && qch T fs
def qeg (T : TypeId → Option TI) (t : TypeId) (parts : List (Nat × AV)) (s : St) : Step :=
 match T t with
 | some ti => match ti.desc with
  | .struct fs => some (qch T fs.toList = true ∧ (qae (q6a T fs) (ti.zero.map .v) parts).1, .agg (qae (q6a T fs) (ti.zero.map .v) parts).2, s)
  | .array _ e => match T e with
   | some te => some ((qae (fun i => some (i * te.size, te.size)) (ti.zero.map .v) parts).1, .agg (qae (fun i => some (i * te.size, te.size)) (ti.zero.map .v) parts).2, s)
   | none => none
  | _ => none
 | none => none
def q2b (s : St) : List (Nat × Operand) → List (Nat × AV)
 | [] => []
 | (i, x) :: rest => (i, s.ev x) :: q2b s rest
def q84 (s : St) : List (Nat × Operand) → List Nat
 | [] => []
 | (_, x) :: rest => (s.ev x).owners ++ q84 s rest
def qad (T : TypeId → Option TI) (L : Nat) (t : TypeId) (len : Nat) (parts : List (Nat × Operand)) (s s1 : St) : Step :=
 match T t with
 | some ti => match ti.desc with
  | .slice e => match T e with
   | some te => some ((q84 s parts).all (fun b => decide (L ≤ b)) = true ∧ te.zeroOk = true ∧ len * te.size ≤ 16777216 ∧ q9i len te.size (q2b s1 parts),
    .own s1.mem.length te.size 0 len, { s1 with mem := s1.mem ++ [.row e te.size (q3w (List.replicate len te.zav) (q2b s1 parts))] })
   | none => none
  | _ => none
 | none => none
def qbx (T : TypeId → Option TI) (t : TypeId) : Bool := match T t with | some ti => (match ti.desc with | .bool => true | _ => false) | none => false
def qhh (T : TypeId → Option TI) (op : BinOp) (t : TypeId) (x y : AV) (s : St) : Step :=
 match op, x, y with
 | .add, .v (.int k m), .v (.int k' n) => some (k = k', .v (.int k (k.wrap (m + n))), s)
 | .sub, .v (.int k m), .v (.int k' n) => some (k = k', .v (.int k (k.wrap (m - n))), s)
 | .mul, .v (.int k m), .v (.int k' n) => some (k = k', .v (.int k (k.wrap (m * n))), s)
 | .quo, .v (.int k m), .v (.int k' n) => some (k = k' ∧ n ≠ 0, .v (.int k (k.wrap (m.tdiv n))), s)
 | .rem, .v (.int k m), .v (.int k' n) => some (k = k' ∧ n ≠ 0, .v (.int k (m.tmod n)), s)
 | .eql, .v (.int k m), .v (.int k' n) => some (k = k', .v (.bool (m == n)), s)
 | .neq, .v (.int k m), .v (.int k' n) => some (k = k', .v (.bool (m != n)), s)
 | .lss, .v (.int k m), .v (.int k' n) => some (k = k', .v (.bool (decide (m < n))), s)
 | .leq, .v (.int k m), .v (.int k' n) => some (k = k', .v (.bool (decide (m ≤ n))), s)
 | .gtr, .v (.int k m), .v (.int k' n) => some (k = k', .v (.bool (decide (n < m))), s)
 | .geq, .v (.int k m), .v (.int k' n) => some (k = k', .v (.bool (decide (n ≤ m))), s)
 | .eql, .v (.bool p), .v (.bool q) => some (qbx T t = true, .v (.bool (p == q)), s)
 | .neq, .v (.bool p), .v (.bool q) => some (qbx T t = true, .v (.bool (p != q)), s)
 | .eql, .v (.string p), .v (.string q) => some (True, .v (.bool (p.toList == q.toList)), s)
 | .neq, .v (.string p), .v (.string q) => some (True, .v (.bool (!(p.toList == q.toList))), s)
 | .lss, .v (.string p), .v (.string q) => some (True, .v (.bool (Op.bytesLess p.toList q.toList)), s)
 | .add, .v (.string p), .v (.string q) => some (((p.size + q.size : Nat) : Int) ≤ 9223372036854775807, .v (.string (p ++ q)), s)
 | _, _, _ => none
def fbinS (P : Program) (T : TypeId → Option TI) (op : BinOp) (t : TypeId) (xs ys : List AV) (s : St) : Step :=
 match op with
 | .eql => some (eqC P T t xs ys, .v (.bool (eqVs xs ys)), s)
 | .neq => some (eqC P T t xs ys, .v (.bool (!eqVs xs ys)), s)
 | _ => none
def fbin (P : Program) (T : TypeId → Option TI) (op : BinOp) (t : TypeId) (x y : AV) (s : St) : Step :=
 match x, y with
 | .agg xs, .agg ys => fbinS P T op t xs ys s
 | x, y => qhh T op t x y s
def notF (k : IntKind) (n : Int) : Int := xorF k (if k.signed then -1 else k.max) n
def qea (op : UnOp) (x : AV) (s : St) : Step :=
 match op, x with
 | .not, .v (.bool b) => some (True, .v (.bool (!b)), s)
 | .neg, .v (.int k n) => some (True, .v (.int k (k.wrap (0 - n))), s)
 | .xor, .v (.int k n) => some (True, .v (.int k (notF k n)), s)
 | _, _ => none
def q5t (T : TypeId → Option TI) (src dst : TypeId) (x : AV) (s : St) : Step :=
 match T src, T dst with
 | some _, some di => match di.desc, x with
  | .int k', .v (.int _ n) => some (True, .v (.int k' (k'.wrap n)), s)
  | _, _ => none
 | _, _ => none
def qe9 (T : TypeId → Option TI) (t : TypeId) (x i : AV) (s : St) : Step :=
 match T t with
 | some ti => match i with
  | .v (.int _ n) => match ti.desc, x with
   | .string, .v (.string b) => some (0 ≤ n ∧ n.toNat < b.size, .v (.int .u8 (b.data.getD n.toNat 0).toNat), s)
   | .array len e, .agg cs => match T e with
    | some te => match qjx T e cs (n.toNat * te.size) with
     | some (c, y) => some ((0 ≤ n ∧ n < len) ∧ c, y, s)
     | none => none
    | none => none
   | _, _ => none
  | _ => none
 | none => none
def flen (T : TypeId → Option TI) (t : TypeId) (x : AV) (s : St) : Step :=
 match T t with
 | some ti => match ti.desc, x with
  | .string, .v (.string b) => some (True, .v (.int .i64 b.size), s)
  | .slice _, .sl _ xs => some (True, .v (.int .i64 xs.length), s)
  | .slice _, .own _ _ _ len => some (True, .v (.int .i64 len), s)
  | .slice _, .v (.slice none n _) => some (True, .v (.int .i64 n), s)
  | .array n _, _ => some (True, .v (.int .i64 n), s)
  | _, _ => none
 | none => none
def q6l (s : St) (y : AV) (sz : Nat) : Option (Prop × List AV) :=
 match y with
 | .v (.slice none 0 _) => some (True, [])
 | .sl sz' ys => some (sz' = sz, ys)
 | .own b sz' off len => match s.mem[b]? with
  | some (.row _ sz'' xs) => some (sz' = sz ∧ sz'' = sz ∧ off + len ≤ xs.length, (xs.drop off).take len)
  | _ => none
 | _ => none
def qgw (T : TypeId → Option TI) (src dst : TypeId) (x : AV) (s : St) : Step :=
 match T src, T dst with
 | some si, some di => match si.desc with
  | .slice e => match T e with
   | some te => match q6l s x 1 with
    | some (c, ys) => some (te.desc = .int .u8 ∧ te.size = 1 ∧ di.desc = .string ∧ c ∧ ys.all isU8 = true, .v (.string (qjw ys)), s)
    | none => none
   | none => none
  | _ => none
 | _, _ => none
def q7d (T : TypeId → Option TI) (src dst : TypeId) (x : AV) (s : St) : Step :=
 match q5t T src dst x s with
 | some r => some r
 | none => qgw T src dst x s
def qbt (T : TypeId → Option TI) (L : Nat) (ts : List TypeId) (x y : AV) (s : St) : Step :=
 match ts with
 | [t, t'] => match T t with
  | some ti => match ti.desc with
   | .slice e => match T e with
    | some te => match q6l s y te.size with
     | some (c, ys) => match x with
      | .v (.slice none 0 0) => some (t' = t ∧ te.zeroOk = true ∧ c ∧ ys.length ≤ maxLen ∧ ys.length * te.bytes ≤ 140737488355328, .own s.mem.length te.size 0 ys.length, { s with mem := s.mem ++ [.row e te.size ys] })
      | .own b sz 0 len => match s.mem[b]? with
       | some (.row e' sz' xs) => some (t' = t ∧ te.zeroOk = true ∧ c ∧ (L ≤ b ∧ e' = e ∧ sz = te.size ∧ sz' = te.size ∧ xs.length = len) ∧ len + ys.length ≤ maxLen ∧ (len + ys.length) * te.bytes ≤ 140737488355328,
        .own b sz 0 (len + ys.length), s.rehome b (.row e' sz' (xs ++ ys)))
       | _ => none
      | _ => none
     | none => none
    | none => none
   | _ => none
  | none => none
 | _ => none
def qc4 (x : Option AV) (d : Nat) : Option (Prop × Nat) :=
 match x with
 | none => some (True, d)
 | some (.v (.int _ n)) => some (0 ≤ n, n.toNat)
 | _ => none
def q95 (T : TypeId → Option TI) (t : TypeId) (x : AV) (lo hi mx : Option AV) (s : St) : Step :=
 match T t, mx with
 | some ti, none => match ti.desc, x with
  | .string, .v (.string b) => match qc4 hi b.size, qc4 lo 0 with
   | some (c1, h), some (c2, l) => some (c1 ∧ c2 ∧ l ≤ h ∧ h ≤ b.size, .v (.string (b.extract l h)), s)
   | _, _ => none
  | .slice e, .sl sz xs => match T e with
   | some te => match qc4 hi xs.length, qc4 lo 0 with
    | some (c1, h), some (c2, l) => some (te.size = sz ∧ c1 ∧ c2 ∧ l ≤ h ∧ h ≤ xs.length, .sl sz ((xs.take h).drop l), s)
    | _, _ => none
   | none => none
  | _, _ => none
 | _, _ => none
def evs (s : St) : List Operand → List AV
 | [] => []
 | x :: xs => s.ev x :: evs s xs
def q71 (mx : Bool) (xs : List AV) (s : St) : Step :=
 match xs with
 | [.v (.int k x), .v (.int k' y)] => some (k = k', .v (.int k (bif mx then (if y > x then y else x) else (if y < x then y else x))), s)
 | _ => none
def qhs (c x y : AV) (s : St) : Step :=
 match c with
 | .v (.bool c) => match x, y with
  | .v (.bool p), .v (.bool q) => some (True, .v (.bool (bif c then p else q)), s)
  | x, y => some (True, if c then x else y, s)
 | _ => none
def qht (P : Program) (T : TypeId → Option TI) (op : BinOp) (t : TypeId) (x y : AV) (s : St) : Step :=
 match fbin P T op t x y s with
 | some r => some r
 | none => gbin T op t x y s
def qbv (T : TypeId → Option TI) (t : TypeId) (x : AV) (lo hi mx : Option AV) (s : St) : Step :=
 match q95 T t x lo hi mx s with
 | some r => some r
 | none => q63 T t x lo hi mx s
def q2i (P : Program) (T : TypeId → Option TI) (L : Nat) (o : Op) (s : St) : Step :=
 match o with
 | .move x => some (True, s.ev x, s)
 | .assign x => some (True, s.ev x, s)
 | .pick c x y => qhs (s.ev c) (s.ev x) (s.ev y) s
 | .alloc t => match T t with
  | some ti => some (True, .ptr s.mem.length 0, { s with mem := s.mem ++ [.box (ti.zero.map .v)] })
  | none => none
 | .box _ x => some ((s.ev x).known = true, .ptr s.mem.length 0, { s with mem := s.mem ++ [.box (s.ev x).cells] })
 | .build t parts => qeg T t (q2b s parts.toList) s
 | .buildSlice t len parts => qad T L t len parts.toList s (s.shutAll (q84 s parts.toList))
 | .load t x => qcm T t (s.ev x) s
 | .store t p x => qe2 T t (s.ev p) (s.ev x) s
 | .nilCheck x => match s.ev x with
  | .ptr b c => some (True, .ptr b c, s)
  | .ep b sz i c => some (True, .ep b sz i c, s)
  | .rp cs => some (True, .rp cs, s)
  | _ => none
 | .binOp op t x y _ => qht P T op t (s.ev x) (s.ev y) s
 | .unOp op _ x => qea op (s.ev x) s
 | .convert src dst x => q7d T src dst (s.ev x) s
 | .makeFunc (.func f) first caps => some (first.size = 0, .fn f (evs s caps.toList), s)
 | .slice t x lo hi mx => qbv T t (s.ev x) (q3v s lo) (q3v s hi) (q3v s mx) s
 | .fieldAddr t x f => q6z T t (s.ev x) f s
 | .field t x f => qdw T t (s.ev x) f s
 | .indexAddr t x i => q70 T t (s.ev x) (s.ev i) s
 | .index t x i => qe9 T t (s.ev x) (s.ev i) s
 | .extract x i => match s.ev x with
  | .tup xs => some (i < xs.length, xs.getD i .any, s)
  | _ => none
 | .call { callee := .builtin b, args := args, argTypes := ts } => match b with
  | .len => match args.toList, ts.toList with
   | [x], [t] => flen T t (s.ev x) s
   | _, _ => none
  | .append => match args.toList with
   | [x, y] => qbt T L ts.toList (s.ev x) (s.ev y) s
   | _ => none
  | .max => q71 true (evs s args.toList) s
  | .min => q71 false (evs s args.toList) s
  | _ => none
 | _ => none
def qbh (P : Program) (T : TypeId → Option TI) (L : Nat) (o : Op) (s : St) : Step :=
 match gpre T o s with
 | some r => some r
 | none => match q2i P T L o s with
  | some r => some r
  | none => qew T L o s
