/- A text of the walk that proves a law of this seat; joined by a program. -/
import Derived.Test.YtdkcpcflfnakdaaGreatSymN
set_option linter.unusedSimpArgs false
set_option linter.unusedVariables false
namespace Go.Proofs.YtdkcpcflfnakdaaGreat.Sym
open Go Go.RowKit
variable {L : Nat} {Hd : Nat → Prop}
variable {hi lo mx : Option AV} {op : BinOp} {p q : AV} {s2 : St} {t : TypeId}
section free
variable {P : Program} {T : TypeId → Option TI} {s s' : St} {C : Prop} {x : AV}
def Free (f : St → Step) : Prop := ∀ s C x s', f s = some (C, x, s') → s' = s ∧ ∀ s2, f s2 = some (C, x, s2)
theorem qxc : Free (qhh T op t p q) := by
 intro s C x s' e
 unfold qhh at e ⊢
 split at e <;> first | (cases e; done) | (cases e; exact ⟨rfl, fun s2 => rfl⟩) | (rename_i h9; cases e; simp only [h9]; done) | (rename_i h9; cases e; simp only [h9]; exact ⟨rfl, fun s2 => rfl⟩) | (rename_i h9; cases e; simp [h9]; done)
theorem qqo : Free (fbin P T op t p q) := by
 intro s C x s' e
 unfold fbin at e ⊢
 split at e
 · unfold fbinS at e ⊢
   split at e <;> first | (cases e; done) | (cases e; exact ⟨rfl, fun _ => rfl⟩)
 · rename_i hne
   obtain ⟨h1, h2⟩ := qxc s C x s' e
   exact ⟨h1, fun s2 => h2 s2⟩
theorem qyr : Free (gbin T op t p q) := by
 intro s C x s' e
 unfold gbin at e
 split at e
 · rename_i r hr
   cases e
   have h2 : ∀ s2, gnil T op t p q s2 = some (C, x, s2) ∧ s' = s := by
    intro s2
    unfold gnil at hr ⊢
    split at hr <;> first | (cases hr; done) | (cases hr; exact ⟨rfl, rfl⟩)
   exact ⟨(h2 s).2, fun s2 => by unfold gbin; rw [(h2 s2).1]⟩
 · rename_i hn
   have hn2 : ∀ s2, gnil T op t p q s2 = none := by
    intro s2
    unfold gnil at hn ⊢
    split at hn <;> first | (cases hn; done) | skip
    rfl
   have h2 : ∀ s2, qhv op p q s2 = some (C, x, s2) ∧ s' = s := by
    intro s2
    unfold qhv at e ⊢
    split at e <;> first | (cases e; done) | (cases e; exact ⟨rfl, rfl⟩)
   exact ⟨(h2 s).2, fun s2 => by unfold gbin; rw [hn2 s2]; exact (h2 s2).1⟩
theorem qwr : Free (qht P T op t p q) := by
 intro s C x s' e
 unfold qht at e ⊢
 cases hf : fbin P T op t p q s with
 | some r =>
  rw [hf] at e
  obtain ⟨C', x', s1⟩ := r
  cases e
  obtain ⟨h1, h2⟩ := qqo s _ _ _ hf
  exact ⟨h1, fun s2 => by rw [h2 s2]⟩
 | none =>
  rw [hf] at e
  have hn : ∀ s2, fbin P T op t p q s2 = none := by
   intro s2
   cases hf2 : fbin P T op t p q s2 with
   | none => rfl
   | some r =>
    obtain ⟨C', x', s1⟩ := r
    have := (qqo s2 _ _ _ hf2).2 s
    rw [hf] at this; cases this
  obtain ⟨h1, h2⟩ := qyr s C x s' e
  exact ⟨h1, fun s2 => by rw [hn s2]; exact h2 s2⟩
theorem qud {op : UnOp} : Free (qea op p) := by
 intro s C x s' e
 unfold qea at e ⊢
 split at e <;> first | (cases e; done) | (cases e; exact ⟨rfl, fun s2 => rfl⟩) | (rename_i h9; cases e; simp only [h9]; done) | (rename_i h9; cases e; simp only [h9]; exact ⟨rfl, fun s2 => rfl⟩) | (rename_i h9; cases e; simp [h9]; done)
theorem qgv {src dst : TypeId} : Free (q5t T src dst p) := by
 intro s C x s' e
 unfold q5t at e ⊢
 split at e <;> try (cases e; done)
 rename_i h1 h2
 split at e <;> try (cases e; done)
 cases e
 rename_i hd
 refine ⟨rfl, fun s2 => ?_⟩
 simp only [h1, h2, hd]
theorem qm3 {f : Nat} : Free (q6z T t p f) := by
 intro s C x s' e
 unfold q6z at e ⊢
 split at e <;> try (cases e; done)
 rename_i h1
 split at e <;> try (cases e; done)
 rename_i h2
 split at e <;> try (cases e; done)
 rename_i h3
 split at e <;> try (cases e; done)
 rename_i h4
 try simp only [h1, h2, h3, h4]
 split at e <;> first | (cases e; done) | (cases e; exact ⟨rfl, fun s2 => rfl⟩) | (rename_i h9; cases e; simp only [h9]; done) | (rename_i h9; cases e; simp only [h9]; exact ⟨rfl, fun s2 => rfl⟩) | (rename_i h9; cases e; simp [h9]; done)
theorem que {f : Nat} : Free (qdw T t p f) := by
 intro s C x s' e
 unfold qdw at e ⊢
 split at e <;> try (cases e; done)
 rename_i h1
 split at e <;> try (cases e; done)
 rename_i h2
 split at e <;> try (cases e; done)
 rename_i h3
 split at e <;> try (cases e; done)
 split at e <;> try (cases e; done)
 rename_i h4
 cases e
 first | exact ⟨rfl, fun _ => rfl⟩ | (simp only [h1, h2, h3, h4]; done) | (simp only [h1, h2, h3, h4]; exact ⟨rfl, fun _ => rfl⟩) | (simp [h1, h2, h3, h4]; done)
theorem qlv {i : AV} : Free (q70 T t p i) := by
 intro s C x s' e
 unfold q70 at e ⊢
 split at e <;> try (cases e; done)
 rename_i h1
 split at e <;> try (cases e; done)
 split at e <;> try (cases e; done)
 · rename_i h2
   split at e <;> try (cases e; done)
   rename_i h3
   try simp only [h1, h2, h3]
   split at e <;> first | (cases e; done) | (cases e; exact ⟨rfl, fun s2 => rfl⟩) | (rename_i h9; cases e; simp only [h9]; done) | (rename_i h9; cases e; simp only [h9]; exact ⟨rfl, fun s2 => rfl⟩) | (rename_i h9; cases e; simp [h9]; done)
 · rename_i h2
   split at e <;> try (cases e; done)
   rename_i h3
   try simp only [h1, h2, h3]
   split at e <;> first | (cases e; done) | (cases e; exact ⟨rfl, fun s2 => rfl⟩) | (rename_i h9; cases e; simp only [h9]; done) | (rename_i h9; cases e; simp only [h9]; exact ⟨rfl, fun s2 => rfl⟩) | (rename_i h9; cases e; simp [h9]; done)
theorem quf {i : AV} : Free (qe9 T t p i) := by
 intro s C x s' e
 unfold qe9 at e ⊢
 split at e <;> try (cases e; done)
 rename_i h1
 split at e <;> try (cases e; done)
 split at e <;> try (cases e; done)
 · rename_i h2
   cases e
   first | exact ⟨rfl, fun _ => rfl⟩ | (simp only [h1, h2]; done) | (simp only [h1, h2]; exact ⟨rfl, fun _ => rfl⟩) | (simp [h1, h2]; done)
 · rename_i h2
   split at e <;> try (cases e; done)
   rename_i h3
   split at e <;> try (cases e; done)
   rename_i h4
   cases e
   first | exact ⟨rfl, fun _ => rfl⟩ | (simp only [h1, h2, h3, h4]; done) | (simp only [h1, h2, h3, h4]; exact ⟨rfl, fun _ => rfl⟩) | (simp [h1, h2, h3, h4]; done)
theorem free_len : Free (flen T t p) := by
 intro s C x s' e
 unfold flen at e ⊢
 split at e <;> try (cases e; done)
 rename_i h1
 try simp only [h1]
 split at e <;> first | (cases e; done) | (rename_i h2; cases e; first | exact ⟨rfl, fun s2 => rfl⟩ | (simp only [h2]; done) | (simp only [h2]; exact ⟨rfl, fun s2 => rfl⟩) | (simp [h2]; done))
theorem qla : Free (q95 T t p lo hi mx) := by
 intro s C x s' e
 unfold q95 at e ⊢
 split at e <;> try (cases e; done)
 rename_i h1
 split at e <;> try (cases e; done)
 · rename_i h2
   split at e <;> try (cases e; done)
   rename_i h3 h4
   cases e
   first | exact ⟨rfl, fun _ => rfl⟩ | (simp only [h1, h2, h3, h4]; done) | (simp only [h1, h2, h3, h4]; exact ⟨rfl, fun _ => rfl⟩) | (simp [h1, h2, h3, h4]; done)
 · rename_i h2
   split at e <;> try (cases e; done)
   rename_i h5
   split at e <;> try (cases e; done)
   rename_i h3 h4
   cases e
   first | exact ⟨rfl, fun _ => rfl⟩ | (simp only [h1, h2, h3, h4, h5]; done) | (simp only [h1, h2, h3, h4, h5]; exact ⟨rfl, fun _ => rfl⟩) | (simp [h1, h2, h3, h4, h5]; done)
theorem qxq {te : TI} {b sz off len room : Nat} : Free (qf3 te b sz off len room lo hi) := by
 intro s C x s' e
 unfold qf3 at e ⊢
 cases hb : q5y hi len with
 | none => rw [hb] at e; cases e
 | some r =>
  obtain ⟨c1, h⟩ := r
  rw [hb] at e
  cases lo with
  | none => cases e; exact ⟨rfl, fun _ => rfl⟩
  | some l =>
   simp only at e ⊢
   cases hl : q5y (some l) 0 with
   | none => rw [hl] at e; cases e
   | some r2 => rw [hl] at e; cases e; exact ⟨rfl, fun _ => rfl⟩
theorem qsn : Free (q63 T t p lo hi mx) := by
 intro s C x s' e
 unfold q63 at e ⊢
 split at e <;> try (cases e; done)
 rename_i h1
 split at e <;> try (cases e; done)
 rename_i h2
 split at e <;> try (cases e; done)
 rename_i h3
 split at e <;> try (cases e; done)
 split at e
 · obtain ⟨q1, q2⟩ := qxq s C x s' e
   exact ⟨q1, fun s2 => by simp only [h1, h2, h3, q2]⟩
 · split at e <;> try (cases e; done)
   rename_i h4 h5 h6
   cases e
   exact ⟨rfl, fun s2 => by simp only [h1, h2, h3, h4, h5, h6]⟩
theorem qrl : Free (qbv T t p lo hi mx) := by
 intro s C x s' e
 unfold qbv at e ⊢
 cases hf : q95 T t p lo hi mx s with
 | some r =>
  rw [hf] at e
  obtain ⟨C', x', s1⟩ := r
  cases e
  obtain ⟨h1, h2⟩ := qla s _ _ _ hf
  exact ⟨h1, fun s2 => by rw [h2 s2]⟩
 | none =>
  rw [hf] at e
  have hn : ∀ s2, q95 T t p lo hi mx s2 = none := by
   intro s2
   cases hf2 : q95 T t p lo hi mx s2 with
   | none => rfl
   | some r =>
    obtain ⟨C', x', s1⟩ := r
    have := (qla s2 _ _ _ hf2).2 s
    rw [hf] at this; cases this
  obtain ⟨h1, h2⟩ := qsn s C x s' e
  exact ⟨h1, fun s2 => by rw [hn s2]; exact h2 s2⟩
theorem qi5 {mx : Bool} {xs : List AV} : Free (q71 mx xs) := by
 intro s C x s' e
 unfold q71 at e ⊢
 split at e <;> first | (cases e; done) | (cases e; exact ⟨rfl, fun s2 => rfl⟩) | (rename_i h9; cases e; simp only [h9]; done) | (rename_i h9; cases e; simp only [h9]; exact ⟨rfl, fun s2 => rfl⟩) | (rename_i h9; cases e; simp [h9]; done)
theorem qwq {c : AV} : Free (qhs c p q) := by
 intro s C x s' e
 unfold qhs at e ⊢
 split at e <;> try (cases e; done)
 split at e
 · cases e; exact ⟨rfl, fun s2 => rfl⟩
 · rename_i h
   cases e
   refine ⟨rfl, fun s2 => ?_⟩
   split <;> first | rfl | exact absurd rfl (h _ _ rfl)
theorem quc {ps : List (Nat × AV)} : Free (qeg T t ps) := by
 intro s C x s' e
 unfold qeg at e ⊢
 split at e <;> try (cases e; done)
 rename_i h1
 split at e <;> try (cases e; done)
 · rename_i h2
   cases e
   first | exact ⟨rfl, fun _ => rfl⟩ | (simp only [h1, h2]; done) | (simp only [h1, h2]; exact ⟨rfl, fun _ => rfl⟩) | (simp [h1, h2]; done)
 · rename_i h2
   split at e <;> try (cases e; done)
   rename_i h3
   cases e
   first | exact ⟨rfl, fun _ => rfl⟩ | (simp only [h1, h2, h3]; done) | (simp only [h1, h2, h3]; exact ⟨rfl, fun _ => rfl⟩) | (simp [h1, h2, h3]; done)
end free
abbrev Wr := Option (Nat × AB × Bool)
def St.app (s : St) : Wr → St
 | none => s
 | some (b, blk, false) => { s with mem := s.mem.set b blk }
 | some (b, blk, true) => s.rehome b blk
def q7g : Op → Bool
 | .move _ => true
 | .assign _ => true
 | .pick _ _ _ => true
 | .build _ _ => true
 | .nilCheck _ => true
 | .binOp _ _ _ _ _ => true
 | .unOp _ _ _ => true
 | .convert _ _ _ => false
 | .makeFunc (.func _) _ _ => true
 | .slice _ _ _ _ _ => true
 | .fieldAddr _ _ _ => true
 | .field _ _ _ => true
 | .indexAddr _ _ _ => true
 | .index _ _ _ => true
 | .extract _ _ => true
 | .call { callee := .builtin b, .. } => match b with
  | .len => true
  | .max => true
  | .min => true
  | _ => false
 | _ => false
def newF (g : FuncId) : Bool := g == 65 || g == 103 || g == 105 || g == 115 || g == 130 || false
def q4g : Op → Bool
 | .alloc _ => true
 | .buildSlice _ 0 _ => true
 | .call { callee := .value (.func g), .. } => newF g
 | _ => false
def q11 : AV → List Nat
 | .ptr b _ => [b]
 | .ep b _ _ _ => [b]
 | .own b _ _ _ => [b]
 | _ => []
def wideF (g : FuncId) : Bool := g == 21 || g == 22 || g == 30 || g == 31 || g == 32 || g == 42 || g == 56 || false
def qhw (v : AV) (m : List AB) : List Nat :=
 match v with
 | .fn g _ => if wideF g = true then List.range (m.length + 1) else []
 | _ => []
theorem qfo {m m2 : List AB} (h : ∀ b ∈ List.range (m.length + 1), m2[b]? = m[b]?) : m2 = m := by
 have h0 := h m.length (by simp)
 rw [z0p (z09 _)] at h0
 have h1 : m2.length ≤ m.length := z5n.1 h0
 apply z1e
 intro i
 by_cases c : i ≤ m.length
 · exact h i (by simp; omega)
 · rw [z0p (by omega), z0p (by omega)]
def q3t (o : Op) (s : St) : List Nat :=
 match o with
 | .load _ x => q11 (s.ev x)
 | .convert _ _ x => q11 (s.ev x)
 | .store _ p _ => q11 (s.ev p)
 | .call { callee := .builtin .append, args := args, .. } => match args.toList with
  | [x, y] => q11 (s.ev x) ++ q11 (s.ev y)
  | _ => []
 | .call { callee := .builtin .copy, args := args, .. } => match args.toList with
  | [x, y] => q11 (s.ev x) ++ q11 (s.ev y)
  | _ => []
 | .call { callee := .value f, args := args, .. } => bks (s.ev f) ++ q03 (evs s args.toList) ++ qhw (s.ev f) s.mem
 | _ => []
def qe1 (T : TypeId → Option TI) (t : TypeId) (p x : AV) (s : St) : Option (Prop × AV × Wr) :=
 match T t with
 | none => none
 | some ti => match p with
  | .ptr b c => match s.mem[b]? with
   | some (.box cs) => some (x.known = true ∧ x.cells.length = ti.size ∧ x.cells.all AV.flat = true ∧ c + ti.size ≤ cs.length, .any, some (b, .box (q5c cs c x.cells), false))
   | _ => none
  | .ep b sz i c => match s.mem[b]? with
   | some (.row t' sz' xs) => some (x.known = true ∧ x.cells.length = ti.size ∧ x.cells.all AV.flat = true ∧ sz = sz' ∧ c + ti.size ≤ sz ∧ x.pure = true ∧ i < xs.length ∧ (xs.getD i .any).known = true ∧ (xs.getD i .any).cells.length = sz ∧
    (match xs.getD i .any with | .agg _ => True | _ => c = 0 ∧ sz = 1 ∧ ti.size = 1), .any, some (b, .row t' sz' (xs.set i (q64 (xs.getD i .any) c x.cells)), false))
   | _ => none
  | _ => none
def q9l (T : TypeId → Option TI) (L : Nat) (ts : List TypeId) (x y : AV) (s : St) : Option (Prop × AV × Wr) :=
 match ts with
 | [t, t'] => match T t with
  | some ti => match ti.desc with
   | .slice e => match T e with
    | some te => match q6l s y te.size with
     | some (c, ys) => match x with
      | .own b sz 0 len => match s.mem[b]? with
       | some (.row e' sz' xs) => some (t' = t ∧ te.zeroOk = true ∧ c ∧ (L ≤ b ∧ e' = e ∧ sz = te.size ∧ sz' = te.size ∧ xs.length = len) ∧ len + ys.length ≤ maxLen ∧ (len + ys.length) * te.bytes ≤ 140737488355328,
        .own b sz 0 (len + ys.length), some (b, .row e' sz' (xs ++ ys), true))
       | _ => none
      | _ => none
     | none => none
    | none => none
   | _ => none
  | none => none
 | _ => none
def q65 (T : TypeId → Option TI) (nid : Nat) (t : TypeId) (len : Nat) (parts : List (Nat × Operand)) (s : St) : Option (Prop × AV × Wr) :=
 match T t with
 | some ti => match ti.desc with
  | .slice e => match T e with
   | some te => match len with
    | 0 => some (te.zeroOk = true ∧ parts.length = 0, .own nid te.size 0 0, some (nid, .row e te.size [], true))
    | n + 1 => some (te.zeroOk = true ∧ len * te.size ≤ 16777216 ∧ q9i len te.size (q2b s parts), .sl te.size (q3w (List.replicate len te.zav) (q2b s parts)), none)
   | none => none
  | _ => none
 | none => none
def q9y (T : TypeId → Option TI) (ts : List TypeId) (x y : AV) (s : St) : Option (Prop × AV × Wr) :=
 match ts with
 | [t, t'] => match T t with
  | some ti => match ti.desc with
   | .slice e => match T e with
    | some te => match q7j s y te.size with
     | some (c, ys) => match x with
      | .own b sz 0 len => match s.mem[b]? with
       | some (.rowc e' sz' xs N) => some (t' = t ∧ c ∧ te.zeroOk = true ∧ (e' = e ∧ sz = te.size ∧ sz' = te.size ∧ len ≤ xs.length) ∧ len + ys.length ≤ N, .own b sz 0 (len + ys.length), some (b, .rowc e' sz' (q2w xs len ys) N, false))
       | _ => none
      | _ => none
     | none => none
    | none => none
   | _ => none
  | none => none
 | _ => none
def qhl (T : TypeId → Option TI) (t : TypeId) (x y : AV) (s : St) : Option (Prop × AV × Wr) :=
 match T t with
 | some ti => match ti.desc with
  | .slice e => match T e with
   | some te => match x with
    | .own b sz off len => match qag s y te.size len with
     | some (c, ys) => match s.mem[b]? with
      | some (.row t' sz' xs) => some (sz = te.size ∧ sz' = te.size ∧ c ∧ 0 < len ∧ off ≤ xs.length, .v (.int .i64 ys.length), some (b, .row t' sz' (q2w xs off ys), false))
      | some (.rowc t' sz' xs N) => some (sz = te.size ∧ sz' = te.size ∧ c ∧ 0 < len ∧ off ≤ xs.length, .v (.int .i64 ys.length), some (b, .rowc t' sz' (q2w xs off ys) N, false))
      | _ => none
     | none => none
    | _ => none
   | none => none
  | _ => none
 | none => none
def qd5 (T : TypeId → Option TI) (t : TypeId) (p : AV) (s : St) : Step :=
 match q6j T t p s with
 | some r => some r
 | none => qcm T t p s
def q8j (P : Program) (T : TypeId → Option TI) (L nid : Nat) (o : Op) (s : St) : Option (Prop × AV × Wr) :=
 if q7g o then (match q2i P T L o s with | some (C, x, _) => some (C, x, none) | none => none) else
 match o with
 | .load t x => (match qd5 T t (s.ev x) s with | some (C, y, _) => some (C, y, none) | none => none)
 | .convert t u x => (match q7d T t u (s.ev x) s with | some (C, y, _) => some (C, y, none) | none => none)
 | .store t p x => qe1 T t (s.ev p) (s.ev x) s
 | .alloc t => match T t with
  | some ti => some (True, .ptr nid 0, some (nid, .box (ti.zero.map .v), true))
  | none => none
 | .buildSlice t len parts => q65 T nid t len parts.toList s
 | .call { callee := .builtin .append, args := args, argTypes := ts } => match args.toList with
  | [x, y] => (match q9l T L ts.toList (s.ev x) (s.ev y) s with | some r => some r | none => q9y T ts.toList (s.ev x) (s.ev y) s)
  | _ => none
 | .call { callee := .builtin .copy, args := args, argTypes := ts } => match args.toList, ts.toList with
  | [x, y], [t, _] => qhl T t (s.ev x) (s.ev y) s
  | _, _ => none
 | _ => none
theorem q8d {s : St} : ∀ {l : List Operand}, (∀ y ∈ l, s2.ev y = s.ev y) → evs s2 l = evs s l
 | [], _ => rfl
 | y :: l, h => by rw [evs, evs, h y (by simp), q8d (fun z hz => h z (by simp [hz]))]
theorem qb4 {s : St} : ∀ {l : List (Nat × Operand)}, (∀ y ∈ l.map Prod.snd, s2.ev y = s.ev y) → q2b s2 l = q2b s l
 | [], _ => rfl
 | (i, y) :: l, h => by rw [q2b, q2b, h y (by simp), qb4 (fun z hz => h z (by simp at hz ⊢; exact .inr hz))]
theorem qdi {s : St} {o : Option Operand} (h : ∀ y, o = some y → s2.ev y = s.ev y) : q3v s2 o = q3v s o := by
 cases o with
 | none => rfl
 | some y => simp only [q3v, h y rfl]
theorem qkg {P : Program} {T : TypeId → Option TI} {o : Op} (ho : q7g o = true) {s s' : St} {C : Prop} {x : AV} (e : q2i P T L o s = some (C, x, s')) :
 s' = s ∧ ∀ s2, (∀ y ∈ o.operands.toList, s2.ev y = s.ev y) → q2i P T L o s2 = some (C, x, s2) := by
 cases o with
 | move y =>
  cases e
  exact ⟨rfl, fun s2 h => by simp only [q2i, h y (by simp [Op.operands])]⟩
 | assign y =>
  cases e
  exact ⟨rfl, fun s2 h => by simp only [q2i, h y (by simp [Op.operands])]⟩
 | pick c y z =>
  obtain ⟨h1, h2⟩ := qwq s C x s' e
  exact ⟨h1, fun s2 h => by simp only [q2i, h c (by simp [Op.operands]), h y (by simp [Op.operands]), h z (by simp [Op.operands]), h2]⟩
 | build t ps =>
  obtain ⟨h1, h2⟩ := quc s C x s' e
  exact ⟨h1, fun s2 h => by simp only [q2i]; rw [qb4 (s := s) (fun y hy => h y (by simpa [Op.operands] using hy)), h2]⟩
 | nilCheck y =>
  have e' : (match s.ev y with | .ptr b c => some (True, .ptr b c, s) | .ep b sz i c => some (True, .ep b sz i c, s) | .rp cs => some (True, .rp cs, s) | _ => none : Step) = some (C, x, s') := e
  refine ⟨?_, fun s2 h => ?_⟩
  · split at e' <;> first | (cases e'; rfl) | (cases e'; done)
  · have hy := h y (by simp [Op.operands])
    show (match s2.ev y with | .ptr b c => some (True, .ptr b c, s2) | .ep b sz i c => some (True, .ep b sz i c, s2) | .rp cs => some (True, .rp cs, s2) | _ => none : Step) = some (C, x, s2)
    rw [hy]
    split at e' <;> first | (cases e'; rfl) | (cases e'; done)
 | binOp op t y z u =>
  obtain ⟨h1, h2⟩ := qwr s C x s' e
  exact ⟨h1, fun s2 h => by simp only [q2i, h y (by simp [Op.operands]), h z (by simp [Op.operands]), h2]⟩
 | unOp op t y =>
  obtain ⟨h1, h2⟩ := qud s C x s' e
  exact ⟨h1, fun s2 h => by simp only [q2i, h y (by simp [Op.operands]), h2]⟩
 | convert t u y => simp [q7g] at ho
 | makeFunc f first caps =>
  cases f with
  | func f =>
   cases e
   exact ⟨rfl, fun s2 h => by simp only [q2i]; rw [q8d (s := s) (fun y hy => h y (by simp [Op.operands] at hy ⊢; exact .inr hy))]⟩
  | _ => simp [q7g] at ho
 | slice t y lo hi mx =>
  obtain ⟨h1, h2⟩ := qrl s C x s' e
  refine ⟨h1, fun s2 h => ?_⟩
  simp only [q2i]
  rw [h y (by simp [Op.operands]), qdi (o := lo) (s := s) (fun z hz => h z (by subst hz; simp [Op.operands])), qdi (o := hi) (s := s) (fun z hz => h z (by subst hz; simp [Op.operands])),
   qdi (o := mx) (s := s) (fun z hz => h z (by subst hz; simp [Op.operands])), h2]
 | fieldAddr t y f =>
  obtain ⟨h1, h2⟩ := qm3 s C x s' e
  exact ⟨h1, fun s2 h => by simp only [q2i, h y (by simp [Op.operands]), h2]⟩
 | field t y f =>
  obtain ⟨h1, h2⟩ := que s C x s' e
  exact ⟨h1, fun s2 h => by simp only [q2i, h y (by simp [Op.operands]), h2]⟩
 | indexAddr t y z =>
  obtain ⟨h1, h2⟩ := qlv s C x s' e
  exact ⟨h1, fun s2 h => by simp only [q2i, h y (by simp [Op.operands]), h z (by simp [Op.operands]), h2]⟩
 | index t y z =>
  obtain ⟨h1, h2⟩ := quf s C x s' e
  exact ⟨h1, fun s2 h => by simp only [q2i, h y (by simp [Op.operands]), h z (by simp [Op.operands]), h2]⟩
 | extract y i =>
  have e' : (match s.ev y with | .tup xs => some (i < xs.length, xs.getD i .any, s) | _ => none : Step) = some (C, x, s') := e
  refine ⟨?_, fun s2 h => ?_⟩
  · split at e' <;> first | (cases e'; rfl) | (cases e'; done)
  · have hy := h y (by simp [Op.operands])
    show (match s2.ev y with | .tup xs => some (i < xs.length, xs.getD i .any, s2) | _ => none : Step) = some (C, x, s2)
    rw [hy]
    split at e' <;> first | (cases e'; rfl) | (cases e'; done)
 | call c =>
  obtain ⟨cal, args, ts⟩ := c
  cases cal with
  | builtin b =>
   have hop : ∀ y ∈ args.toList, y ∈ (Op.call ⟨.builtin b, args, ts⟩).operands.toList := fun y hy => by simpa [Op.operands, Call.operands] using hy
   cases b with
   | len =>
    have e' : (match args.toList, ts.toList with | [x], [t] => flen T t (s.ev x) s | _, _ => none : Step) = some (C, x, s') := e
    split at e' <;> try (cases e'; done)
    rename_i y t ha hts
    obtain ⟨h1, h2⟩ := free_len s C x s' e'
    refine ⟨h1, fun s2 h => ?_⟩
    show (match args.toList, ts.toList with | [x], [t] => flen T t (s2.ev x) s2 | _, _ => none : Step) = _
    rw [ha, hts]
    simp only
    rw [h y (hop y (by rw [ha]; simp)), h2]
   | max =>
    obtain ⟨h1, h2⟩ := qi5 (mx := true) s C x s' e
    refine ⟨h1, fun s2 h => ?_⟩
    show q71 true (evs s2 args.toList) s2 = _
    rw [q8d (s := s) (fun y hy => h y (hop y hy)), h2]
   | min =>
    obtain ⟨h1, h2⟩ := qi5 (mx := false) s C x s' e
    refine ⟨h1, fun s2 h => ?_⟩
    show q71 false (evs s2 args.toList) s2 = _
    rw [q8d (s := s) (fun y hy => h y (hop y hy)), h2]
   | _ => simp [q7g] at ho
  | _ => simp [q7g] at ho
 | _ => simp [q7g] at ho
