/- A text of the walk that proves a law of this seat; joined by a program. -/
import Derived.WalkKit
set_option linter.unusedSimpArgs false
set_option linter.unusedVariables false
namespace Go.Proofs.YtdkcpcflfnakdaaGreat.Sym
open Go Go.RowKit
inductive AV where
  | v (x : Value)                 -- a value without addresses, as it stands
  | agg (xs : List AV)            -- a struct or an array: its cells
  | tup (xs : List AV)            -- several results
  | sl (sz : Nat) (xs : List AV)  -- a slice that nobody changes: its elements
  | rp (cs : List AV)             -- an address of cells that nobody changes: these and those behind
  | own (b sz off len : Nat)      -- a slice of a row of our own
  | ptr (b c : Nat)               -- the address of a cell of a box of our own
  | ep (b sz i c : Nat)         -- the address of a cell of an element of a row of our own
  | fn (f : FuncId) (caps : List AV)
  | any
  deriving Inhabited
def AV.cells : AV → List AV
  | .agg xs => xs
  | .v x => x.cells.toList.map .v
  | x => [x]
inductive AB where
  | box (cs : List AV)
  | row (t : TypeId) (sz : Nat) (xs : List AV)
  | rowc (t : TypeId) (sz : Nat) (xs : List AV) (N : Nat)  -- a row that has room for so many
  | gone
  | tr (xs : List AV) (stopped : Bool)  -- no memory: what an iterator has handed out, and whether it was told to stop
  deriving Inhabited
abbrev Loc := List (Option Nat)
def G : Nat → Option (List Value)
  | _ => none
def GT : Nat → Option (List Value)
  | _ => none
def GW : Nat → Option (List Value)
  | _ => none
def Imm (Hd : Nat → Prop) (ι : Loc) (w : World) (r : Nat) : Prop := r < w.heap.size ∧ some r ∉ ι ∧ ¬ Hd r
def q1l (w : World) (r off : Nat) (vs : List Value) : Prop :=
  ∀ i, (h : i < vs.length) → w.cell? ⟨r, off + i, none⟩ = some vs[i]
def flatV (vs : List Value) : List Value := vs.flatMap fun v => v.cells.toList
def RowAt (w : World) (r off sz : Nat) (vs : List Value) : Prop := (∀ v ∈ vs, v.cells.size = sz) ∧ q1l w r off (flatV vs) ∧ ∀ u ∈ flatV vs, u.oneCell' = true
mutual
def AV.refs : AV → List Nat
  | .agg xs => q04 xs
  | .tup xs => q04 xs
  | .sl _ xs => q04 xs
  | .rp cs => q04 cs
  | .own b _ _ _ => [b]
  | .ptr b _ => [b]
  | .ep b _ _ _ => [b]
  | .fn _ caps => q04 caps
  | _ => []
def q04 : List AV → List Nat
  | [] => []
  | x :: xs => x.refs ++ q04 xs
end
mutual
def rel (Hd : Nat → Prop) (ι : Loc) (w : World) : AV → Value → Prop
  | .v x, y => y = x
  | .agg xs, y => ∃ vs : List Value, y = .agg vs.toArray ∧ rels Hd ι w xs vs
  | .tup xs, y => ∃ vs : List Value, y = .tuple vs.toArray ∧ rels Hd ι w xs vs
  | .sl sz xs, y => q04 xs = [] ∧ ∃ (a : Option Addr) (cap : Nat) (vs : List Value), y = .slice a xs.length cap ∧ xs.length ≤ cap ∧ rels Hd ι w xs vs ∧
      (xs = [] ∨ ∃ r off, a = some ⟨r, off, none⟩ ∧ Imm Hd ι w r ∧ RowAt w r off sz vs)
  | .rp cs, y => q04 cs = [] ∧ ∃ (r off : Nat) (vs : List Value), y = .pointer (some ⟨r, off, none⟩) ∧ Imm Hd ι w r ∧ rels Hd ι w cs vs ∧ q1l w r off vs
  | .own b sz off len, y => (∃ r cap n t, y = .slice (some ⟨r, off * sz, none⟩) len cap ∧ len ≤ cap ∧ off + cap ≤ maxLen ∧ ι[b]? = some (some r) ∧ w.shape? r = some (t, n) ∧ (off + cap) * sz = n) ∨
      (∃ a, y = .slice a 0 0 ∧ off = 0 ∧ len = 0 ∧ ι[b]? = some none)
  | .ptr b c, y => ∃ r, y = .pointer (some ⟨r, c, none⟩) ∧ ι[b]? = some (some r)
  | .ep b sz i c, y => ∃ r, y = .pointer (some ⟨r, i * sz + c, none⟩) ∧ ι[b]? = some (some r)
  | .fn f caps, y => ∃ vs : List Value, y = .func (.func f) #[] vs.toArray ∧ rels Hd ι w caps vs
  | .any, _ => True
def rels (Hd : Nat → Prop) (ι : Loc) (w : World) : List AV → List Value → Prop
  | [], ys => ys = []
  | x :: xs, ys => ∃ y zs, ys = y :: zs ∧ rel Hd ι w x y ∧ rels Hd ι w xs zs
end
structure Ext (L : Nat) (ι : Loc) (w : World) (ι' : Loc) (w' : World) : Prop where
  os : w'.os = w.os
  tape : w'.tape = w.tape
  output : w'.output = w.output
  size : w.heap.size ≤ w'.heap.size
  imm : ∀ r, r < w.heap.size → some r ∉ ι → some r ∉ ι' ∧ w'.heap[r]? = w.heap[r]?
  shape : ∀ r, r < w.heap.size → w'.shape? r = w.shape? r
  keep : ∀ (b : Nat) (o : Option Nat), b < L → ι[b]? = some o → ι'[b]? = some o
variable {L : Nat} {Hd : Nat → Prop}
theorem Ext.refl (ι : Loc) (w : World) : Ext L ι w ι w := ⟨rfl, rfl, rfl, Nat.le_refl _, fun _ _ h => ⟨h, rfl⟩, fun _ _ => rfl, fun _ _ _ h => h⟩
theorem Ext.trans {ι₁ ι₂ ι₃ : Loc} {w₁ w₂ w₃ : World} (h : Ext L ι₁ w₁ ι₂ w₂) (k : Ext L ι₂ w₂ ι₃ w₃) : Ext L ι₁ w₁ ι₃ w₃ :=
  ⟨k.os.trans h.os, k.tape.trans h.tape, k.output.trans h.output, Nat.le_trans h.size k.size,
    fun r hr hn => ⟨(k.imm r (Nat.lt_of_lt_of_le hr h.size) (h.imm r hr hn).1).1, (k.imm r (Nat.lt_of_lt_of_le hr h.size) (h.imm r hr hn).1).2.trans (h.imm r hr hn).2⟩,
    fun r hr => (k.shape r (Nat.lt_of_lt_of_le hr h.size)).trans (h.shape r hr), fun b o hb ho => k.keep b o hb (h.keep b o hb ho)⟩
theorem q11 {w w' : World} {r : Nat} (h : w'.heap[r]? = w.heap[r]?) (o : Nat) : w'.cell? ⟨r, o, none⟩ = w.cell? ⟨r, o, none⟩ := by
  simp only [World.cell?, h]
theorem Imm.ext {ι ι' : Loc} {w w' : World} {r : Nat} (h : Imm Hd ι w r) (e : Ext L ι w ι' w') : Imm Hd ι' w' r :=
  ⟨Nat.lt_of_lt_of_le h.1 e.size, (e.imm r h.1 h.2.1).1, h.2.2⟩
theorem RowAt.ext {ι ι' : Loc} {w w' : World} {r off sz : Nat} {vs : List Value} (hi : Imm Hd ι w r) (e : Ext L ι w ι' w') (h : RowAt w r off sz vs) : RowAt w' r off sz vs :=
  ⟨h.1, fun i hl => (q11 (e.imm r hi.1 hi.2.1).2 _).trans (h.2.1 i hl), h.2.2⟩
theorem q1l.ext {ι ι' : Loc} {w w' : World} {r off : Nat} {vs : List Value} (hi : Imm Hd ι w r) (e : Ext L ι w ι' w') (h : q1l w r off vs) : q1l w' r off vs :=
  fun i hl => (q11 (e.imm r hi.1 hi.2.1).2 _).trans (h i hl)
mutual
theorem rel_ext {ι ι' : Loc} {w w' : World} (e : Ext L ι w ι' w') (hl : ∀ r, some r ∈ ι → r < w.heap.size) : ∀ (x : AV) (y : Value), (∀ b ∈ x.refs, ∀ o, ι[b]? = some o → ι'[b]? = some o) → rel Hd ι w x y → rel Hd ι' w' x y
  | .v _, _, _, h => h
  | .agg xs, _, hk, h => by
    obtain ⟨vs, rfl, h⟩ := h
    exact ⟨vs, rfl, q0l e hl xs vs hk h⟩
  | .tup xs, _, hk, h => by
    obtain ⟨vs, rfl, h⟩ := h
    exact ⟨vs, rfl, q0l e hl xs vs hk h⟩
  | .sl sz xs, _, hk, h => by
    obtain ⟨hp, a, cap, vs, rfl, hc, h, hm⟩ := h
    refine ⟨hp, a, cap, vs, rfl, hc, q0l e hl xs vs hk h, hm.imp id ?_⟩
    rintro ⟨r, off, rfl, hi, hr⟩
    exact ⟨r, off, rfl, hi.ext e, hr.ext hi e⟩
  | .rp cs, _, hk, h => by
    obtain ⟨hp, r, off, vs, rfl, hi, h, hc⟩ := h
    exact ⟨hp, r, off, vs, rfl, hi.ext e, q0l e hl cs vs hk h, hc.ext hi e⟩
  | .own b sz off len, _, hk, h => by
    rcases h with ⟨r, cap, n, t, rfl, hc, hm, hb, hs, hn⟩ | ⟨a0, rfl, h1, h2, h3⟩
    · exact .inl ⟨r, cap, n, t, rfl, hc, hm, hk b (by simp [AV.refs]) _ hb, (e.shape r (hl r (List.mem_of_getElem? hb))).trans hs, hn⟩
    · exact .inr ⟨a0, rfl, h1, h2, hk b (by simp [AV.refs]) _ h3⟩
  | .ptr b c, _, hk, h => by
    obtain ⟨r, rfl, hb⟩ := h
    exact ⟨r, rfl, hk b (by simp [AV.refs]) _ hb⟩
  | .ep b sz i c, _, hk, h => by
    obtain ⟨r, rfl, hb⟩ := h
    exact ⟨r, rfl, hk b (by simp [AV.refs]) _ hb⟩
  | .fn f caps, _, hk, h => by
    obtain ⟨vs, rfl, h⟩ := h
    exact ⟨vs, rfl, q0l e hl caps vs hk h⟩
  | .any, _, _, _ => trivial
theorem q0l {ι ι' : Loc} {w w' : World} (e : Ext L ι w ι' w') (hl : ∀ r, some r ∈ ι → r < w.heap.size) : ∀ (xs : List AV) (ys : List Value), (∀ b ∈ q04 xs, ∀ o, ι[b]? = some o → ι'[b]? = some o) → rels Hd ι w xs ys → rels Hd ι' w' xs ys
  | [], _, _, h => h
  | x :: xs, _, hk, h => by
    obtain ⟨y, zs, rfl, h1, h2⟩ := h
    exact ⟨y, zs, rfl, rel_ext e hl x y (fun b hb => hk b (by simp [q04, hb])) h1, q0l e hl xs zs (fun b hb => hk b (by simp [q04, hb])) h2⟩
end
theorem q0b {ι : Loc} {w : World} : ∀ {xs : List AV} {ys : List Value}, rels Hd ι w xs ys → xs.length = ys.length
  | [], _, h => by cases h; rfl
  | x :: xs, _, h => by obtain ⟨y, zs, rfl, _, h2⟩ := h; simp [q0b h2]
theorem rels_get {ι : Loc} {w : World} : ∀ {xs : List AV} {ys : List Value} {i : Nat} {x : AV}, rels Hd ι w xs ys → xs[i]? = some x → ∃ y, ys[i]? = some y ∧ rel Hd ι w x y
  | [], _, _, _, _, hx => by simp at hx
  | x :: xs, _, i, x', h, hx => by
    obtain ⟨y, zs, rfl, h1, h2⟩ := h
    cases i with
    | zero => simp at hx; subst hx; exact ⟨y, rfl, h1⟩
    | succ i => simpa using rels_get h2 (by simpa using hx)
theorem q10 {ι : Loc} {w : World} : ∀ {xs xs' : List AV} {ys ys' : List Value}, rels Hd ι w xs ys → rels Hd ι w xs' ys' → rels Hd ι w (xs ++ xs') (ys ++ ys')
  | [], _, _, _, h, h' => by cases h; exact h'
  | x :: xs, _, _, _, h, h' => by
    obtain ⟨y, zs, rfl, h1, h2⟩ := h
    exact ⟨y, zs ++ _, rfl, h1, q10 h2 h'⟩
theorem rels_set {ι : Loc} {w : World} : ∀ {xs : List AV} {ys : List Value} (i : Nat) {x : AV} {y : Value}, rels Hd ι w xs ys → rel Hd ι w x y → rels Hd ι w (xs.set i x) (ys.set i y)
  | [], _, _, _, _, h, _ => by cases h; rfl
  | x :: xs, _, i, _, _, h, hx => by
    obtain ⟨y, zs, rfl, h1, h2⟩ := h
    cases i with
    | zero => exact ⟨_, zs, rfl, hx, h2⟩
    | succ i => exact ⟨y, _, rfl, h1, rels_set i h2 hx⟩
theorem q1i {ι : Loc} {w : World} : ∀ {xs : List AV} {ys : List Value} (i : Nat), rels Hd ι w xs ys → rels Hd ι w (xs.drop i) (ys.drop i)
  | [], _, i, h => by cases h; simp [rels]
  | x :: xs, _, i, h => by
    obtain ⟨y, zs, rfl, h1, h2⟩ := h
    cases i with
    | zero => exact ⟨y, zs, rfl, h1, h2⟩
    | succ i => exact q1i i h2
theorem q1t {ι : Loc} {w : World} : ∀ {xs : List AV} {ys : List Value} (i : Nat), rels Hd ι w xs ys → rels Hd ι w (xs.take i) (ys.take i)
  | [], _, i, h => by cases h; simp [rels]
  | x :: xs, _, i, h => by
    obtain ⟨y, zs, rfl, h1, h2⟩ := h
    cases i with
    | zero => rfl
    | succ i => exact ⟨y, _, rfl, h1, q1t i h2⟩
theorem rels_v {ι : Loc} {w : World} : ∀ {xs ys : List Value}, rels Hd ι w (xs.map AV.v) ys ↔ ys = xs
  | [], _ => Iff.rfl
  | x :: xs, ys => by
    constructor
    · rintro ⟨y, zs, rfl, h1, h2⟩
      have h1 : y = x := h1
      rw [rels_v.1 h2, h1]
    · rintro rfl
      exact ⟨x, xs, rfl, (rfl : x = x), rels_v.2 rfl⟩
theorem q2a {ι : Loc} {w : World} : ∀ {ys : List Value}, rels Hd ι w (List.replicate ys.length .any) ys
  | [] => rfl
  | y :: ys => ⟨y, ys, rfl, True.intro, q2a⟩
theorem q4h {ι : Loc} {w : World} {x : AV} {y : Value} (h : rel Hd ι w x y) (hx : x ≠ .any) : rels Hd ι w x.cells y.cells.toList := by
  cases x with
  | v x => cases h; exact rels_v.2 rfl
  | agg xs => obtain ⟨vs, rfl, h⟩ := h; simpa [AV.cells, Value.cells] using h
  | any => exact absurd rfl hx
  | tup xs => have h' := h; obtain ⟨vs, rfl, h⟩ := h; exact ⟨_, [], rfl, h', rfl⟩
  | sl sz xs => have h' := h; obtain ⟨_, a, cap, vs, rfl, _⟩ := h; exact ⟨_, [], rfl, h', rfl⟩
  | rp cs => have h' := h; obtain ⟨_, a, cap, vs, rfl, _⟩ := h; exact ⟨_, [], rfl, h', rfl⟩
  | own b sz off len =>
    have h' := h
    rcases h with ⟨r, cap, n, t, rfl, _⟩ | ⟨a0, rfl, _⟩ <;> exact ⟨_, [], rfl, h', rfl⟩
  | ptr b c => have h' := h; obtain ⟨r, rfl, _⟩ := h; exact ⟨_, [], rfl, h', rfl⟩
  | ep b sz i c => have h' := h; obtain ⟨r, rfl, _⟩ := h; exact ⟨_, [], rfl, h', rfl⟩
  | fn f caps => have h' := h; obtain ⟨r, rfl, _⟩ := h; exact ⟨_, [], rfl, h', rfl⟩
def AV.flat : AV → Bool
  | .v x => x.oneCell'
  | .agg _ => false
  | .tup _ => false
  | .any => false
  | _ => true
theorem rel_flat {ι : Loc} {w : World} {x : AV} {y : Value} (h : rel Hd ι w x y) (hx : x.flat = true) : y.oneCell' = true := by
  cases x with
  | v x => cases h; exact hx
  | agg xs => simp [AV.flat] at hx
  | any => simp [AV.flat] at hx
  | tup xs => simp [AV.flat] at hx
  | sl sz xs => obtain ⟨_, a, cap, vs, rfl, _⟩ := h; rfl
  | rp cs => obtain ⟨_, a, cap, vs, rfl, _⟩ := h; rfl
  | own b sz off len => rcases h with ⟨r, cap, n, t, rfl, _⟩ | ⟨a0, rfl, _⟩ <;> rfl
  | ptr b c => obtain ⟨r, rfl, _⟩ := h; rfl
  | ep b sz i c => obtain ⟨r, rfl, _⟩ := h; rfl
  | fn f caps => obtain ⟨r, rfl, _⟩ := h; rfl
theorem q0z {xs : List AV} : q04 xs = [] ↔ ∀ x ∈ xs, x.refs = [] := by
  induction xs with
  | nil => simp [q04]
  | cons x xs ih => simp [q04, ih]
theorem refs_cells {x : AV} (h : x.refs = []) : q04 x.cells = [] := by
  cases x with
  | v y => rw [q0z]; intro z hz; simp only [AV.cells, List.mem_map] at hz; obtain ⟨_, _, rfl⟩ := hz; rfl
  | agg xs => exact h
  | _ => rw [q0z]; intro z hz; simp only [AV.cells, List.mem_singleton] at hz; subst hz; exact h
theorem q1m {xs : List AV} (h : q04 xs = []) (n : Nat) : q04 (xs.drop n) = [] := by
  rw [q0z] at h ⊢
  exact fun x hx => h x (List.mem_of_mem_drop hx)
theorem q1s {xs : List AV} (h : q04 xs = []) (n : Nat) : q04 (xs.take n) = [] := by
  rw [q0z] at h ⊢
  exact fun x hx => h x (List.mem_of_mem_take hx)
theorem q1v {xs ys : List AV} (h : q04 xs = []) (k : q04 ys = []) : q04 (xs ++ ys) = [] := by
  rw [q0z] at h k ⊢
  intro x hx
  rcases List.mem_append.1 hx with hx | hx
  · exact h x hx
  · exact k x hx
theorem refsAll_set {xs : List AV} (h : q04 xs = []) (i : Nat) {x : AV} (k : x.refs = []) : q04 (xs.set i x) = [] := by
  rw [q0z] at h ⊢
  intro y hy
  rcases List.mem_or_eq_of_mem_set hy with hy | rfl
  · exact h y hy
  · exact k
structure St where
  tmps : List AV
  mem : List AB
def CapIs (ι : Loc) (w : World) (i sz N : Nat) : Prop := (∃ r t, ι[i]? = some (some r) ∧ w.shape? r = some (t, N * sz)) ∨ (ι[i]? = some none ∧ N = 0)
theorem CapIs.move {ι ι' : Loc} {w w' : World} {i j sz N : Nat} (h : CapIs ι w i sz N) (hk : ∀ o : Option Nat, ι[i]? = some o → ι'[j]? = some o) (hs : ∀ r : Nat, ι[i]? = some (some r) → w'.shape? r = w.shape? r) : CapIs ι' w' j sz N := by
  rcases h with ⟨r, t, h1, h2⟩ | ⟨h1, h2⟩
  · exact .inl ⟨r, t, hk _ h1, (hs r h1).trans h2⟩
  · exact .inr ⟨hk _ h1, h2⟩
theorem shape_of_heap {w w' : World} {r : Nat} (h : w'.heap[r]? = w.heap[r]?) : w'.shape? r = w.shape? r := by simp only [World.shape?, h]
def q1w (Hd : Nat → Prop) (ι : Loc) (w : World) (i : Nat) : AB → Prop
  | .box cs => ∃ r t vs, ι[i]? = some (some r) ∧ w.heap[r]? = some (.cells vs t (0, 0)) ∧ rels Hd ι w cs vs.toList
  | .row t sz xs => q04 xs = [] ∧ ((∃ r cells vs, ι[i]? = some (some r) ∧ w.heap[r]? = some (.cells cells t (0, 0)) ∧ rels Hd ι w xs vs ∧ RowAt w r 0 sz vs) ∨ (ι[i]? = some none ∧ xs = []))
  | .rowc t sz xs N => (q04 xs = [] ∧ ((∃ r cells vs, ι[i]? = some (some r) ∧ w.heap[r]? = some (.cells cells t (0, 0)) ∧ rels Hd ι w xs vs ∧ RowAt w r 0 sz vs) ∨ (ι[i]? = some none ∧ xs = []))) ∧ CapIs ι w i sz N
  | .gone => True
  | .tr _ _ => True
def Marks (Hd : Nat → Prop) (B : Nat) (ι : Loc) (ds : List Deferred) (w : World) : Prop :=
  ∃ rs : List Nat, ds = rs.map (fun r => { target := .collected r, args := #[] }) ∧ rs.Nodup ∧ ∀ r ∈ rs, B ≤ r ∧ Imm Hd ι w r ∧ w.heap[r]? = some (.deferred (some []))
structure GlobOk (Hd : Nat → Prop) (ι : Loc) (w : World) : Prop where
  plain : ∀ g vs, G g = some vs → Imm Hd ι w g ∧ q1l w g 0 vs
  tab : ∀ g vs, GT g = some vs → Imm Hd ι w g ∧ ∃ R o c, w.cell? ⟨g, 0, none⟩ = some (.slice (some ⟨R, o, none⟩) vs.length c) ∧ Imm Hd ι w R ∧ q1l w R o vs
  whole : ∀ g vs, GW g = some vs → Imm Hd ι w g ∧ ∃ t f, w.heap[g]? = some (.cells vs.toArray t f)
theorem GlobOk.ext {ι ι' : Loc} {w w' : World} (h : GlobOk Hd ι w) (e : Ext L ι w ι' w') : GlobOk Hd ι' w' :=
  ⟨fun g vs hg => ⟨(h.plain g vs hg).1.ext e, (h.plain g vs hg).2.ext (h.plain g vs hg).1 e⟩,
    fun g vs hg => by
      obtain ⟨h1, R, o, c, h2, h3, h4⟩ := h.tab g vs hg
      exact ⟨h1.ext e, R, o, c, (q11 (e.imm g h1.1 h1.2.1).2 _).trans h2, h3.ext e, h4.ext h3 e⟩,
    fun g vs hg => by
      obtain ⟨h1, t, f, h2⟩ := h.whole g vs hg
      exact ⟨h1.ext e, t, f, (e.imm g h1.1 h1.2.1).2.trans h2⟩⟩
theorem GlobOk.free {Hd Hd' : Nat → Prop} {ι ι' : Loc} {w : World} (h : GlobOk Hd ι w) (hI : ∀ r, Imm Hd ι w r → Imm Hd' ι' w r) : GlobOk Hd' ι' w :=
  ⟨fun g vs hg => ⟨hI g (h.plain g vs hg).1, (h.plain g vs hg).2⟩,
    fun g vs hg => by
      obtain ⟨h1, R, o, c, h2, h3, h4⟩ := h.tab g vs hg
      exact ⟨hI g h1, R, o, c, h2, hI R h3, h4⟩,
    fun g vs hg => ⟨hI g (h.whole g vs hg).1, (h.whole g vs hg).2⟩⟩
theorem GlobOk.none {Hd : Nat → Prop} {ι : Loc} {w : World} (h1 : ∀ g, G g = .none) (h2 : ∀ g, GT g = .none) (h3 : ∀ g, GW g = .none) : GlobOk Hd ι w :=
  ⟨fun g vs hg => (by rw [h1] at hg; cases hg), fun g vs hg => (by rw [h2] at hg; cases hg), fun g vs hg => (by rw [h3] at hg; cases hg)⟩
structure Rel (Hd : Nat → Prop) (B : Nat) (ι : Loc) (s : St) (a : Act) (w : World) : Prop where
  len : ι.length = s.mem.length
  lt : ∀ r : Nat, some r ∈ ι → r < w.heap.size
  inj : ∀ i j r : Nat, ι[i]? = some (some r) → ι[j]? = some (some r) → i = j
  tmps : rels Hd ι w s.tmps a.tmps.toList
  mem : ∀ i blk, s.mem[i]? = some blk → q1w Hd ι w i blk
  marks : Marks Hd B ι a.defers w
  hid : ∀ r, Hd r → r < w.heap.size ∧ some r ∉ ι
  glob : GlobOk Hd ι w
theorem Rel.hidExt {B : Nat} {ι ι' : Loc} {s : St} {a : Act} {w w' : World} (h : Rel Hd B ι s a w) (e : Ext L ι w ι' w') : ∀ r, Hd r → r < w'.heap.size ∧ some r ∉ ι' :=
  fun r hr => ⟨Nat.lt_of_lt_of_le (h.hid r hr).1 e.size, (e.imm r (h.hid r hr).1 (h.hid r hr).2).1⟩
theorem Rel.nhid {B : Nat} {ι : Loc} {s : St} {a : Act} {w : World} (h : Rel Hd B ι s a w) : ∀ r : Nat, some r ∈ ι → ¬ Hd r :=
  fun r hr hh => (h.hid r hh).2 hr
theorem Marks.ext {B : Nat} {ι ι' : Loc} {ds : List Deferred} {w w' : World} (h : Marks Hd B ι ds w) (e : Ext L ι w ι' w') : Marks Hd B ι' ds w' := by
  obtain ⟨rs, h1, h2, h3⟩ := h
  refine ⟨rs, h1, h2, fun r hr => ?_⟩
  obtain ⟨k1, k2, k3⟩ := h3 r hr
  exact ⟨k1, k2.ext e, (e.imm r k2.1 k2.2.1).2.trans k3⟩
end Go.Proofs.YtdkcpcflfnakdaaGreat.Sym
