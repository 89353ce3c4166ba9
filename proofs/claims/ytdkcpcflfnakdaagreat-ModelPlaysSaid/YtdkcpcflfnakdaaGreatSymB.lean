/- A text of the walk that proves a law of this seat; joined by a program. -/
import Derived.Test.YtdkcpcflfnakdaaGreatSymA
set_option linter.unusedSimpArgs false
set_option linter.unusedVariables false
namespace Go.Proofs.YtdkcpcflfnakdaaGreat.Sym
open Go Go.RowKit
variable {L : Nat} {Hd : Nat → Prop}
variable {B o r : Nat} {P : Program} {a : Act} {cs : Array Value} {s : St} {t : TypeId} {vs : List Value} {w : World} {ι : Loc}
structure TI where
 desc : TypeDesc
 size : Nat
 bytes : Nat
 zero : List Value
variable {T : TypeId → Option TI} {ti : TI}
def TyOk (P : Program) (T : TypeId → Option TI) : Prop :=
 ∀ t ti, T t = some ti → P.underlying t = some ti.desc ∧ ∃ i z, P.info? t = some i ∧ i.size = ti.size ∧ i.bytes = ti.bytes ∧ i.zero = some z ∧ z.cells.toList = ti.zero
def TI.isAgg (t : TI) : Bool := match t.desc with | .struct _ => true | .array _ _ => true | _ => false
def St.ev (s : St) : Operand → AV
 | .tmp t => s.tmps.getD t .any
 | .const v => .v v
 | .func f => .fn f []
 | .global g => match G g with
  | some vs => .rp (vs.map .v)
  | none => .any
def St.put (s : St) (d : Option Tmp) (x : AV) : St :=
 match d with
 | some d => { s with tmps := s.tmps.set d x }
 | none => s
theorem qaz : ∀ {xs : List AV} {ys : List Value} (i : Nat), rels Hd ι w xs ys → rel Hd ι w (xs.getD i .any) (ys.getD i undef)
 | [], _, i, h => by cases h; exact True.intro
 | x :: xs, _, i, h => by
  obtain ⟨y, zs, rfl, h1, h2⟩ := h
  cases i with
  | zero => exact h1
  | succ i => simpa using qaz i h2
theorem Rel.ev (h : Rel Hd B ι s a w) (x : Operand) : rel Hd ι w (s.ev x) (a.eval x) := by
 cases x with
 | tmp t =>
  have := qaz t h.tmps
  simpa [St.ev, Act.eval] using this
 | const v => exact (rfl : v = v)
 | func f => exact ⟨[], rfl, rfl⟩
 | global g =>
  show rel Hd ι w (match G g with | some vs => .rp (vs.map .v) | none => .any) (.pointer (some ⟨g, 0, none⟩))
  cases hg : G g with
  | none => exact True.intro
  | some vs =>
   obtain ⟨h1, h2⟩ := h.glob.plain g vs hg
   exact ⟨by rw [q0x]; intro x hx; obtain ⟨_, _, rfl⟩ := z1b.1 hx; rfl, g, 0, vs, rfl, h1, qar.2 rfl, h2⟩
theorem Rel.put (h : Rel Hd B ι s a w) (d : Option Tmp) {x : AV} {y : Value} (hx : rel Hd ι w x y) : Rel Hd B ι (s.put d x) (a.put d y) w := by
 cases d with
 | none => exact h
 | some d =>
  refine ⟨h.len, h.lt, h.inj, ?_, h.mem, h.marks, h.hid, h.glob⟩
  have := qbw d h.tmps hx
  simpa [St.put, Act.put] using this
def AV.known : AV → Bool
 | .any => false
 | _ => true
theorem AV.known_ne {x : AV} (h : x.known = true) : x ≠ .any := by rintro rfl; simp [AV.known] at h
def q42 (ti : TI) (cs : List AV) (K : AV → Prop) : Prop :=
 if ti.isAgg then ti.size ≤ cs.length ∧ K (.agg (cs.take ti.size))
 else match cs with | c :: _ => K c | [] => False
def q50 (T : TypeId → Option TI) (t : TypeId) (p : AV) (s : St) (K : AV → Prop) : Prop :=
 match T t with
 | none => False
 | some ti => match p with
  | .rp cs => q42 ti cs K
  | .ptr b c => match s.mem[b]? with
   | some (.box cs) => q42 ti (cs.drop c) K
   | _ => False
  | .ep b sz i c => match s.mem[b]? with
   | some (.row _ sz' xs) => sz = sz' ∧ ∃ h : i < xs.length, xs[i].known = true ∧ q42 ti (xs[i].cells.drop c) K
   | _ => False
  | _ => False
theorem qfl (hT : TyOk P T) (h : T t = some ti) (w : World) :
 ∃ i z, (typeInfo t).run P w = .ok i w ∧ i.size = ti.size ∧ i.bytes = ti.bytes ∧ i.zero = some z ∧ z.cells.toList = ti.zero := by
 obtain ⟨_, i, z, hi, h1, h2, h3, h4⟩ := hT t ti h
 exact ⟨i, z, by simp [typeInfo, hi], h1, h2, h3, h4⟩
theorem run_underlying (hT : TyOk P T) (h : T t = some ti) (w : World) :
 (underlying t).run P w = .ok ti.desc w := by
 simp [underlying, (hT t ti h).1]
theorem q10 (hT : TyOk P T) (h : T t = some ti) (w : World) :
 (sizeOf t).run P w = .ok ti.size w := by
 obtain ⟨i, z, hr, h1, _⟩ := qfl hT h w
 simp [sizeOf, hr, h1]
theorem q3x (hT : TyOk P T) (h : T t = some ti) (w : World) :
 ∃ z, (zeroValue t).run P w = .ok z w ∧ z.cells.toList = ti.zero := by
 obtain ⟨i, z, hr, _, _, h3, h4⟩ := qfl hT h w
 exact ⟨z, by simp [zeroValue, hr, h3], h4⟩
theorem qnb (hT : TyOk P T) (h : T t = some ti) (w : World) :
 (isAgg t).run P w = .ok ti.isAgg w := by
 simp only [isAgg, z0s, run_underlying hT h, z0b, TI.isAgg]
 cases ti.desc <;> rfl
theorem qb7 : ∀ (n : Nat) (vs : List Value) (i : Nat) (acc : Array Value), n ≤ vs.length → q22 w r (o + i) vs →
 (loadCellsFrom ⟨r, o, none⟩ i n acc).run P w = .ok (acc ++ (vs.take n).toArray) w
 | 0, vs, i, acc, _, _ => by simp [loadCellsFrom]
 | n + 1, vs, i, acc, hn, hc => by
  cases vs with
  | nil => simp at hn
  | cons v vs =>
   have h0 := hc 0 (by simp)
   have e : (Addr.add ⟨r, o, none⟩ i : Addr) = ⟨r, o + i, none⟩ := by
    unfold Addr.add; split
    · next h => subst h; rfl
    · rfl
   simp only [z1y, z4s] at h0
   simp only [loadCellsFrom, z0s, run_load, e, h0, z0b]
   rw [qb7 n vs (i + 1) (acc.push v) (by simpa using hn) (fun j hj => by
    have := hc (j + 1) (by simpa using hj)
    rw [show o + (i + 1) + j = o + i + (j + 1) by omega]; simpa using this)]
   simp
theorem qff (n : Nat) (vs : List Value) (hn : n ≤ vs.length) (hc : q22 w r o vs) :
 (loadCells ⟨r, o, none⟩ n).run P w = .ok (vs.take n).toArray w := by
 have := qb7 (P := P) (o := o) n vs 0 #[] hn (by simpa using hc)
 simpa [loadCells] using this
theorem q22.drop (h : q22 w r o vs) (c : Nat) : q22 w r (o + c) (vs.drop c) := by
 intro i hi
 have := h (c + i) (by simp at hi; omega)
 rw [z4j, this]; simp
theorem q1x {t : Nat} {vs : Array Value} {f : Nat × Nat} (h : w.heap[r]? = some (.cells vs t f)) : q22 w r 0 vs.toList := by
 intro i hi
 have hi' : i < vs.size := by simpa using hi
 simp only [World.cell?, h, z33, z0n, if_false, z16]
 simp [hi']
theorem q9e {sz : Nat} : ∀ (vs : List Value) (i : Nat), (∀ v ∈ vs, v.cells.size = sz) → q04 (vs.drop i) = (q04 vs).drop (i * sz)
 | [], i, _ => by simp [q04]
 | v :: vs, 0, _ => by simp
 | v :: vs, i + 1, h => by
  have h0 := h v (by simp)
  have ih := q9e vs i (fun v hv => h v (by simp [hv]))
  simp only [z5b]
  rw [ih]
  unfold q04
  have hl : v.cells.toList.length = sz := by simpa using h0
  have e1 : v.cells.toList.drop ((i + 1) * sz) = [] := List.drop_eq_nil_of_le (by rw [hl, z25]; omega)
  rw [z3l, List.drop_append, e1, z21, hl]
  congr 1
  rw [z25]
  omega
theorem q20.cells {off sz : Nat} (h : q20 w r off sz vs) {i : Nat} (hi : i < vs.length) : q22 w r (off + i * sz) vs[i].cells.toList := by
 have hd := h.2.1.drop (i * sz)
 rw [← q9e vs i h.1, z2i hi] at hd
 intro j hj
 have := hd j (by unfold q04; rw [z3l, z0c]; omega)
 rw [this]
 unfold q04
 simp only [z3l]
 rw [z32 hj]
theorem qa4 (hT : TyOk P T) (ht : T t = some ti) {cs : List AV} {K : AV → Prop} (hc : q22 w r o vs) (hr : rels Hd ι w cs vs) (h : q42 ti cs K) :
 ∃ x y, (Instr.loadAt t (.pointer (some ⟨r, o, none⟩))).run P w = .ok y w ∧ rel Hd ι w x y ∧ K x := by
 unfold q42 at h
 simp only [Instr.loadAt, Instr.sureAddr, loadVar, z0s, z15, z0b, qnb hT ht]
 by_cases ha : ti.isAgg = true
 · rw [if_pos ha] at h ⊢
   obtain ⟨h1, h2⟩ := h
   refine ⟨.agg (cs.take ti.size), .agg (vs.take ti.size).toArray, ?_, ⟨_, rfl, q2c _ hr⟩, h2⟩
   simp only [z0s, z15, q10 hT ht, z0b]
   rw [qff ti.size vs (by rw [← q0h hr]; exact h1) hc]
   rfl
 · rw [if_neg ha] at h ⊢
   cases cs with
   | nil => exact h.elim
   | cons c cs =>
    obtain ⟨y, zs, rfl, h1, h2⟩ := hr
    have h0 := hc 0 (by simp)
    simp only [z1y, z4s] at h0
    exact ⟨c, y, by simp [run_load, h0], h1, h⟩
theorem qi4 (hT : TyOk P T) {p : AV} {K : AV → Prop} (hR : Rel Hd B ι s a w) {pv : Value} (hp : rel Hd ι w p pv) (h : q50 T t p s K) : ∃ x y, (Instr.loadAt t pv).run P w = .ok y w ∧ rel Hd ι w x y ∧ K x := by
 unfold q50 at h
 cases ht : T t with
 | none => simp [ht] at h
 | some ti =>
  simp only [ht] at h
  cases p with
  | rp cs =>
   obtain ⟨_, r, off, vs, rfl, _, h1, h2⟩ := hp
   exact qa4 hT ht h2 h1 h
  | ptr b c =>
   obtain ⟨r, rfl, hb⟩ := hp
   simp only at h
   cases hm : s.mem[b]? with
   | none => simp [hm] at h
   | some blk =>
    cases blk with
    | box cs =>
     simp only [hm] at h
     obtain ⟨r', t', vs, h1, h2, h3⟩ := hR.mem b _ hm
     obtain rfl : r = r' := by rw [hb] at h1; simpa using h1
     have := (q1x h2).drop c
     rw [z16] at this
     exact qa4 hT ht this (q1u c h3) h
    | row t sz xs => simp [hm] at h
    | gone => simp [hm] at h
    | rowc _ _ _ _ => simp [hm] at h
    | tr _ _ => simp [hm] at h
  | ep b sz i c =>
   obtain ⟨r, rfl, hb⟩ := hp
   simp only at h
   cases hm : s.mem[b]? with
   | none => simp [hm] at h
   | some blk =>
    cases blk with
    | row t2 sz' xs =>
     simp only [hm] at h
     obtain ⟨rfl, hi, h⟩ := h
     rcases (hR.mem b _ hm).2 with ⟨r', cells, vs, h1, h2, h3, h4⟩ | ⟨h1, rfl⟩
     · obtain rfl : r = r' := by rw [hb] at h1; simpa using h1
       have hi' : i < vs.length := by rw [← q0h h3]; exact hi
       obtain ⟨y, hy1, hy2⟩ := q9r h3 (z05 hi)
       have hy : vs[i] = y := by
        rw [z05 hi'] at hy1; simpa using hy1
       have hc := (h4.cells hi').drop c
       rw [z16] at hc
       have := q6h hy2 (AV.known_ne h.1)
       exact qa4 hT ht hc (q1u c (hy ▸ this)) h.2
     · simp at hi
    | box cs => simp [hm] at h
    | gone => simp [hm] at h
    | rowc _ _ _ _ => simp [hm] at h
    | tr _ _ => simp [hm] at h
  | _ => simp at h
def q0m (w : World) (r : Nat) (o : Obj) : World := { w with heap := w.heap.setIfInBounds r o }
theorem q1i {o : Obj} (h : r < w.heap.size) : (q0m w r o).heap[r]? = some o := by simp [q0m, h]
theorem q1c {r' : Nat} {o : Obj} (h : r ≠ r') : (q0m w r o).heap[r']? = w.heap[r']? := by simp [q0m, h]
theorem qfk (w : World) (r : Nat) (o o' : Obj) : q0m (q0m w r o) r o' = q0m w r o' := by simp [q0m]
theorem q26 {o : Obj} (h : w.heap[r]? = some o) : r < w.heap.size := by
 by_cases c : r < w.heap.size
 · exact c
 · rw [Array.getElem?_eq_none (by omega)] at h; cases h
theorem q35 {cs' : Array Value} {f f' : Nat × Nat} (h : w.heap[r]? = some (.cells cs t f)) (hs : cs'.size = cs.size) (r' : Nat) :
 (q0m w r (.cells cs' t f')).shape? r' = w.shape? r' := by
 by_cases e : r = r'
 · subst e
   simp only [World.shape?, q1i (q26 h), h, hs]
 · simp only [World.shape?, q1c e]
theorem Rel.ext_tmps {ι' : Loc} {w' : World} (h : Rel Hd B ι s a w) (e : Ext L ι w ι' w') (hk : ∀ (b : Nat) (o : Option Nat), ι[b]? = some o → ι'[b]? = some o) : rels Hd ι' w' s.tmps a.tmps.toList :=
 q0l e h.lt _ _ (fun b _ o => hk b o) h.tmps
theorem q3o {ι' : Loc} {w' : World} (e : Ext L ι w ι' w') (hl : ∀ r : Nat, some r ∈ ι → r < w.heap.size) (hk : ∀ (b : Nat) (o : Option Nat), ι[b]? = some o → ι'[b]? = some o) {i : Nat} {blk : AB} (hs : ∀ r : Nat, ι[i]? = some (some r) → w'.heap[r]? = w.heap[r]?) (h : q2j Hd ι w i blk) : q2j Hd ι' w' i blk := by
 cases blk with
 | box cs =>
  obtain ⟨r, t, vs, h1, h2, h3⟩ := h
  exact ⟨r, t, vs, hk _ _ h1, (hs r h1).trans h2, q0l e hl _ _ (fun b _ o => hk b o) h3⟩
 | row t sz xs =>
  obtain ⟨hp, h⟩ := h
  refine ⟨hp, ?_⟩
  rcases h with ⟨r, cells, vs, h1, h2, h3, h4⟩ | ⟨h1, h2⟩
  · exact .inl ⟨r, cells, vs, hk _ _ h1, (hs r h1).trans h2, q0l e hl _ _ (fun b _ o => hk b o) h3, h4.1, fun j hj => (q15 (hs r h1) _).trans (h4.2.1 j hj), h4.2.2⟩
  · exact .inr ⟨hk _ _ h1, h2⟩
 | rowc t sz xs N =>
  obtain ⟨⟨hp, h⟩, hcap⟩ := h
  refine ⟨⟨hp, ?_⟩, hcap.move (fun o ho => hk _ _ ho) (fun r hr => e.shape r (hl r (z06 hr)))⟩
  rcases h with ⟨r, cells, vs, h1, h2, h3, h4⟩ | ⟨h1, h2⟩
  · exact .inl ⟨r, cells, vs, hk _ _ h1, (hs r h1).trans h2, q0l e hl _ _ (fun b _ o => hk b o) h3, h4.1, fun j hj => (q15 (hs r h1) _).trans (h4.2.1 j hj), h4.2.2⟩
  · exact .inr ⟨hk _ _ h1, h2⟩
 | gone => exact True.intro
 | tr _ _ => exact True.intro
theorem Rel.update (h : Rel Hd B ι s a w) {b : Nat} {cs' : Array Value} {blk' : AB} (hb : ι[b]? = some (some r)) (hr : w.heap[r]? = some (.cells cs t (0, 0))) (hs : cs'.size = cs.size) (hm : Ext L ι w ι (q0m w r (.cells cs' t (0, 0))) → q2j Hd ι (q0m w r (.cells cs' t (0, 0))) b blk') :
 Rel Hd B ι { s with mem := s.mem.set b blk' } a (q0m w r (.cells cs' t (0, 0))) ∧ Ext L ι w ι (q0m w r (.cells cs' t (0, 0))) := by
 have hmem : some r ∈ ι := z06 hb
 have e : Ext L ι w ι (q0m w r (.cells cs' t (0, 0))) := by
  refine ⟨rfl, rfl, rfl, by simp [q0m], fun r' _ hn => ⟨hn, q1c ?_⟩, fun r' _ => q35 hr hs r', fun _ _ _ h => h⟩
  rintro rfl; exact hn hmem
 refine ⟨⟨by simpa using h.len, fun r' hr' => z10 (h.lt r' hr') e.size, h.inj, h.ext_tmps e (fun _ _ x => x), ?_, h.marks.ext e, h.hidExt e, h.glob.ext e⟩, e⟩
 intro i blk hi
 by_cases c : b = i
 · subst c
   have hlt : b < s.mem.length := by
    rw [← h.len]
    exact (z08.1 hb).1
   simp only [z0m hlt, z1d] at hi
   subst hi
   exact hm e
 · have hi' : s.mem[i]? = some blk := by simpa [z0e c] using hi
   refine q3o e h.lt (fun _ _ x => x) (fun r' hr' => q1c ?_) (h.mem i blk hi')
   rintro rfl
   exact c (h.inj _ _ _ hb hr')
theorem Rel.grow (h : Rel Hd B ι s a w) {o : Obj} {blk : AB} (hm : Ext L ι w (ι ++ [some w.heap.size]) (w.alloc o) → q2j Hd (ι ++ [some w.heap.size]) (w.alloc o) s.mem.length blk) :
 Rel Hd B (ι ++ [some w.heap.size]) { s with mem := s.mem ++ [blk] } a (w.alloc o) ∧ Ext L ι w (ι ++ [some w.heap.size]) (w.alloc o) := by
 have hold : ∀ r, r < w.heap.size → (w.alloc o).heap[r]? = w.heap[r]? := fun r hr => z3a w o r hr
 have e : Ext L ι w (ι ++ [some w.heap.size]) (w.alloc o) := by
  refine ⟨rfl, rfl, rfl, by simp, fun r hr hn => ⟨?_, hold r hr⟩, (fun r hr => by simp only [World.shape?, hold r hr]), (fun b o _ hb => by rw [z0j (z08.1 hb).1]; exact hb)⟩
  simp only [z0q, z1j, z1d, not_or]
  exact ⟨hn, by omega⟩
 have hk : ∀ (b : Nat) (o : Option Nat), ι[b]? = some o → (ι ++ [some w.heap.size])[b]? = some o := fun b o hb => by
  rw [z0j (z08.1 hb).1]; exact hb
 refine ⟨⟨by simp [h.len], ?_, ?_, h.ext_tmps e hk, ?_, h.marks.ext e, h.hidExt e, h.glob.ext e⟩, e⟩
 · intro r hr
   simp only [z0q, z1j, z1d] at hr
   rcases hr with hr | rfl
   · exact z10 (h.lt r hr) e.size
   · simp
 · intro i j r hi hj
   have key : ∀ k, (ι ++ [some w.heap.size])[k]? = some (some r) → (ι[k]? = some (some r) ∧ r < w.heap.size) ∨ (k = ι.length ∧ r = w.heap.size) := by
    intro k hk
    by_cases c : k < ι.length
    · rw [z0j c] at hk
      exact .inl ⟨hk, h.lt r (z06 hk)⟩
    · rw [z18 (by omega)] at hk
      by_cases c2 : k - ι.length = 0
      · rw [c2] at hk
        simp at hk
        exact .inr ⟨by omega, hk.symm⟩
      · rw [z0p (by simp; omega)] at hk
        cases hk
   rcases key i hi with ⟨h1, h2⟩ | ⟨h1, h2⟩ <;> rcases key j hj with ⟨h3, h4⟩ | ⟨h3, h4⟩
   · exact h.inj i j r h1 h3
   · omega
   · omega
   · omega
 · intro i blk' hi
   by_cases c : i < s.mem.length
   · rw [z0j c] at hi
     exact q3o e h.lt hk (fun r hr => hold r (h.lt r (z06 hr))) (h.mem i blk' hi)
   · rw [z18 (by omega)] at hi
     have c2 : i - s.mem.length = 0 := by
      by_cases c2 : i - s.mem.length = 0
      · exact c2
      · rw [z0p (by simp; omega)] at hi; cases hi
     rw [c2] at hi
     simp at hi
     subst hi
     obtain rfl : i = s.mem.length := by omega
     exact hm e
def q5c (cs : List AV) (c : Nat) (xs : List AV) : List AV := cs.take c ++ xs ++ cs.drop (c + xs.length)
def q1h (cs : Array Value) (c : Nat) : List Value → Array Value
 | [] => cs
 | v :: vs => q1h (cs.setIfInBounds c v) (c + 1) vs
theorem q8v (vs : List Value) : ∀ (cs : Array Value) (c : Nat), (q1h cs c vs).size = cs.size := by
 induction vs with
 | nil => intro cs c; rfl
 | cons v vs ih => intro cs c; simp [q1h, ih]
theorem q68 (vs : List Value) : ∀ (cs : Array Value) (c i : Nat), c + vs.length ≤ cs.size → (q1h cs c vs)[i]? = if i < c then cs[i]? else if i < c + vs.length then vs[i - c]? else cs[i]? := by
 induction vs with
 | nil => intro cs c i h; simp [q1h]; intro h1; omega
 | cons v vs ih =>
  intro cs c i h
  simp only [z02] at h
  rw [q1h, ih _ _ _ (by simp; omega)]
  by_cases c1 : i < c
  · rw [if_pos (by omega), if_pos c1]
    simp [show c ≠ i by omega]
  · rw [if_neg c1]
    by_cases c2 : i = c
    · subst c2
      rw [if_pos (by omega), if_pos (by simp only [z02]; omega)]
      simp [show i < cs.size by omega]
    · rw [if_neg (by omega)]
      by_cases c3 : i < c + 1 + vs.length
      · rw [if_pos c3, if_pos (by simp; omega)]
        rw [show i - c = (i - (c + 1)) + 1 by omega]; simp
      · rw [if_neg c3, if_neg (by simp; omega)]
        simp [show c ≠ i by omega]
theorem qhz (h : w.heap[r]? = some (.cells cs t (0, 0))) (v : Value) :
 w.setCell ⟨r, o, none⟩ v = q0m w r (.cells (cs.setIfInBounds o v) t (0, 0)) := by
 have hlt := q26 h
 have e : w.heap[r] = .cells cs t (0, 0) := by rw [z2y hlt] at h; simpa using h
 unfold World.setCell q0m
 congr 1
 apply z4o
 intro i
 rw [Array.getElem?_modify, z5c]
 by_cases c : r = i
 · subst c; rw [if_pos rfl, if_pos rfl, if_pos hlt, h]; rfl
 · rw [if_neg c, if_neg c]
theorem qef : ∀ (vs : List Value) (i : Nat) (cs : Array Value) (w : World), w.heap[r]? = some (.cells cs t (0, 0)) → o + i + vs.length ≤ cs.size →
 (∀ v ∈ vs, v.oneCell' = true) → (storeCells ⟨r, o, none⟩ vs i).run P w = .ok () (q0m w r (.cells (q1h cs (o + i) vs) t (0, 0)))
 | [], i, cs, w, h, _, _ => by
  have : q0m w r (.cells cs t (0, 0)) = w := by
   have hlt := q26 h
   have e : w.heap[r] = .cells cs t (0, 0) := by rw [z2y hlt] at h; simpa using h
   unfold q0m
   rw [← e, Array.setIfInBounds_def, dif_pos hlt, Array.set_getElem_self]
  simp only [storeCells, z15, q1h, this]
 | v :: vs, i, cs, w, h, hl, hv => by
  simp only [z02] at hl
  have e : (Addr.add ⟨r, o, none⟩ i : Addr) = ⟨r, o + i, none⟩ := by
   unfold Addr.add; split
   · next h => subst h; rfl
   · rfl
  have hc : w.cell? ⟨r, o + i, none⟩ = some cs[o + i] := by
   have hlt : o + i < cs.size := by omega
   simp [World.cell?, h, hlt]
  have hf : w.frozen? ⟨r, o + i, none⟩ = false := by simp [World.frozen?, h]
  simp only [storeCells, z0s, e, run_store P w _ v .plain (hv v (by simp)), hc, hf, z0n, if_false, z0b]
  rw [qhz h, qef vs (i + 1) (cs.setIfInBounds (o + i) v) _ (q1i (q26 h)) (by simp; omega) (fun v hv' => hv v (by simp [hv'])), qfk]
  rfl
