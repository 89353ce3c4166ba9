/- A text of the walk that proves a law of this seat; joined by a program. -/
import Derived.Test.YtdkcpcflfnakdaaGreatSymF
set_option linter.unusedSimpArgs false
set_option linter.unusedVariables false
namespace Go.Proofs.YtdkcpcflfnakdaaGreat.Sym
open Go Go.RowKit
variable {L : Nat} {Hd : Nat → Prop}
variable {B : Nat} {K : AV → St → Prop} {P : Program} {a : Act} {s : St} {ty : TypeId} {w : World} {ι : Loc}
theorem q8y {te : TI} (hz : te.zeroOk = true) {z : Value} (hzc : z.cells.toList = te.zero) (len : Nat) :
 (Array.range (len * te.size)).map (z.cells[· % z.cells.size]!) = (q04 (List.replicate len te.zval)).toArray := by
 have hc := q4u hz
 have hzl : te.zero.length = te.size ∧ 0 < te.size := by
  simp only [TI.zeroOk, z0d, decide_eq_true_eq] at hz; exact ⟨hz.1.1.1, hz.1.1.2⟩
 have hsz : z.cells.size = te.size := by rw [← hzl.1, ← hzc]; simp
 have hvs : te.zval.cells.size = te.size := by rw [← hzl.1, ← hc]; simp
 have hall : ∀ v ∈ List.replicate len te.zval, v.cells.size = te.size := by
  intro v hv; rw [z1h hv]; exact hvs
 have hl := q0k _ hall
 rw [z29] at hl
 apply z4o
 intro k
 simp only [Array.getElem?_map, z0k]
 by_cases hk : k < len * te.size
 · have hq : k / te.size < (List.replicate len te.zval).length := by
    rw [z29]; exact z59 (by rw [z4d]; exact hk)
   have hj : k % te.size < te.size := Nat.mod_lt _ hzl.2
   have hk2 : k / te.size * te.size + k % te.size = k := by rw [z4d]; exact z5v k te.size
   have e1 := qb0 _ hall hq hj
   rw [hk2] at e1
   rw [e1, z05 hq]
   simp only [List.getElem_replicate, z4i, Array.getElem?_range, hk, if_true, z19, hsz]
   have hlt1 : k % te.size < z.cells.size := by omega
   have hlt2 : k % te.size < te.zval.cells.size := by omega
   rw [getElem!_pos z.cells _ hlt1, z2y hlt2]
   congr 1
   have : z.cells.toList[k % te.size]? = te.zval.cells.toList[k % te.size]? := by rw [hzc, hc]
   simpa [hlt1, hlt2] using this
 · rw [z0p (by omega)]
   simp [Array.getElem?_range, hk]
theorem qhy {T : TypeId → Option TI} (hT : TyOk P T) (h : Rel Hd B ι s a w) {t : TypeId} {len : Nat} {parts : Array (Nat × Operand)} (hK : q7h T L t len parts.toList s K) : Out P Hd L B ι a w (Instr.buildSlice t len (parts.map fun (i, x) => (i, a.eval x))) isV K := by
 unfold q7h at hK
 split at hK <;> try exact hK.elim
 rename_i ti ht
 split at hK <;> try exact hK.elim
 rename_i e hd
 split at hK <;> try exact hK.elim
 rename_i te hte
 generalize hs1 : s.shutAll (q0z (parts.toList.map fun (_, x) => s.ev x)) = s1 at hK
 obtain ⟨hLow, hzo, hbig, hok, hK⟩ := hK
 obtain ⟨ι1, hR1, hE1⟩ := Rel.shutAll (L := L) (q0z (parts.toList.map fun (_, x) => s.ev x)) h (fun b hb => by simpa using z0l.1 hLow b hb)
 rw [hs1] at hR1
 obtain ⟨z, hz, hzc⟩ := q3x hT hte w
 have hzl : te.zero.length = te.size ∧ 0 < te.size := by
  have := hzo
  simp only [TI.zeroOk, z0d, decide_eq_true_eq] at this; exact ⟨this.1.1.1, this.1.1.2⟩
 have hvs : te.zval.cells.size = te.size := by rw [← hzl.1, ← q4u hzo]; simp
 have hall : ∀ v ∈ List.replicate len te.zval, v.cells.size = te.size := by
  intro v hv; rw [z1h hv]; exact hvs
 have hflat : ∀ u ∈ q04 (List.replicate len te.zval), u.oneCell' = true := by
  intro u hu
  obtain ⟨v, hv, hu'⟩ := z27.1 hu
  rw [z1h hv, q4u hzo] at hu'
  have := hzo
  simp only [TI.zeroOk, z0d, z0l] at this
  exact this.1.2 u hu'
 have hfst : (parts.toList.map fun (i, x) => (i, s1.ev x)).map Prod.fst = ((parts.map fun (i, x) => (i, a.eval x)).toList).map Prod.fst := by simp [z3m]
 have hsnd : rels Hd ι1 w ((parts.toList.map fun (i, x) => (i, s1.ev x)).map Prod.snd) (((parts.map fun (i, x) => (i, a.eval x)).toList).map Prod.snd) := by
  simp only [z52, z3f, z3m]
  generalize parts.toList = l
  induction l with
  | nil => rfl
  | cons p l ih => exact ⟨_, _, rfl, hR1.ev _, ih⟩
 have hrep : rels Hd ι1 w (List.replicate len te.zav) (List.replicate len te.zval) := by
  clear hK hok hall hflat hbig
  induction len with
  | zero => rfl
  | succ n ih => exact ⟨_, _, rfl, qmd, ih⟩
 have hrefs : q05 (List.replicate len te.zav) = [] := by
  rw [q0x]; intro x hx; rw [z1h hx]; exact qjk
 obtain ⟨vs', q1, q2, q3, q4, q5, q6⟩ := qfm (sz := te.size) (len := len) _ _ _ _ hrep (by simp) hall hflat hrefs hfst hsnd hok
 have hl' := q0k vs' q4
 have hrun : (Instr.buildSlice t len (parts.map fun (i, x) => (i, a.eval x))).run P w = .ok (.slice (some ⟨w.heap.size, 0, none⟩) len len) (w.alloc (.cells (q04 vs').toArray e)) := by
  simp only [Instr.buildSlice, z0s, run_underlying hT ht, z0b, hd, q10 hT hte]
  rw [if_neg (by omega)]
  by_cases h0 : len * te.size = 0
  · rw [if_pos h0]
    simp only [z0s, z15, z0b]
    have hn : len = 0 := by
     rcases Nat.mul_eq_zero.1 h0 with h | h
     · exact h
     · omega
    have e0 : (Array.range (len * te.size)).map ((#[] : Array Value)[· % (#[] : Array Value).size]!) = (q04 (List.replicate len te.zval)).toArray := by
     rw [hn]; simp [q04]
    rw [e0, q1]
    simp only [newRow, z0s, run_newObj, z0b, z15]
    rfl
  · rw [if_neg h0]
    simp only [z0s, hz, z15, z0b]
    rw [q8y hzo hzc, q1]
    simp only [newRow, z0s, run_newObj, z0b, z15]
    rfl
 have hk : ∀ (b : Nat) (o : Option Nat), ι1[b]? = some o → (ι1 ++ [some w.heap.size])[b]? = some o := fun b o hb => by
  rw [z0j (z08.1 hb).1]; exact hb
 obtain ⟨hR, hE⟩ := hR1.grow (o := .cells (q04 vs').toArray e) (blk := .row e te.size (q3w (List.replicate len te.zav) (parts.toList.map fun (i, x) => (i, s1.ev x)))) (fun ee =>
  ⟨q6, .inl ⟨w.heap.size, _, vs', by rw [← hR1.len]; simp, heap_alloc_new w _, q0l ee hR1.lt _ _ (fun b _ o => hk b o) q2, q4, by
   have := q1x (heap_alloc_new w (.cells (q04 vs').toArray e))
   simpa using this, q5⟩⟩)
 refine ⟨_, _, _, _, .own s1.mem.length te.size 0 len, _, hrun, rfl, .inl ⟨w.heap.size, len, len * te.size, e, by simp, z09 _, ?_, by rw [← hR1.len]; simp, ?_, by simp⟩, hR, hE1.trans hE, hK⟩
 · have : len * 1 ≤ len * te.size := z4l _ hzl.2
   simp only [maxLen]; omega
 · simp only [World.shape?, heap_alloc_new]
   simp [hl', q3]
def alen (T : TypeId → Option TI) (t : TypeId) (x : AV) (s : St) (K : AV → St → Prop) : Prop :=
 match T t with
 | some ti => match ti.desc, x with
  | .string, .v (.string b) => K (.v (.int .i64 b.size)) s
  | .slice _, .sl _ xs => K (.v (.int .i64 xs.length)) s
  | .slice _, .own _ _ _ len => K (.v (.int .i64 len)) s
  | .slice _, .v (.slice none n _) => K (.v (.int .i64 n)) s
  | .array n _, _ => K (.v (.int .i64 n)) s
  | _, _ => False
 | none => False
theorem qv3 {T : TypeId → Option TI} (hT : TyOk P T) (h : Rel Hd B ι s a w) {t : TypeId} {x : AV} {xv : Value} (hx : rel Hd ι w x xv) (hK : alen T t x s K) : Out P Hd L B ι a w (Builtin.len_ #[t] ty #[xv]) isV K := by
 unfold alen at hK
 split at hK <;> try exact hK.elim
 rename_i ti ht
 split at hK <;> try exact hK.elim
 · rename_i b hd
   cases hx
   exact Out.mk' h hK (by simp [Builtin.len_, run_underlying hT ht, hd, goInt]) q1n
 · rename_i e sz xs hd
   obtain ⟨_, ad, cap, vs, rfl, _⟩ := hx
   exact Out.mk' h hK (by simp [Builtin.len_, run_underlying hT ht, hd, goInt]) q1n
 · rename_i e b sz off len hd
   rcases hx with ⟨r, cap, n', t', rfl, _⟩ | ⟨a0, rfl, _, rfl, _⟩
   · exact Out.mk' h hK (by simp [Builtin.len_, run_underlying hT ht, hd, goInt]) q1n
   · exact Out.mk' h hK (by simp [Builtin.len_, run_underlying hT ht, hd, goInt]) q1n
 · rename_i e n c hd
   cases hx
   exact Out.mk' h hK (by simp [Builtin.len_, run_underlying hT ht, hd, goInt]) q1n
 · rename_i n e hd
   exact Out.mk' h hK (by simp [Builtin.len_, run_underlying hT ht, hd, goInt]) q1n
def q8a (mx : Bool) (xs : List AV) (s : St) (K : AV → St → Prop) : Prop :=
 match xs with
 | [.v (.int k x), .v (.int k' y)] => k = k' ∧ K (.v (.int k (bif mx then (if y > x then y else x) else (if y < x then y else x)))) s
 | _ => False
theorem qv4 (h : Rel Hd B ι s a w) {ts : Array TypeId} {xs : List AV} {vs : List Value} (hx : rels Hd ι w xs vs) (hK : q8a true xs s K) : Out P Hd L B ι a w (Builtin.max_ ts ty vs.toArray) isV K := by
 unfold q8a at hK
 split at hK <;> try exact hK.elim
 obtain ⟨y1, z1, rfl, h1, y2, z2, rfl, h2, rfl⟩ := hx
 cases h1; cases h2
 exact Out.mk' h hK.2 (by simp [Builtin.max_, Builtin.max2]) q1n
theorem qu2 (h : Rel Hd B ι s a w) {ts : Array TypeId} {xs : List AV} {vs : List Value} (hx : rels Hd ι w xs vs) (hK : q8a false xs s K) : Out P Hd L B ι a w (Builtin.min_ ts ty vs.toArray) isV K := by
 unfold q8a at hK
 split at hK <;> try exact hK.elim
 obtain ⟨y1, z1, rfl, h1, y2, z2, rfl, h2, rfl⟩ := hx
 cases h1; cases h2
 exact Out.mk' h hK.2 (by simp [Builtin.min_, Builtin.min2]) q1n
def q8x (x : Option AV) (d : Nat) (K : Nat → Prop) : Prop :=
 match x with
 | none => K d
 | some (.v (.int _ n)) => 0 ≤ n ∧ K n.toNat
 | _ => False
def qe4 (T : TypeId → Option TI) (t : TypeId) (x : AV) (lo hi mx : Option AV) (s : St) (K : AV → St → Prop) : Prop :=
 match T t, mx with
 | some ti, none => match ti.desc, x with
  | .string, .v (.string b) => q8x hi b.size fun h => q8x lo 0 fun l => (l ≤ h ∧ h ≤ b.size) ∧ K (.v (.string (b.extract l h))) s
  | .slice e, .sl sz xs => match T e with
   | some te => te.size = sz ∧ q8x hi xs.length fun h => q8x lo 0 fun l => (l ≤ h ∧ h ≤ xs.length) ∧ K (.sl sz ((xs.take h).drop l)) s
   | none => False
  | _, _ => False
 | _, _ => False
theorem qmg {x : AV} {xv : Value} (hx : rel Hd ι w x xv) {y d : Nat} {code : BoundsCode} {K : Nat → Prop} (hK : q8x (some x) d K) :
 ∃ n : Nat, K n ∧ (n ≤ y → (Instr.sliceBound xv y code).run P w = .ok n w) := by
 unfold q8x at hK
 split at hK <;> try exact hK.elim
 · rename_i e; cases e
 · rename_i k n e
   cases e
   cases hx
   refine ⟨n.toNat, hK.2, fun hy => ?_⟩
   have : 0 ≤ n ∧ n ≤ (y : Int) := by omega
   simp [Instr.sliceBound, asIntOf, this.1, this.2]
