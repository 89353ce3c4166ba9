/- A text of the walk that proves a law of this seat; joined by a program. -/
import Derived.Test.YtdkcpcflfnakdaaGreatSymG
set_option linter.unusedSimpArgs false
set_option linter.unusedVariables false
namespace Go.Proofs.YtdkcpcflfnakdaaGreat.Sym
open Go Go.RowKit
variable {L : Nat} {Hd : Nat → Prop}
variable {B b r sz : Nat} {P : Program} {T : TypeId → Option TI} {a : Act} {cs : Array Value} {rest vs : List Value} {s : St} {w w' : World} {ι ι' : Loc}
theorem q5o (ι : Loc) (w : World) : Ext L ι w ι w.drew := ⟨rfl, rfl, rfl, z09 _, fun _ _ h => ⟨h, rfl⟩, fun _ _ => rfl, fun _ _ _ h => h⟩
theorem Rel.drew (h : Rel Hd B ι s a w) : Rel Hd B ι s a w.drew :=
 ⟨h.len, h.lt, h.inj, h.ext_tmps (q5o (L := 0) ι w) (fun _ _ x => x), fun i blk hi => q3o (q5o (L := 0) ι w) h.lt (fun _ _ x => x) (fun _ _ => rfl) (h.mem i blk hi), h.marks.ext (q5o (L := 0) ι w), h.hidExt (q5o (L := 0) ι w), h.glob.ext (q5o (L := 0) ι w)⟩
mutual
def q0w (b : Nat) : AV → AV
 | .agg xs => .agg (q1d b xs)
 | .tup xs => .tup (q1d b xs)
 | .own b' sz off len => if b' = b then .any else .own b' sz off len
 | .ptr b' c => if b' = b then .any else .ptr b' c
 | .ep b' sz i c => if b' = b then .any else .ep b' sz i c
 | .fn f caps => .fn f (q1d b caps)
 | x => x
def q1d (b : Nat) : List AV → List AV
 | [] => []
 | x :: xs => q0w b x :: q1d b xs
end
mutual
theorem qxo (e : Ext L ι w ι' w') (hl : ∀ r : Nat, some r ∈ ι → r < w.heap.size) (hk : ∀ (b' : Nat) (o : Option Nat), b' ≠ b → ι[b']? = some o → ι'[b']? = some o) :
 ∀ (x : AV) (y : Value), rel Hd ι w x y → rel Hd ι' w' (q0w b x) y
 | .v _, _, h => h
 | .agg xs, _, h => by obtain ⟨vs, rfl, h⟩ := h; exact ⟨vs, rfl, q4t e hl hk xs vs h⟩
 | .tup xs, _, h => by obtain ⟨vs, rfl, h⟩ := h; exact ⟨vs, rfl, q4t e hl hk xs vs h⟩
 | .sl sz xs, y, h => q66 e hl (.sl sz xs) y (fun b hb => by rw [AV.refs, h.1] at hb; cases hb) h
 | .rp cs, y, h => q66 e hl (.rp cs) y (fun b hb => by rw [AV.refs, h.1] at hb; cases hb) h
 | .own b' sz off len, y, h => by
  simp only [q0w]
  by_cases c : b' = b
  · rw [if_pos c]; exact True.intro
  · rw [if_neg c]
    exact q66 e hl (.own b' sz off len) y (fun b'' hb o ho => by
     simp only [AV.refs, z1j] at hb; subst hb; exact hk _ _ c ho) h
 | .ptr b' c', y, h => by
  simp only [q0w]
  by_cases c : b' = b
  · rw [if_pos c]; exact True.intro
  · rw [if_neg c]
    exact q66 e hl (.ptr b' c') y (fun b'' hb o ho => by
     simp only [AV.refs, z1j] at hb; subst hb; exact hk _ _ c ho) h
 | .ep b' sz i c', y, h => by
  simp only [q0w]
  by_cases c : b' = b
  · rw [if_pos c]; exact True.intro
  · rw [if_neg c]
    exact q66 e hl (.ep b' sz i c') y (fun b'' hb o ho => by
     simp only [AV.refs, z1j] at hb; subst hb; exact hk _ _ c ho) h
 | .fn f caps, _, h => by obtain ⟨vs, rfl, h⟩ := h; exact ⟨vs, rfl, q4t e hl hk caps vs h⟩
 | .any, _, _ => True.intro
theorem q4t (e : Ext L ι w ι' w') (hl : ∀ r : Nat, some r ∈ ι → r < w.heap.size) (hk : ∀ (b' : Nat) (o : Option Nat), b' ≠ b → ι[b']? = some o → ι'[b']? = some o) :
 ∀ (xs : List AV) (ys : List Value), rels Hd ι w xs ys → rels Hd ι' w' (q1d b xs) ys
 | [], _, h => h
 | x :: xs, _, h => by
  obtain ⟨y, zs, rfl, h1, h2⟩ := h
  exact ⟨y, zs, rfl, qxo e hl hk x y h1, q4t e hl hk xs zs h2⟩
end
def AB.kill (b : Nat) : AB → AB
 | .box cs => .box (q1d b cs)
 | x => x
def St.rehome (s : St) (b : Nat) (blk : AB) : St := ⟨q1d b s.tmps, (s.mem.map (AB.kill b)).set b blk⟩
theorem Rel.rehome (h : Rel Hd B ι s a w) {blk : AB} (e : Ext L ι w ι' w') (hlen : ι'.length = ι.length) (hk : ∀ (b' : Nat) (o : Option Nat), b' ≠ b → ι[b']? = some o → ι'[b']? = some o) (hlt : ∀ r : Nat, some r ∈ ι' → r < w'.heap.size) (hinj : ∀ i j r : Nat, ι'[i]? = some (some r) → ι'[j]? = some (some r) → i = j) (hs : ∀ (i r : Nat), i ≠ b → ι[i]? = some (some r) → w'.heap[r]? = w.heap[r]?) (hb : q2j Hd ι' w' b blk) : Rel Hd B ι' (s.rehome b blk) a w' := by
 refine ⟨by simp [St.rehome, hlen, h.len], hlt, hinj, q4t e h.lt hk _ _ h.tmps, ?_, h.marks.ext e, h.hidExt e, h.glob.ext e⟩
 intro i blk' hi
 simp only [St.rehome] at hi
 by_cases c : b = i
 · subst c
   by_cases hl : b < s.mem.length
   · rw [z0m (by simpa using hl)] at hi
     cases hi; exact hb
   · rw [z0p (by simp; omega)] at hi; cases hi
 · rw [z0e c, z11] at hi
   cases hm : s.mem[i]? with
   | none => rw [hm] at hi; cases hi
   | some blk0 =>
    rw [hm] at hi
    cases hi
    have h0 := h.mem i blk0 hm
    have hib : i ≠ b := fun hh => c hh.symm
    cases blk0 with
    | box cs =>
     obtain ⟨r, t, vs, h1, h2, h3⟩ := h0
     exact ⟨r, t, vs, hk i _ hib h1, (hs i r hib h1).trans h2, q4t e h.lt hk _ _ h3⟩
    | row t sz xs =>
     obtain ⟨hp, h0⟩ := h0
     refine ⟨hp, ?_⟩
     rcases h0 with ⟨r, cells, vs, h1, h2, h3, h4⟩ | ⟨h1, h2⟩
     · exact .inl ⟨r, cells, vs, hk i _ hib h1, (hs i r hib h1).trans h2, q0l e h.lt _ _ (fun b hb => by rw [hp] at hb; cases hb) h3, h4.1, fun j hj => (q15 (hs i r hib h1) _).trans (h4.2.1 j hj), h4.2.2⟩
     · exact .inr ⟨hk i _ hib h1, h2⟩
    | rowc t sz xs N =>
     obtain ⟨⟨hp, h0⟩, hcap⟩ := h0
     refine ⟨⟨hp, ?_⟩, hcap.move (fun o ho => hk i o hib ho) (fun r hr => e.shape r (h.lt r (z06 hr)))⟩
     rcases h0 with ⟨r, cells, vs, h1, h2, h3, h4⟩ | ⟨h1, h2⟩
     · exact .inl ⟨r, cells, vs, hk i _ hib h1, (hs i r hib h1).trans h2, q0l e h.lt _ _ (fun b hb => by rw [hp] at hb; cases hb) h3, h4.1, fun j hj => (q15 (hs i r hib h1) _).trans (h4.2.1 j hj), h4.2.2⟩
     · exact .inr ⟨hk i _ hib h1, h2⟩
    | gone => exact True.intro
    | tr _ _ => exact True.intro
def qdv (s : St) (y : AV) (sz : Nat) (K : List AV → Prop) : Prop :=
 match y with
 | .v (.slice none 0 _) => K []
 | .sl sz' ys => sz' = sz ∧ K ys
 | .own b sz' off len => match s.mem[b]? with
  | some (.row _ sz'' xs) => sz' = sz ∧ sz'' = sz ∧ off + len ≤ xs.length ∧ K ((xs.drop off).take len)
  | _ => False
 | _ => False
theorem qgq (h : Rel Hd B ι s a w) {y : AV} {yv : Value} {K : List AV → Prop} (hy : rel Hd ι w y yv) (hK : qdv s y sz K) :
 ∃ (ys : List AV) (ad : Option Addr) (cap : Nat) (vs : List Value), K ys ∧ yv = .slice ad ys.length cap ∧ q05 ys = [] ∧ rels Hd ι w ys vs ∧ (ys = [] ∨ ∃ r off, ad = some ⟨r, off, none⟩ ∧ q20 w r off sz vs) := by
 unfold qdv at hK
 split at hK <;> try exact hK.elim
 · rename_i c
   cases hy
   exact ⟨[], none, c, [], hK, rfl, rfl, rfl, .inl rfl⟩
 · rename_i sz' ys
   obtain ⟨rfl, hK⟩ := hK
   obtain ⟨hp, ad, cap, vs, rfl, hc, hr, hm⟩ := hy
   exact ⟨ys, ad, cap, vs, hK, rfl, hp, hr, hm.imp id fun ⟨r, off, e, _, hrow⟩ => ⟨r, off, e, hrow⟩⟩
 · rename_i b sz' off len
   split at hK <;> try exact hK.elim
   rename_i t sz'' xs hm
   obtain ⟨rfl, rfl, hle, hK⟩ := hK
   obtain ⟨hpu, hmr⟩ := h.mem b _ hm
   have hpu' := q2e (q25 hpu off) len
   have hl : ((xs.drop off).take len).length = len := by simp; omega
   rcases hy with ⟨r, cap, n, t', rfl, hcap, hmx, hbr, hs, hn⟩ | ⟨a0, rfl, h1, h2, h3⟩
   · rcases hmr with ⟨r', cells, vs, k1, k2, k3, k4⟩ | ⟨k1, _⟩
     · obtain rfl : r = r' := by rw [hbr] at k1; simpa using k1
       have := q20.drop_take k4 off len
       rw [z16] at this
       exact ⟨_, _, cap, (vs.drop off).take len, hK, by rw [hl], hpu', q2c _ (q1u _ k3), .inr ⟨r, _, rfl, this⟩⟩
     · rw [hbr] at k1; cases k1
   · subst h1; subst h2
     exact ⟨_, a0, 0, [], hK, by rw [hl], hpu', by simp [rels], .inl (by simp)⟩
def qbs (T : TypeId → Option TI) (L : Nat) (ts : List TypeId) (x y : AV) (s : St) (K : AV → St → Prop) : Prop :=
 match ts with
 | [t, t'] => t' = t ∧ match T t with
  | some ti => match ti.desc with
   | .slice e => match T e with
    | some te => te.zeroOk = true ∧ qdv s y te.size fun ys =>
     match x with
     | .v (.slice none 0 0) => (ys.length ≤ maxLen ∧ ys.length * te.bytes ≤ 140737488355328) ∧ K (.own s.mem.length te.size 0 ys.length) { s with mem := s.mem ++ [.row e te.size ys] }
     | .own b sz 0 len => match s.mem[b]? with
      | some (.row e' sz' xs) => (L ≤ b ∧ e' = e ∧ sz = te.size ∧ sz' = te.size ∧ xs.length = len) ∧ (len + ys.length ≤ maxLen ∧ (len + ys.length) * te.bytes ≤ 140737488355328) ∧
       K (.own b sz 0 (len + ys.length)) (s.rehome b (.row e' sz' (xs ++ ys)))
      | _ => False
     | _ => False
    | none => False
   | _ => False
  | none => False
 | _ => False
theorem q30 {off : Nat} (h : q22 w r off vs) : ∀ (j : Nat) (u : Value), vs[j]? = some u → w.cell? ((⟨r, off, none⟩ : Addr).add j) = some u := by
 intro j u hu
 obtain ⟨hl, rfl⟩ := z08.1 hu
 rw [q6s]; exact h j hl
theorem q6f (hT : TyOk P T) {t e ty : TypeId} {ti te : TI} (ht : T t = some ti) (hd : ti.desc = .slice e) (hte : T e = some te) (w : World) (x : Option Addr) (n c : Nat) (hc : n ≤ c) (ad : Option Addr) (c2 : Nat) :
 (Builtin.append_ #[t, t] ty #[.slice x n c, .slice ad 0 c2]).run P w = .ok (.slice x n c) w := by
 cases x <;> cases ad <;> simp [Builtin.append_, run_underlying hT ht, hd, q10 hT hte, Builtin.lenOf, hc, Builtin.firstCells, loadCells, loadCellsFrom, storeCells]
theorem q3s (z : Array Value) (n : Nat) : (Builtin.zeroCells z n).size = n * z.size := by simp [Builtin.zeroCells]
theorem qm7 {t : Nat} {f : Nat × Nat} (h : w.heap[r]? = some (.cells cs t f)) (e : cs.toList = vs ++ rest) : q22 w r 0 vs := by
 intro i hi
 have := q1x h i (by rw [e, z0c]; omega)
 rw [this]
 congr 1
 simp only [e]
 rw [z32 hi]
theorem q5e {t : Nat} {f : Nat × Nat} (h : w.heap[r]? = some (.cells cs t f)) (e : cs.toList = q04 vs ++ rest) (h1 : ∀ v ∈ vs, v.cells.size = sz) (h2 : ∀ u ∈ q04 vs, u.oneCell' = true) : q20 w r 0 sz vs :=
 ⟨h1, qm7 h e, h2⟩
theorem q37 (xs ys : List Value) : q04 (xs ++ ys) = q04 xs ++ q04 ys := by simp [q04]
theorem Rel.growNone (h : Rel Hd B ι s a w) (t : TypeId) (sz : Nat) :
 Rel Hd B (ι ++ [none]) { s with mem := s.mem ++ [.row t sz []] } a w ∧ Ext L ι w (ι ++ [none]) w := by
 have hmem : ∀ r : Nat, some r ∈ ι ++ [none] → some r ∈ ι := fun r hr => by simpa using hr
 have e : Ext L ι w (ι ++ [none]) w := ⟨rfl, rfl, rfl, z09 _, fun r _ hn => ⟨fun hh => hn (hmem r hh), rfl⟩, fun _ _ => rfl, fun b o _ hb => by rw [z0j (z08.1 hb).1]; exact hb⟩
 have hk : ∀ (b : Nat) (o : Option Nat), ι[b]? = some o → (ι ++ [none])[b]? = some o := fun b o hb => by
  rw [z0j (z08.1 hb).1]; exact hb
 refine ⟨⟨by simp [h.len], fun r hr => h.lt r (hmem r hr), ?_, h.ext_tmps e hk, ?_, h.marks.ext e, h.hidExt e, h.glob.ext e⟩, e⟩
 · have key : ∀ (k r : Nat), (ι ++ [none])[k]? = some (some r) → ι[k]? = some (some r) := by
    intro k r hk
    by_cases c : k < ι.length
    · rwa [z0j c] at hk
    · rw [z18 (by omega)] at hk
      by_cases c2 : k - ι.length = 0
      · rw [c2] at hk; cases hk
      · rw [z0p (by simp; omega)] at hk; cases hk
   exact fun i j r hi hj => h.inj i j r (key i r hi) (key j r hj)
 · intro i blk hi
   by_cases c : i < s.mem.length
   · rw [z0j c] at hi
     exact q3o e h.lt hk (fun _ _ => rfl) (h.mem i blk hi)
   · rw [z18 (by omega)] at hi
     by_cases c2 : i - s.mem.length = 0
     · rw [c2] at hi
       simp at hi
       subst hi
       obtain rfl : i = s.mem.length := by omega
       exact ⟨rfl, .inr ⟨by rw [← h.len]; simp, rfl⟩⟩
     · rw [z0p (by simp; omega)] at hi; cases hi
theorem Rel.moved (h : Rel Hd B ι s a w) {e : TypeId} {zs : List AV} {arr : Array Value} (hb : b < ι.length) (hz : rels Hd ι w zs vs) (hp : q05 zs = []) (h1 : ∀ v ∈ vs, v.cells.size = sz) (h2 : ∀ u ∈ q04 vs, u.oneCell' = true) (harr : arr.toList = q04 vs ++ rest) (hL : L ≤ b) :
 Rel Hd B (ι.set b (some w.heap.size)) (s.rehome b (.row e sz zs)) a (w.drew.alloc (.cells arr e)) ∧ Ext L ι w (ι.set b (some w.heap.size)) (w.drew.alloc (.cells arr e)) := by
 have hold : ∀ r, r < w.heap.size → (w.drew.alloc (.cells arr e)).heap[r]? = w.heap[r]? := fun r hr => z3a w.drew _ r hr
 have hnew : (w.drew.alloc (.cells arr e)).heap[w.heap.size]? = some (.cells arr e (0, 0)) := heap_alloc_new w.drew _
 have hmem : ∀ r : Nat, some r ∈ ι.set b (some w.heap.size) → some r ∈ ι ∨ r = w.heap.size := fun r hr => by
  rcases z1z hr with hr | hr
  · exact .inl hr
  · exact .inr (by simpa using hr)
 have ee : Ext L ι w (ι.set b (some w.heap.size)) (w.drew.alloc (.cells arr e)) := by
  refine ⟨rfl, rfl, rfl, by simp, fun r hr hn => ⟨fun hh => ?_, hold r hr⟩, (fun r hr => by simp only [World.shape?, hold r hr]), (fun b' o hb' ho => by rw [z0e (by omega)]; exact ho)⟩
  rcases hmem r hh with hh | hh
  · exact hn hh
  · omega
 have hk : ∀ (b' : Nat) (o : Option Nat), b' ≠ b → ι[b']? = some o → (ι.set b (some w.heap.size))[b']? = some o := fun b' o hne ho => by
  rw [z0e (z37 hne)]; exact ho
 refine ⟨h.rehome ee (by simp) hk ?_ ?_ (fun i r _ hi => hold r (h.lt r (z06 hi))) ?_, ee⟩
 · intro r hr
   rcases hmem r hr with hr | rfl
   · exact z10 (h.lt r hr) ee.size
   · simp
 · intro i j r hi hj
   have key : ∀ k : Nat, (ι.set b (some w.heap.size))[k]? = some (some r) → (k = b ∧ r = w.heap.size) ∨ (k ≠ b ∧ ι[k]? = some (some r) ∧ r < w.heap.size) := by
    intro k hk
    by_cases c : b = k
    · subst c
      rw [z0m hb] at hk
      simp at hk
      exact .inl ⟨rfl, hk.symm⟩
    · rw [z0e c] at hk
      exact .inr ⟨fun hh => c hh.symm, hk, h.lt r (z06 hk)⟩
   rcases key i hi with ⟨h1, h2⟩ | ⟨h1, h2, h3⟩ <;> rcases key j hj with ⟨h4, h5⟩ | ⟨h4, h5, h6⟩
   · omega
   · omega
   · omega
   · exact h.inj i j r h2 h5
 · exact ⟨hp, .inl ⟨w.heap.size, arr, vs, by rw [z0m hb], hnew, q0l ee h.lt _ _ (fun b hb => by rw [hp] at hb; cases hb) hz, q5e hnew harr h1 h2⟩⟩
theorem q5l {cs' : Array Value} {t : TypeId} (h : w.heap[r]? = some (.cells cs t (0, 0))) : w.setRow r cs' = q0m w r (.cells cs' t (0, 0)) := by
 have hlt := q26 h
 unfold World.setRow q0m
 congr 1
 apply z4o
 intro i
 rw [Array.getElem?_modify, z5c]
 by_cases c : r = i
 · subst c; rw [if_pos rfl, if_pos rfl, if_pos hlt, h]; rfl
 · rw [if_neg c, if_neg c]
theorem qo4 (hT : TyOk P T) {K : AV → St → Prop} (h : Rel Hd B ι s a w) {ts : Array TypeId} {ty : TypeId} {x y : AV} {xv yv : Value} (hx : rel Hd ι w x xv) (hy : rel Hd ι w y yv) (hK : qbs T L ts.toList x y s K) : Out P Hd L B ι a w (Builtin.append_ ts ty #[xv, yv]) isV K := by
 unfold qbs at hK
 split at hK <;> try exact hK.elim
 rename_i t0 t hts
 obtain ⟨rfl, hK⟩ := hK
 obtain rfl : ts = #[t, t] := by rw [← z1s (xs := ts), hts]
 split at hK <;> try exact hK.elim
 rename_i ti ht
 split at hK <;> try exact hK.elim
 rename_i e hd
 split at hK <;> try exact hK.elim
 rename_i te hte
 obtain ⟨hzo, hK⟩ := hK
 obtain ⟨ys, ad, ycap, vs, hK, rfl, hpu, hr, hrow⟩ := qgq h hy hK
 obtain ⟨_, i, z, hi, hisz, hiby, hiz, hzc⟩ := hT e te hte
 have hu : P.underlying t = some (.slice e) := by rw [(hT t ti ht).1, hd]
 have hzl : te.zero.length = te.size ∧ 0 < te.size := by
  have := hzo
  simp only [TI.zeroOk, z0d, decide_eq_true_eq] at this; exact ⟨this.1.1.1, this.1.1.2⟩
 have hzs : z.cells.size = te.size := by rw [← hzl.1, ← hzc]; simp
 have hlv := q0h hr
 split at hK
 · -- onto nil
   cases hx
   obtain ⟨⟨hm1, hm2⟩, hK⟩ := hK
   rcases hrow with rfl | ⟨r, off, rfl, hrow⟩
   · obtain ⟨hR, hE⟩ := h.growNone e te.size
     exact ⟨_, _, w, _, .own s.mem.length te.size 0 ([] : List AV).length, _, q6f hT ht hd hte w none 0 0 (z09 _) ad ycap, rfl, .inr ⟨_, rfl, rfl, rfl, by rw [← h.len]; simp⟩, hR, hE, hK⟩
   · by_cases h0 : ys.length = 0
     · obtain rfl : ys = [] := z1a h0
       obtain ⟨hR, hE⟩ := h.growNone e te.size
       exact ⟨_, _, w, _, .own s.mem.length te.size 0 ([] : List AV).length, _, q6f hT ht hd hte w none 0 0 (z09 _) _ ycap, rfl, .inr ⟨_, rfl, rfl, rfl, by rw [← h.len]; simp⟩, hR, hE, hK⟩
     · have hfl := q0k vs hrow.1
       have hrun := run_append_nil (P := P) w t ty e i z hu hi hiz ⟨r, off, none⟩ ys.length ycap (q04 vs) (by rw [hfl, hisz, hlv]) (q30 hrow.2.1) (by omega) (by simp only [maxLen] at hm1; omega) (by rw [hiby]; omega)
       have hge := grownCap_ge w ys.length 0 e
       have hle := grownCap_le_maxLen w ys.length 0 e hm1
       obtain ⟨hR, hE⟩ := (h.drew).grow (o := .cells ((q04 vs).toArray ++ Builtin.zeroCells z.cells (grownCap w ys.length 0 e - ys.length)) e) (blk := .row e te.size ys) (fun ee =>
        ⟨hpu, .inl ⟨w.heap.size, _, vs, by rw [← h.len]; simp, heap_alloc_new w.drew _, q0l ((q5o ι w).trans ee) h.lt _ _ (fun b hb => by rw [hpu] at hb; cases hb) hr,
         q5e (heap_alloc_new w.drew _) (rest := (Builtin.zeroCells z.cells (grownCap w ys.length 0 e - ys.length)).toList) (by simp) hrow.1 hrow.2.2⟩⟩)
       refine ⟨_, _, _, _, .own s.mem.length te.size 0 ys.length, _, hrun, rfl, .inl ⟨w.heap.size, _, grownCap w ys.length 0 e * te.size, e, by simp, hge, by omega, by rw [← h.len]; simp, ?_, by simp⟩, hR, (q5o ι w).trans hE, hK⟩
       have : (w.drew.alloc (.cells ((q04 vs).toArray ++ Builtin.zeroCells z.cells (grownCap w ys.length 0 e - ys.length)) e)).heap[w.heap.size]? = _ := heap_alloc_new w.drew _
       simp only [World.shape?, this, z49, z2d, q3s, hzs, hfl, ← hlv, ← z25]
       congr 2
       congr 1
       omega
 · -- onto a row of our own
   rename_i b sz len hK0
   clear hK0
   split at hK <;> try exact hK.elim
   rename_i e' sz' xs hm
   obtain ⟨⟨hLb, rfl, rfl, rfl, rfl⟩, ⟨hm1, hm2⟩, hK⟩ := hK
   obtain ⟨hpx, hmr⟩ := h.mem b _ hm
   have hbl : b < ι.length := by rw [h.len]; exact (z08.1 hm).1
   have hself : ∀ (b' : Nat) (o : Option Nat), b' ≠ b → ι[b']? = some o → ι[b']? = some o := fun _ _ _ x => x
   rcases hx with ⟨r, cap, n, t2, rfl, hcap, hmx, hbr, hs, hn⟩ | ⟨a0, rfl, _, hx0, hb0⟩
   · rcases hmr with ⟨r', cells, us, k1, k2, k3, k4⟩ | ⟨k1, _⟩
     · obtain rfl : r = r' := by rw [hbr] at k1; simpa using k1
       have hxl := q0h k3
       have hsz : cells.size = cap * te.size := by
        simp only [World.shape?, k2, z1d, z34] at hs
        rw [hs.2, ← hn]; simp
       have zero : ys.length = 0 → Out P Hd L B ι a w (Builtin.append_ #[t, t] ty #[.slice (some ⟨r, 0 * te.size, none⟩) xs.length cap, .slice ad ys.length ycap]) isV K := by
        intro h0
        obtain rfl : ys = [] := z1a h0
        have hR := h.rehome (L := L) (blk := .row e' te.size (xs ++ [])) (Ext.refl ι w) rfl hself h.lt h.inj (fun _ _ _ _ => rfl) (by rw [z0i]; exact ⟨hpx, .inl ⟨r, cells, us, hbr, k2, k3, k4⟩⟩)
        exact ⟨_, _, w, ι, .own b te.size 0 (xs.length + ([] : List AV).length), _, q6f hT ht hd hte w _ _ _ hcap ad ycap, rfl, .inl ⟨r, cap, n, t2, rfl, by simpa using hcap, hmx, hbr, hs, hn⟩, hR, Ext.refl _ _, hK⟩
       rcases hrow with rfl | ⟨r2, off2, rfl, hrow⟩
       · exact zero rfl
       by_cases h0 : ys.length = 0
       · exact zero h0
       have hfl := q0k vs hrow.1
       have hfx := q0k us k4.1
       have hzs' : q04 (us ++ vs) = q04 us ++ q04 vs := q37 _ _
       have hall : ∀ v ∈ us ++ vs, v.cells.size = te.size := by
        intro v hv
        rcases z0q.1 hv with hv | hv
        · exact k4.1 v hv
        · exact hrow.1 v hv
       have hone : ∀ u ∈ q04 (us ++ vs), u.oneCell' = true := by
        intro u hu
        rw [hzs'] at hu
        rcases z0q.1 hu with hu | hu
        · exact k4.2.2 u hu
        · exact hrow.2.2 u hu
       have hpz : q05 (xs ++ ys) = [] := q2h hpx hpu
       have hcl : cells.toList.take (xs.length * te.size) = q04 us := by
        have hlen : (q04 us).length ≤ cells.toList.length := by
         have := q6t k2 k4.2.1; simpa using this
        apply z4g
        · simp only [z1l, z1g]
          have := q6t k2 k4.2.1
          rw [hxl, ← hfx]; omega
        · intro j h1 h2
          have hj := k4.2.1 j h2
          simp only [World.cell?, k2, z33, z0n, if_false, z16] at hj
          obtain ⟨hjl, hj⟩ := z1t.1 hj
          rw [z48, Array.getElem_toList, hj]
       by_cases hroom : xs.length + ys.length ≤ cap
       · have hfit : xs.length * i.size + (q04 vs).length ≤ cells.size := by
          rw [hisz, hfl, hsz, ← hlv, ← z25]; exact z1w _ hroom
         have hrun := run_append_room (P := P) w t ty e' i hu hi r xs.length cap cells k2 ⟨r2, off2, none⟩ ys.length ycap (q04 vs) (by rw [hfl, hisz, hlv]) (q30 hrow.2.1) hrow.2.2 hroom hfit
         rw [q5l k2] at hrun
         generalize hnew : (cells.toList.take (xs.length * i.size) ++ q04 vs ++ cells.toList.drop (xs.length * i.size + (q04 vs).length)).toArray = cells' at hrun
         have hcs' : cells'.size = cells.size := by
          rw [← hnew]
          simp only [z2d, z0c, z1l, z31, z1g]
          omega
         have hmemr : some r ∈ ι := z06 hbr
         have ee : Ext L ι w ι (q0m w r (.cells cells' e' (0, 0))) := by
          refine ⟨rfl, rfl, rfl, by simp [q0m], fun r' _ hne => ⟨hne, q1c ?_⟩, fun r' _ => q35 k2 hcs' r', fun _ _ _ h => h⟩
          rintro rfl; exact hne hmemr
         have hR := h.rehome (blk := .row e' te.size (xs ++ ys)) ee rfl hself (fun r' hr' => z10 (h.lt r' hr') ee.size) h.inj (fun j r' hj hr' => q1c (by
          rintro rfl; exact hj (h.inj _ _ _ hr' hbr)))
          ⟨hpz, .inl ⟨r, cells', us ++ vs, hbr, q1i (q26 k2), q13 (q0l ee h.lt _ _ (fun _ _ _ x => x) k3) (q0l ee h.lt _ _ (fun _ _ _ x => x) hr),
           q5e (q1i (q26 k2)) (rest := cells.toList.drop (xs.length * i.size + (q04 vs).length)) (by rw [← hnew, hzs', ← hcl, hisz]) hall hone⟩⟩
         refine ⟨.slice (some ⟨r, 0, none⟩) (xs.length + ys.length) cap, _, _, ι, .own b te.size 0 (xs.length + ys.length), _, ?_, rfl, .inl ⟨r, cap, n, t2, by simp, hroom, hmx, hbr, ?_, hn⟩, hR, ee, hK⟩
         · simpa using hrun
         · rw [q35 k2 hcs']; exact hs
       · have hge := grownCap_ge w (xs.length + ys.length) cap e'
         have hle := grownCap_le_maxLen w (xs.length + ys.length) cap e' hm1
         have hrun := run_append_grow (P := P) w t ty e' i z hu hi hiz ⟨r, 0, none⟩ xs.length cap (q04 us) (by rw [hfx, hisz, hxl]) (q30 k4.2.1) ⟨r2, off2, none⟩ ys.length ycap (q04 vs) (by rw [hfl, hisz, hlv]) (q30 hrow.2.1)
          (by omega) (by simp only [maxLen] at hm1; omega) (by rw [hiby]; exact growslice_fits (by omega) hm2)
         obtain ⟨hR, hE⟩ := h.moved (e := e') (sz := te.size) (arr := (q04 us).toArray ++ (q04 vs).toArray ++ Builtin.zeroCells z.cells (grownCap w (xs.length + ys.length) cap e' - (xs.length + ys.length)))
          (rest := (Builtin.zeroCells z.cells (grownCap w (xs.length + ys.length) cap e' - (xs.length + ys.length))).toList) hbl (q13 k3 hr) hpz hall hone (by simp [hzs']) hLb
         refine ⟨.slice (some ⟨w.heap.size, 0, none⟩) (xs.length + ys.length) (grownCap w (xs.length + ys.length) cap e'), _, _, _, .own b te.size 0 (xs.length + ys.length), _, ?_, rfl, .inl ⟨w.heap.size, _, grownCap w (xs.length + ys.length) cap e' * te.size, e', by simp, hge, by omega, by rw [z0m hbl], ?_, by simp⟩, hR, hE, hK⟩
         · simpa using hrun
         · have : (w.drew.alloc (.cells ((q04 us).toArray ++ (q04 vs).toArray ++ Builtin.zeroCells z.cells (grownCap w (xs.length + ys.length) cap e' - (xs.length + ys.length))) e')).heap[w.heap.size]? = _ := heap_alloc_new w.drew _
           simp only [World.shape?, this, z49, z2d, q3s, hzs, hfl, hfx, ← hlv, ← hxl, ← z25]
           congr 2
           congr 1
           omega
     · rw [hbr] at k1; cases k1
   · rcases hmr with ⟨r', cells, us, k1, k2, k3, k4⟩ | ⟨k1, rfl⟩
     · rw [hb0] at k1; cases k1
     have zero : ys.length = 0 → Out P Hd L B ι a w (Builtin.append_ #[t, t] ty #[.slice a0 0 0, .slice ad ys.length ycap]) isV K := by
      intro h0
      obtain rfl : ys = [] := z1a h0
      have hR := h.rehome (L := L) (blk := .row e' te.size ([] ++ [])) (Ext.refl ι w) rfl hself h.lt h.inj (fun _ _ _ _ => rfl) ⟨rfl, .inr ⟨hb0, rfl⟩⟩
      exact ⟨_, _, w, ι, .own b te.size 0 (([] : List AV).length + ([] : List AV).length), _, q6f hT ht hd hte w a0 0 0 (z09 _) ad ycap, rfl, .inr ⟨_, rfl, rfl, rfl, hb0⟩, hR, Ext.refl _ _, hK⟩
     rcases hrow with rfl | ⟨r2, off2, rfl, hrow⟩
     · exact zero rfl
     by_cases h0 : ys.length = 0
     · exact zero h0
     have hfl := q0k vs hrow.1
     simp only [z0a, z16] at hm1 hm2
     have hrun : (Builtin.append_ #[t, t] ty #[.slice a0 0 0, .slice (some ⟨r2, off2, none⟩) ys.length ycap]).run P w =
      .ok (.slice (some ⟨w.heap.size, 0, none⟩) ys.length (grownCap w ys.length 0 e')) (w.drew.alloc (.cells ((q04 vs).toArray ++ Builtin.zeroCells z.cells (grownCap w ys.length 0 e' - ys.length)) e')) := by
      cases a0 with
      | none => exact run_append_nil (P := P) w t ty e' i z hu hi hiz ⟨r2, off2, none⟩ ys.length ycap (q04 vs) (by rw [hfl, hisz, hlv]) (q30 hrow.2.1) (by omega) (by simp only [maxLen] at hm1; omega) (by rw [hiby]; omega)
      | some b0 =>
       have := run_append_grow (P := P) w t ty e' i z hu hi hiz b0 0 0 [] (by simp) (by simp) ⟨r2, off2, none⟩ ys.length ycap (q04 vs) (by rw [hfl, hisz, hlv]) (q30 hrow.2.1)
        (by omega) (by simp only [maxLen] at hm1; omega) (by rw [hiby]; exact growslice_fits (by omega) (by rw [z16]; exact hm2))
       simpa using this
     have hge := grownCap_ge w ys.length 0 e'
     have hle := grownCap_le_maxLen w ys.length 0 e' hm1
     obtain ⟨hR, hE⟩ := h.moved (e := e') (sz := te.size) (zs := [] ++ ys) (arr := (q04 vs).toArray ++ Builtin.zeroCells z.cells (grownCap w ys.length 0 e' - ys.length))
      (rest := (Builtin.zeroCells z.cells (grownCap w ys.length 0 e' - ys.length)).toList) hbl hr hpu hrow.1 hrow.2.2 (by simp) hLb
     refine ⟨.slice (some ⟨w.heap.size, 0, none⟩) (0 + ys.length) (grownCap w ys.length 0 e'), _, _, _, .own b te.size 0 (0 + ys.length), _, ?_, rfl, .inl ⟨w.heap.size, grownCap w ys.length 0 e', grownCap w ys.length 0 e' * te.size, e', by simp, ?_, by omega, by rw [z0m hbl], ?_, by simp⟩, hR, hE, hK⟩
     · simpa using hrun
     · omega
     · have : (w.drew.alloc (.cells ((q04 vs).toArray ++ Builtin.zeroCells z.cells (grownCap w ys.length 0 e' - ys.length)) e')).heap[w.heap.size]? = _ := heap_alloc_new w.drew _
       simp only [World.shape?, this, z49, z2d, q3s, hzs, hfl, ← hlv, ← z25]
       congr 2
       congr 1
       omega
 · exact hK.elim
def isU8 : AV → Bool
 | .v (.int .u8 _) => true
 | _ => false
def u8Of : AV → UInt8
 | .v (.int _ n) => UInt8.ofNat n.toNat
 | _ => 0
def qjw (ys : List AV) : ByteArray := ⟨(ys.map u8Of).toArray⟩
def qdu (T : TypeId → Option TI) (src dst : TypeId) (x : AV) (s : St) (K : AV → St → Prop) : Prop :=
 match T src, T dst with
 | some si, some di => match si.desc with
  | .slice e => match T e with
   | some te => te.desc = .int .u8 ∧ te.size = 1 ∧ di.desc = .string ∧ qdv s x 1 fun ys => ys.all isU8 = true ∧ K (.v (.string (qjw ys))) s
   | none => False
  | _ => False
 | _, _ => False
theorem u8s_of : ∀ (ys : List AV) (vs : List Value), ys.all isU8 = true → rels Hd ι w ys vs → ∃ ns : List Int, vs = ns.map (.int .u8) ∧ ys.map u8Of = ns.map (fun n => UInt8.ofNat n.toNat)
 | [], vs, _, h => by cases h; exact ⟨[], rfl, rfl⟩
 | y :: ys, _, ha, h => by
  obtain ⟨v, vs, rfl, h1, h2⟩ := h
  simp only [z35, z0d] at ha
  obtain ⟨ns, rfl, h4⟩ := u8s_of ys vs ha.2 h2
  have hy := ha.1
  unfold isU8 at hy
  split at hy
  · rename_i n
    cases h1
    exact ⟨n :: ns, rfl, by simp [u8Of, h4]⟩
  · cases hy
theorem qnd {f : Value → ByteArray → Sem (ForInStep ByteArray)} (hf : ∀ n acc, f (.int .u8 n) acc = pure (.yield (acc.push (UInt8.ofNat n.toNat)))) : ∀ (ns : List Int) (acc : ByteArray),
 (forIn (m := Sem) (ns.map (Value.int .u8)) acc f).run P w = .ok ⟨acc.data ++ (ns.map (fun n => UInt8.ofNat n.toNat)).toArray⟩ w
 | [], acc => by simp
 | n :: ns, acc => by
  simp only [z0r, List.forIn_cons, z0s, hf, z15, z0b]
  rw [qnd hf ns]
  simp [ByteArray.push]
theorem qpx (hT : TyOk P T) {K : AV → St → Prop} (h : Rel Hd B ι s a w) {src dst : TypeId} {x : AV} {xv : Value} (hx : rel Hd ι w x xv) (hK : qdu T src dst x s K) : Out P Hd L B ι a w (convert src dst xv) isV K := by
 unfold qdu at hK
 split at hK <;> try exact hK.elim
 rename_i si di hs hd
 split at hK <;> try exact hK.elim
 rename_i e hse
 split at hK <;> try exact hK.elim
 rename_i te hte
 obtain ⟨h1, h2, h3, hK⟩ := hK
 obtain ⟨ys, ad, ycap, vs, ⟨hall, hK⟩, rfl, hpu, hr, hrow⟩ := qgq h hx hK
 refine Out.mk' h hK ?_ q1n
 have hlen := q0h hr
 simp only [convert, z0s, run_underlying hT hs, run_underlying hT hd, z0b, hse, h3, run_underlying hT hte, h1]
 obtain ⟨ns, rfl, hns⟩ := u8s_of ys vs hall hr
 rcases hrow with rfl | ⟨r, off, rfl, hrow⟩
 · cases ad with
   | none => simp [Conv.bytesToString, qjw]; rfl
   | some ad =>
    have : loadCells ad 0 = (pure #[] : Sem (Array Value)) := rfl
    simp [Conv.bytesToString, qjw, this]; rfl
 · have hflat : q04 (ns.map (Value.int .u8)) = ns.map (Value.int .u8) := by
    clear hr hrow hK hns hlen hall
    induction ns with
    | nil => rfl
    | cons n ns ih => simp only [q04, z0r, z3l] at ih ⊢; rw [ih]; rfl
   have hc := hrow.2.1
   rw [hflat] at hc
   have hl := qff (P := P) ys.length (ns.map (Value.int .u8)) (by rw [hlen]; exact z09 _) hc
   rw [z07 (by rw [hlen]; exact z09 _)] at hl
   simp only [Conv.bytesToString, z0s, hl, z0b]
   simp only [List.forIn_toArray]
   rw [qnd (fun _ _ => rfl) ns ByteArray.empty]
   simp [qjw, hns]
