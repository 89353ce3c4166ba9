/- A text of the walk that proves a law of this seat; joined by a program. -/
import Derived.Test.YtdkcpcflfnakdaaGreatSymHb
set_option linter.unusedSimpArgs false
set_option linter.unusedVariables false
namespace Go.Proofs.YtdkcpcflfnakdaaGreat.Sym
open Go Go.RowKit
variable {L : Nat} {Hd : Nat → Prop}
variable {B : Nat} {C : Prop} {K : AV → St → Prop} {P : Program} {T : TypeId → Option TI} {a : Act} {e t ty : TypeId} {i : TypeInfo} {op : BinOp} {s s' : St} {w : World} {x y z : AV} {xo yo : Operand} {xv yv : Value} {ι : Loc}
def gmake (T : TypeId → Option TI) (t : TypeId) (l c : AV) (s : St) : Step :=
 match T t with
 | some ti => match ti.desc with
  | .slice e => match T e with
   | some te => match l with
    | .v (.int _ n) => match c with
     | .v (.int _ m) => some (m = n ∧ 0 ≤ n ∧ te.zeroOk = true ∧ n ≤ 9223372036854775807 ∧ n.toNat * te.bytes ≤ 140737488355328, .own s.mem.length te.size 0 n.toNat, { s with mem := s.mem ++ [.row e te.size (List.replicate n.toNat te.zav)] })
     | _ => none
    | _ => none
   | none => none
  | _ => none
 | none => none
theorem qro (hT : TyOk P T) (h : Rel Hd B ι s a w) {l c : AV} {lv cv : Value} (hl : rel Hd ι w l lv) (hc : rel Hd ι w c cv) (e : gmake T t l c s = some (C, z, s')) (hC : C) (hK : K z s') : Out P Hd L B ι a w (Instr.makeSlice t lv cv) isV K := by
 unfold gmake at e
 split at e <;> try (cases e; done)
 rename_i ti ht
 split at e <;> try (cases e; done)
 rename_i el hd
 split at e <;> try (cases e; done)
 rename_i te hte
 split at e <;> try (cases e; done)
 rename_i k1 n
 split at e <;> try (cases e; done)
 rename_i k2 m
 cases e
 obtain ⟨rfl, h0, hzo, hmx, hby⟩ := hC
 cases hl; cases hc
 obtain ⟨j, rfl⟩ := Int.eq_ofNat_of_zero_le h0
 simp only [z0g] at hby hK
 obtain ⟨_, i, zv, hi, hisz, hiby, hiz, hzc⟩ := hT el te hte
 have hw : IntKind.i64.wrap ((j : Nat) : Int) = j := by rw [z4f]; omega
 have hz2 := q7r hzo
 have hall := q8p hzo j
 have hfl := q0k _ hall
 rw [z29] at hfl
 have hjb : ((i.bytes : Nat) : Int) * (j : Int) ≤ 281474976710656 := by rw [hiby, ← Int.natCast_mul, z4d]; omega
 have hrun : (Instr.makeSlice t (.int k1 j) (.int k2 j)).run P w = .ok (.slice (some ⟨w.heap.size, 0, none⟩) j j) (w.alloc (.cells (q04 (List.replicate j te.zval)).toArray el)) := by
  have c1 : ¬ ((j : Int) < 0) := by omega
  have c2 : ¬ ((i.bytes : Int) * (j : Int) > 281474976710656) := by omega
  have c3 : ¬ (j * i.bytes > 140737488355328) := by rw [hiby]; omega
  simp only [Instr.makeSlice, z0s, run_underlying hT ht, z0b, hd, asInt, asIntOf, z15, typeInfo, run_program, hi, sizeOf, hw]
  by_cases hj : j = 0
  · subst hj
    simp [hi, askRoom, roomBytes, newRow, q04]
    congr 2
    apply z4q 
    simp
  · have hjs : ¬ (j * i.size = 0) := Nat.mul_ne_zero hj (by omega)
    have hzf := q8y hzo hzc j
    rw [← hisz] at hzf
    simp [hi, askRoom, roomBytes, newRow, c1, c2, c3, hjs, zeroValue, typeInfo, hiz, hzf]
 have hk : ∀ (b : Nat) (o : Option Nat), ι[b]? = some o → (ι ++ [some w.heap.size])[b]? = some o := fun b o hb => by
  rw [z0j (z08.1 hb).1]; exact hb
 obtain ⟨hR, hE⟩ := h.grow (o := .cells (q04 (List.replicate j te.zval)).toArray el) (blk := .row el te.size (List.replicate j te.zav)) (fun ee =>
  ⟨qeq j, .inl ⟨w.heap.size, _, List.replicate j te.zval, by rw [← h.len]; simp, heap_alloc_new w _, qba j, q8p hzo j, by
   have := q1x (heap_alloc_new w (.cells (q04 (List.replicate j te.zval)).toArray el))
   simpa using this, qas hzo j⟩⟩)
 refine ⟨_, _, _, _, .own s.mem.length te.size 0 j, _, hrun, rfl, .inl ⟨w.heap.size, j, j * te.size, el, by simp, z09 _, ?_, by rw [← h.len]; simp, ?_, by simp⟩, hR, hE, hK⟩
 · simp only [maxLen]; omega
 · simp only [World.shape?, heap_alloc_new]
   simp [hfl]
def q2k (T : TypeId → Option TI) (t : TypeId) : Bool := match T t with | some ti => (match ti.desc with | .slice _ => true | _ => false) | none => false
def q89 (T : TypeId → Option TI) (t : TypeId) : Bool := match T t with | some ti => (match ti.desc with | .pointer _ => true | _ => false) | none => false
def gnil (T : TypeId → Option TI) (op : BinOp) (t : TypeId) (x y : AV) (s : St) : Step :=
 match op, x, y with
 | .eql, .sl _ xs, .v (.slice none _ _) => some (q2k T t = true ∧ 0 < xs.length, .v (.bool false), s)
 | .neq, .sl _ xs, .v (.slice none _ _) => some (q2k T t = true ∧ 0 < xs.length, .v (.bool true), s)
 | .eql, .v (.slice a _ _), .v (.slice none _ _) => some (q2k T t = true, .v (.bool a.isNone), s)
 | .neq, .v (.slice a _ _), .v (.slice none _ _) => some (q2k T t = true, .v (.bool a.isSome), s)
 | .eql, .ptr _ _, .v (.pointer none) => some (q89 T t = true, .v (.bool false), s)
 | .neq, .ptr _ _, .v (.pointer none) => some (q89 T t = true, .v (.bool true), s)
 | .eql, .v (.pointer none), .v (.pointer none) => some (q89 T t = true, .v (.bool true), s)
 | .neq, .v (.pointer none), .v (.pointer none) => some (q89 T t = true, .v (.bool false), s)
 | _, _, _ => none
theorem qo5 (hT : TyOk P T) (ht : q2k T t = true) (a : Option Addr) (n c n' c' : Nat) (w : World) : (Op.equal t (.slice a n c) (.slice none n' c')).run P w = .ok a.isNone w := by
 unfold q2k at ht
 split at ht <;> try (cases ht; done)
 rename_i ti hti
 split at ht <;> try (cases ht; done)
 rename_i el hd
 unfold Op.equal Op.maxDepth
 rw [show (10000 : Nat) = 9999 + 1 from rfl, Op.equalIn]
 cases a with
 | none => simp only [z0s, run_underlying hT hti, z0b, hd, z15]
 | some a => simp only [z0s, run_underlying hT hti, z0b, hd, z15, Option.isNone_some]
theorem qnx (hT : TyOk P T) (ht : q89 T t = true) (p : Option Addr) (w : World) : (Op.equal t (.pointer p) (.pointer none)).run P w = .ok p.isNone w := by
 unfold q89 at ht
 split at ht <;> try (cases ht; done)
 rename_i ti hti
 split at ht <;> try (cases ht; done)
 rename_i el hd
 unfold Op.equal Op.maxDepth
 rw [show (10000 : Nat) = 9999 + 1 from rfl, Op.equalIn]
 cases p with
 | none => simp [z0s, run_underlying hT hti, z0b, hd, z15]
 | some a => simp [z0s, run_underlying hT hti, z0b, hd, z15]
theorem qvg (hT : TyOk P T) (h : Rel Hd B ι s a w) (hx : rel Hd ι w x xv) (hy : rel Hd ι w y yv) (e : gnil T op t x y s = some (C, z, s')) (hC : C) (hK : K z s') : Out P Hd L B ι a w (do eqGuard op t xo yo xv yv; binOp op t xv yv) isV K := by
 have key : ∀ (ad : Option Addr) (n c n' c' : Nat), q2k T t = true → xv = .slice ad n c → yv = .slice none n' c' → (op = .eql ∧ z = .v (.bool ad.isNone) ∨ op = .neq ∧ z = .v (.bool ad.isSome)) → s' = s →
  Out P Hd L B ι a w (do eqGuard op t xo yo xv yv; binOp op t xv yv) isV K := by
  rintro ad n c n' c' hty rfl rfl hz rfl
  have he := qo5 (P := P) hT hty ad n c n' c' w
  rcases hz with ⟨rfl, rfl⟩ | ⟨rfl, rfl⟩
  · refine Out.mk' h hK (y := .bool ad.isNone) ?_ q1n
    simp [eqGuard, binOp, he]
  · refine Out.mk' h hK (y := .bool ad.isSome) ?_ q1n
    simp [eqGuard, binOp, he]
 have keyP : ∀ (p : Option Addr), q89 T t = true → xv = .pointer p → yv = .pointer none → (op = .eql ∧ z = .v (.bool p.isNone) ∨ op = .neq ∧ z = .v (.bool p.isSome)) → s' = s →
  Out P Hd L B ι a w (do eqGuard op t xo yo xv yv; binOp op t xv yv) isV K := by
  rintro p hty rfl rfl hz rfl
  have he := qnx (P := P) hT hty p w
  rcases hz with ⟨rfl, rfl⟩ | ⟨rfl, rfl⟩
  · refine Out.mk' h hK (y := .bool p.isNone) ?_ q1n
    simp [eqGuard, binOp, he]
  · refine Out.mk' h hK (y := .bool p.isSome) ?_ q1n
    simp [eqGuard, binOp, he]
 unfold gnil at e
 split at e <;> try (cases e; done)
 · cases e
   cases hy
   obtain ⟨hp, ad, cap, vs, rfl, hc, hr, hm⟩ := hx
   rcases hm with rfl | ⟨r, off, rfl, _⟩
   · exact absurd hC.2 (by simp)
   · exact key _ _ _ _ _ hC.1 rfl rfl (.inl ⟨rfl, rfl⟩) rfl
 · cases e
   cases hy
   obtain ⟨hp, ad, cap, vs, rfl, hc, hr, hm⟩ := hx
   rcases hm with rfl | ⟨r, off, rfl, _⟩
   · exact absurd hC.2 (by simp)
   · exact key _ _ _ _ _ hC.1 rfl rfl (.inr ⟨rfl, rfl⟩) rfl
 · cases e; cases hx; cases hy
   exact key _ _ _ _ _ hC rfl rfl (.inl ⟨rfl, rfl⟩) rfl
 · cases e; cases hx; cases hy
   exact key _ _ _ _ _ hC rfl rfl (.inr ⟨rfl, rfl⟩) rfl
 · cases e; cases hy
   obtain ⟨r, rfl, hb⟩ := hx
   exact keyP _ hC rfl rfl (.inl ⟨rfl, rfl⟩) rfl
 · cases e; cases hy
   obtain ⟨r, rfl, hb⟩ := hx
   exact keyP _ hC rfl rfl (.inr ⟨rfl, rfl⟩) rfl
 · cases e; cases hx; cases hy
   exact keyP _ hC rfl rfl (.inl ⟨rfl, rfl⟩) rfl
 · cases e; cases hx; cases hy
   exact keyP _ hC rfl rfl (.inr ⟨rfl, rfl⟩) rfl
structure AppRun (P : Program) (w : World) (ts : Array TypeId) (ty e : TypeId) (i : TypeInfo) (z : Value) (xv : Value) (n : Nat) (news : List Value) : Prop where
 zero : n = 0 → ∀ (base : Option Addr) (sLen sCap : Nat), sLen ≤ sCap → (Builtin.append_ ts ty #[.slice base sLen sCap, xv]).run P w = .ok (.slice base sLen sCap) w
 room : 0 < n → ∀ (g sLen sCap : Nat) (cur : Array Value), w.heap[g]? = some (.cells cur e (0, 0)) → sLen + n ≤ sCap → sLen * i.size + news.length ≤ cur.size →
  (Builtin.append_ ts ty #[.slice (some ⟨g, 0, none⟩) sLen sCap, xv]).run P w = .ok (.slice (some ⟨g, 0, none⟩) (sLen + n) sCap) (w.setRow g (cur.toList.take (sLen * i.size) ++ news ++ cur.toList.drop (sLen * i.size + news.length)).toArray)
 grow : 0 < n → ∀ (base : Option Addr) (sLen sCap : Nat) (olds : List Value), (Builtin.firstCells i.size sLen (.slice base sLen sCap)).run P w.drew = .ok olds.toArray w.drew → sCap < sLen + n → ((sLen + n : Nat) : Int) ≤ 9223372036854775807 →
  (sLen + n) * i.bytes ≤ 140737488355328 → (Builtin.append_ ts ty #[.slice base sLen sCap, xv]).run P w = .ok (.slice (some ⟨w.heap.size, 0, none⟩) (sLen + n) (grownCap w (sLen + n) sCap e))
   (w.drew.alloc (.cells (olds.toArray ++ news.toArray ++ Builtin.zeroCells z.cells (grownCap w (sLen + n) sCap e - (sLen + n))) e))
theorem qg3 {z : Value} (ht : P.underlying t = some (.slice e)) (hi : P.info? e = some i) (hz : i.zero = some z) {ad : Option Addr} {n cap : Nat} {vs : List Value} (hn : vs.length = n) (hrow : vs = [] ∨ ∃ r off, ad = some ⟨r, off, none⟩ ∧ q20 w r off i.size vs) : AppRun P w #[t, t] ty e i z (.slice ad n cap) n (q04 vs) := by
 refine ⟨?_, ?_, ?_⟩
 · rintro rfl base sLen sCap hc
   cases base <;> cases ad <;> simp [Builtin.append_, z2h ht, sizeOf, typeInfo, hi, Builtin.lenOf, hc, Builtin.firstCells, loadCells, loadCellsFrom, storeCells]
 · intro h0 g sLen sCap cur hg hroom hfit
   rcases hrow with rfl | ⟨r, off, rfl, hrow⟩
   · simp at hn; omega
   · exact run_append_room (P := P) w t ty e i ht hi g sLen sCap cur hg ⟨r, off, none⟩ n cap (q04 vs) (by rw [q0k _ hrow.1, hn]) (q30 hrow.2.1) hrow.2.2 hroom hfit
 · intro h0 base sLen sCap olds hold hg h63 hby
   rcases hrow with rfl | ⟨r, off, rfl, hrow⟩
   · simp at hn; omega
   · have hnn : ¬ (sLen + n ≤ sCap) := by omega
     have h63' : ¬ (9223372036854775807 < ((sLen : Int) + (n : Int))) := by omega
     have hfit := growslice_fits (need := sLen + n) (old := sCap) (bytes := i.bytes) hg hby
     have h48' : ¬ (281474976710656 < Builtin.nextslicecap (sLen + n) sCap * i.bytes) := by omega
     have hf := run_firstCells_some (P := P) w.drew i.size n ⟨r, off, none⟩ n cap (q04 vs) (by rw [q0k _ hrow.1, hn]) (fun j v hv => by simpa using q30 hrow.2.1 j v hv)
     simp [Builtin.append_, z2h ht, sizeOf, typeInfo, zeroValue, hi, hz, Builtin.lenOf, hnn, h63', h48', Question.forced, hf, hold, newRow, grownCap]
     congr 2
     apply z4q
     simp [z1r]
theorem qqj {tn : TypeId} {z : Value} {kn kq : IntKind} (ht : P.underlying t = some (.slice e)) (htn : P.underlying tn = some (.int kn)) (hi : P.info? e = some i) (hz : i.zero = some z) {n : Nat} (hn63 : (n : Int) ≤ 9223372036854775807) (hnb : n * i.bytes ≤ 281474976710656) (hs : 0 < i.size) {te : TI} (hzo : te.zeroOk = true) (hzc : z.cells.toList = te.zero) (hisz : i.size = te.size) : AppRun P w #[t, tn] ty e i z (.int kq n) n (q04 (List.replicate n te.zval)) := by
 have hw : IntKind.i64.wrap (n : Int) = n := by rw [z4f]; omega
 have hneg : ¬ ((n : Int) < 0) := by omega
 have h48i : ¬ (281474976710656 < (n : Int) * (i.bytes : Int)) := by
  rw [← Int.natCast_mul]
  omega
 have hzf := q9p hzo hzc n
 have hone := qas hzo n
 refine ⟨?_, ?_, ?_⟩
 · rintro rfl base sLen sCap hc
   have hw0 : IntKind.i64.wrap 0 = 0 := by rfl
   cases base <;> simp [Builtin.append_, z2h ht, z2h htn, sizeOf, typeInfo, hi, asInt, asIntOf, hw0, hc, storeCells]
 · intro h0 g sLen sCap cur hg hroom hfit
   have hk : n ≠ 0 := by omega
   have hns : ¬ (n * i.size = 0) := Nat.mul_ne_zero hk (by omega)
   have hst := run_storeCells_at P g (sLen * i.size) e (q04 (List.replicate n te.zval)) 0 cur w hg (by simpa using hfit) hone
   simp only [z1y] at hst
   simp [Builtin.append_, z2h ht, z2h htn, sizeOf, typeInfo, zeroValue, hi, hz, asInt, asIntOf, hw, hneg, hns, h48i, hroom, hzf, Addr.add_lit, hst]
 · intro h0 base sLen sCap olds hold hg h63 hby
   have := Lib.run_append_grow_zeros (P := P) w t tn ty e i z kq kn ht htn hi hz base sLen sCap olds hold n h0 hs hg h63 hnb (growslice_fits hg hby)
   rw [hzf] at this
   exact this
def gapp (L : Nat) (e : TypeId) (te : TI) (x : AV) (ys : List AV) (s : St) : Step :=
 match x with
 | .v (.slice none 0 0) => some (te.zeroOk = true ∧ ys.length ≤ maxLen ∧ ys.length * te.bytes ≤ 140737488355328, .own s.mem.length te.size 0 ys.length, { s with mem := s.mem ++ [.row e te.size ys] })
 | .own b sz 0 len => match s.mem[b]? with
  | some (.row e' sz' xs) => some (te.zeroOk = true ∧ (L ≤ b ∧ e' = e ∧ sz = te.size ∧ sz' = te.size ∧ xs.length = len) ∧ len + ys.length ≤ maxLen ∧ (len + ys.length) * te.bytes ≤ 140737488355328,
   .own b sz 0 (len + ys.length), s.rehome b (.row e' sz' (xs ++ ys)))
  | some (.rowc e' sz' xs N) =>
   if len + ys.length ≤ N then some (te.zeroOk = true ∧ e' = e ∧ sz = te.size ∧ sz' = te.size ∧ len ≤ xs.length, .own b sz 0 (len + ys.length), { s with mem := s.mem.set b (.rowc e' sz' (q2w xs len ys) N) })
   else some (te.zeroOk = true ∧ (e' = e ∧ sz = te.size ∧ sz' = te.size ∧ len ≤ xs.length) ∧ len + ys.length ≤ maxLen ∧ (len + ys.length) * te.bytes ≤ 140737488355328,
    .own s.mem.length te.size 0 (len + ys.length), { s with mem := s.mem ++ [.row e te.size (xs.take len ++ ys)] })
  | _ => none
 | _ => none
theorem qlh (hT : TyOk P T) (h : Rel Hd B ι s a w) {ts : Array TypeId} {te : TI} {zv : Value} {ys : List AV} {vs : List Value} (hi : P.info? e = some i) (hisz : i.size = te.size) (hiby : i.bytes = te.bytes) (hzc : zv.cells.toList = te.zero) (hx : rel Hd ι w x xv) (hA : AppRun P w ts ty e i zv yv ys.length (q04 vs)) (hr : rels Hd ι w ys vs) (hpu : q05 ys = []) (h1 : ∀ v ∈ vs, v.cells.size = te.size) (h2 : ∀ u ∈ q04 vs, u.oneCell' = true) (eq : gapp L e te x ys s = some (C, z, s')) (hC : C) (hK : K z s') : Out P Hd L B ι a w (Builtin.append_ ts ty #[xv, yv]) isV K := by
 have hlv := q0h hr
 have hfl := q0k vs h1
 have q1z : ∀ (base : Option Addr) (sLen sCap : Nat) (os : List AV) (us : List Value), te.zeroOk = true → 0 < ys.length → os.length = sLen → rels Hd ι w os us → q05 os = [] → (∀ v ∈ us, v.cells.size = te.size) → (∀ u ∈ q04 us, u.oneCell' = true) →
  (Builtin.firstCells i.size sLen (.slice base sLen sCap)).run P w.drew = .ok (q04 us).toArray w.drew → sCap < sLen + ys.length → sLen + ys.length ≤ maxLen → (sLen + ys.length) * te.bytes ≤ 140737488355328 →
  xv = .slice base sLen sCap → z = .own s.mem.length te.size 0 (sLen + ys.length) → s' = { s with mem := s.mem ++ [.row e te.size (os ++ ys)] } → Out P Hd L B ι a w (Builtin.append_ ts ty #[xv, yv]) isV K := by
  rintro base sLen sCap os us hzo hpos hos hro hpo h3 h4 hold hg hm1 hm2 rfl rfl rfl
  have hrun := hA.grow hpos base sLen sCap (q04 us) hold hg (by simp only [maxLen] at hm1; omega) (by rw [hiby]; exact hm2)
  have hge := grownCap_ge w (sLen + ys.length) sCap e
  have hle := grownCap_le_maxLen w (sLen + ys.length) sCap e hm1
  have hzs : zv.cells.size = te.size := by
   have := hzo
   simp only [TI.zeroOk, z0d, decide_eq_true_eq] at this
   rw [← this.1.1.1, ← hzc]; simp
  have hlo := q0h hro
  have hfo := q0k us h3
  have hall : ∀ v ∈ us ++ vs, v.cells.size = te.size := by
   intro v hv
   rcases z0q.1 hv with hv | hv
   · exact h3 v hv
   · exact h1 v hv
  have hone : ∀ u ∈ q04 (us ++ vs), u.oneCell' = true := by
   intro u hu
   rw [q37] at hu
   rcases z0q.1 hu with hu | hu
   · exact h4 u hu
   · exact h2 u hu
  generalize hA' : ((q04 us).toArray ++ (q04 vs).toArray ++ Builtin.zeroCells zv.cells (grownCap w (sLen + ys.length) sCap e - (sLen + ys.length))) = A at hrun
  have hAs : A.size = grownCap w (sLen + ys.length) sCap e * te.size := by
   rw [← hA']
   simp only [z49, z2d, q3s, hzs, hfl, hfo, ← hlv, ← hlo, hos, ← z25]
   congr 1
   omega
  obtain ⟨hR, hE⟩ := (h.drew).grow (o := .cells A e) (blk := .row e te.size (os ++ ys)) (fun ee =>
   ⟨q2h hpo hpu, .inl ⟨w.heap.size, _, us ++ vs, by rw [← h.len]; simp, heap_alloc_new w.drew _, q0l ((q5o ι w).trans ee) h.lt _ _ (fun b hb => by rw [q2h hpo hpu] at hb; cases hb) (q13 hro hr),
    q5e (heap_alloc_new w.drew _) (rest := (Builtin.zeroCells zv.cells (grownCap w (sLen + ys.length) sCap e - (sLen + ys.length))).toList) (by rw [← hA']; simp [q37]) hall hone⟩⟩)
  refine ⟨_, _, _, _, .own s.mem.length te.size 0 (sLen + ys.length), _, hrun, rfl, .inl ⟨w.heap.size, _, grownCap w (sLen + ys.length) sCap e * te.size, e, by simp, hge, by omega, by rw [← h.len]; simp, ?_, by simp⟩, hR, (q5o ι w).trans hE, hK⟩
  have : (w.drew.alloc (.cells A e)).heap[w.heap.size]? = _ := heap_alloc_new w.drew _
  simp only [World.shape?, this, hAs]
 unfold gapp at eq
 split at eq <;> try (cases eq; done)
 · -- onto nil
   cases eq
   cases hx
   obtain ⟨hzo, hm1, hm2⟩ := hC
   by_cases h0 : ys.length = 0
   · obtain rfl : ys = [] := z1a h0
     obtain ⟨hR, hE⟩ := h.growNone e te.size
     exact ⟨_, _, w, _, .own s.mem.length te.size 0 ([] : List AV).length, _, hA.zero rfl none 0 0 (z09 _), rfl, .inr ⟨_, rfl, rfl, rfl, by rw [← h.len]; simp⟩, hR, hE, hK⟩
   · exact q1z none 0 0 [] [] hzo (by omega) rfl rfl rfl (fun v hv => by cases hv) (fun u hu => by cases hu) (by simp [Builtin.firstCells, q04]) (by omega) (by omega) (by rw [z16]; exact hm2) rfl (by rw [z16]) rfl
 · rename_i b sz len
   split at eq <;> try (cases eq; done)
   · -- onto a row
     rename_i e' sz' xs hm
     cases eq
     obtain ⟨hzo, ⟨hLb, rfl, rfl, rfl, rfl⟩, hm1, hm2⟩ := hC
     obtain ⟨hpx, hmr⟩ := h.mem b _ hm
     have hbl : b < ι.length := by rw [h.len]; exact (z08.1 hm).1
     have hself : ∀ (b' : Nat) (o : Option Nat), b' ≠ b → ι[b']? = some o → ι[b']? = some o := fun _ _ _ x => x
     have hzs : zv.cells.size = te.size := by
      have := hzo
      simp only [TI.zeroOk, z0d, decide_eq_true_eq] at this
      rw [← this.1.1.1, ← hzc]; simp
     have moved : ∀ (base : Option Addr) (sCap : Nat) (us : List Value), 0 < ys.length → rels Hd ι w xs us → (∀ v ∈ us, v.cells.size = te.size) → (∀ u ∈ q04 us, u.oneCell' = true) →
      (Builtin.firstCells i.size xs.length (.slice base xs.length sCap)).run P w.drew = .ok (q04 us).toArray w.drew → sCap < xs.length + ys.length → xv = .slice base xs.length sCap → Out P Hd L B ι a w (Builtin.append_ ts ty #[xv, yv]) isV K := by
      rintro base sCap us hpos hro h3 h4 hold hg rfl
      have hrun := hA.grow hpos base xs.length sCap (q04 us) hold hg (by simp only [maxLen] at hm1; omega) (by rw [hiby]; exact hm2)
      have hge := grownCap_ge w (xs.length + ys.length) sCap e'
      have hle := grownCap_le_maxLen w (xs.length + ys.length) sCap e' hm1
      have hlo := q0h hro
      have hfo := q0k us h3
      have hall : ∀ v ∈ us ++ vs, v.cells.size = te.size := by
       intro v hv
       rcases z0q.1 hv with hv | hv
       · exact h3 v hv
       · exact h1 v hv
      have hone : ∀ u ∈ q04 (us ++ vs), u.oneCell' = true := by
       intro u hu
       rw [q37] at hu
       rcases z0q.1 hu with hu | hu
       · exact h4 u hu
       · exact h2 u hu
      obtain ⟨hR, hE⟩ := h.moved (e := e') (sz := te.size) (arr := (q04 us).toArray ++ (q04 vs).toArray ++ Builtin.zeroCells zv.cells (grownCap w (xs.length + ys.length) sCap e' - (xs.length + ys.length)))
       (rest := (Builtin.zeroCells zv.cells (grownCap w (xs.length + ys.length) sCap e' - (xs.length + ys.length))).toList) hbl (q13 hro hr) (q2h hpx hpu) hall hone (by simp [q37]) hLb
      refine ⟨_, _, _, _, .own b te.size 0 (xs.length + ys.length), _, hrun, rfl, .inl ⟨w.heap.size, _, grownCap w (xs.length + ys.length) sCap e' * te.size, e', by simp, hge, by omega, by rw [z0m hbl], ?_, by simp⟩, hR, hE, hK⟩
      have : (w.drew.alloc (.cells ((q04 us).toArray ++ (q04 vs).toArray ++ Builtin.zeroCells zv.cells (grownCap w (xs.length + ys.length) sCap e' - (xs.length + ys.length))) e')).heap[w.heap.size]? = _ := heap_alloc_new w.drew _
      simp only [World.shape?, this, z49, z2d, q3s, hzs, hfl, hfo, ← hlv, ← hlo, ← z25]
      congr 2
      congr 1
      omega
     rcases hx with ⟨r, cap, n, t2, rfl, hcap, hmx, hbr, hs, hn⟩ | ⟨a0, rfl, _, hx0, hb0⟩
     · rcases hmr with ⟨r', cells, us, k1, k2, k3, k4⟩ | ⟨k1, _⟩
       · obtain rfl : r = r' := by rw [hbr] at k1; simpa using k1
         have hxl := q0h k3
         have hsz : cells.size = cap * te.size := by
          simp only [World.shape?, k2, z1d, z34] at hs
          rw [hs.2, ← hn]; simp
         by_cases h0 : ys.length = 0
         · obtain rfl : ys = [] := z1a h0
           have hR := h.rehome (L := L) (blk := .row e' te.size (xs ++ [])) (Ext.refl ι w) rfl hself h.lt h.inj (fun _ _ _ _ => rfl) (by rw [z0i]; exact ⟨hpx, .inl ⟨r, cells, us, hbr, k2, k3, k4⟩⟩)
           exact ⟨_, _, w, ι, .own b te.size 0 (xs.length + ([] : List AV).length), _, hA.zero rfl _ _ _ hcap, rfl, .inl ⟨r, cap, n, t2, rfl, by simpa using hcap, hmx, hbr, hs, hn⟩, hR, Ext.refl _ _, hK⟩
         by_cases hroom : xs.length + ys.length ≤ cap
         · have hfx := q0k us k4.1
           have hfit : xs.length * i.size + (q04 vs).length ≤ cells.size := by
            rw [hisz, hfl, hsz, ← hlv, ← z25]; exact z1w _ hroom
           have hrun := hA.room (by omega) r xs.length cap cells k2 hroom hfit
           rw [q5l k2] at hrun
           obtain ⟨rest, hrest⟩ := qh2 k2 k4.2.1
           generalize hnew : (cells.toList.take (xs.length * i.size) ++ q04 vs ++ cells.toList.drop (xs.length * i.size + (q04 vs).length)).toArray = cells' at hrun
           have hcs' : cells'.size = cells.size := by
            rw [← hnew]
            simp only [z2d, z0c, z1l, z31, z1g]
            omega
           have hmemr : some r ∈ ι := z06 hbr
           have ee : Ext L ι w ι (q0m w r (.cells cells' e' (0, 0))) := by
            refine ⟨rfl, rfl, rfl, by simp [q0m], fun r' _ hne => ⟨hne, q1c ?_⟩, fun r' _ => q35 k2 hcs' r', fun _ _ _ h => h⟩
            rintro rfl; exact hne hmemr
           have hall : ∀ v ∈ us ++ vs, v.cells.size = te.size := by
            intro v hv
            rcases z0q.1 hv with hv | hv
            · exact k4.1 v hv
            · exact h1 v hv
           have hone : ∀ u ∈ q04 (us ++ vs), u.oneCell' = true := by
            intro u hu
            rw [q37] at hu
            rcases z0q.1 hu with hu | hu
            · exact k4.2.2 u hu
            · exact h2 u hu
           have hcl : cells.toList.take (xs.length * i.size) = q04 us := by
            rw [hrest, hisz, hxl, ← hfx, z4e]
           have hR := h.rehome (blk := .row e' te.size (xs ++ ys)) ee rfl hself (fun r' hr' => z10 (h.lt r' hr') ee.size) h.inj (fun j r' hj hr' => q1c (by
            rintro rfl; exact hj (h.inj _ _ _ hr' hbr)))
            ⟨q2h hpx hpu, .inl ⟨r, cells', us ++ vs, hbr, q1i (q26 k2), q13 (q0l ee h.lt _ _ (fun _ _ _ x => x) k3) (q0l ee h.lt _ _ (fun _ _ _ x => x) hr),
             q5e (q1i (q26 k2)) (rest := cells.toList.drop (xs.length * i.size + (q04 vs).length)) (by rw [← hnew, q37, hcl]) hall hone⟩⟩
           refine ⟨.slice (some ⟨r, 0, none⟩) (xs.length + ys.length) cap, _, _, ι, .own b te.size 0 (xs.length + ys.length), _, ?_, rfl, .inl ⟨r, cap, n, t2, by simp, hroom, hmx, hbr, ?_, hn⟩, hR, ee, hK⟩
           · simpa using hrun
           · rw [q35 k2 hcs']; exact hs
         · refine moved _ cap us (by omega) k3 k4.1 k4.2.2 ?_ (by omega) rfl
           have := q54 (P := P) (w := w.drew) (w0 := w) (sz := te.size) (k := xs.length) (n := xs.length) (cap := cap) (ad := some ⟨r, 0 * te.size, none⟩) (vs := us) rfl (by omega) (.inr ⟨r, 0 * te.size, rfl, by simpa using k4⟩)
           rw [z07 (by omega)] at this
           rw [hisz]; exact this
       · rw [hbr] at k1; cases k1
     · rcases hmr with ⟨r', cells, us, k1, k2, k3, k4⟩ | ⟨k1, rfl⟩
       · rw [hb0] at k1; cases k1
       by_cases h0 : ys.length = 0
       · obtain rfl : ys = [] := z1a h0
         have hR := h.rehome (L := L) (blk := .row e' te.size ([] ++ [])) (Ext.refl ι w) rfl hself h.lt h.inj (fun _ _ _ _ => rfl) ⟨rfl, .inr ⟨hb0, rfl⟩⟩
         exact ⟨_, _, w, ι, .own b te.size 0 (([] : List AV).length + ([] : List AV).length), _, hA.zero rfl _ _ _ (z09 _), rfl, .inr ⟨_, rfl, rfl, rfl, hb0⟩, hR, Ext.refl _ _, hK⟩
       · refine moved a0 0 [] (by omega) rfl (fun v hv => by cases hv) (fun u hu => by cases hu) ?_ (by simp only [z0a]; omega) rfl
         cases a0 <;> simp [Builtin.firstCells, q04, loadCells, loadCellsFrom]
   · -- onto a row whose room is known
     rename_i e' sz' xs N hm
     have hmr0 := h.mem b _ hm
     obtain ⟨⟨hpx, hmr⟩, hcap0⟩ := hmr0
     split at eq
     · rename_i hNle
       cases eq
       obtain ⟨hzo, rfl, rfl, rfl, hlx⟩ := hC
       have hz2 := q7r hzo
       rcases hx with ⟨r, cap, n, t2, rfl, hcap, hmx, hbr, hs, hn⟩ | ⟨a0, rfl, _, hx0, hb0⟩
       · have hN := hcap0.cap hbr hs hn hz2.2
         rcases hmr with ⟨r', cells, us, k1, k2, k3, k4⟩ | ⟨k1, _⟩
         · obtain rfl : r = r' := by rw [hbr] at k1; simpa using k1
           have hsz : cells.size = cap * te.size := by
            simp only [World.shape?, k2, z1d, z34] at hs
            rw [hs.2, ← hn]; simp
           by_cases h0 : ys.length = 0
           · obtain rfl : ys = [] := z1a h0
             have hput : q2w xs len [] = xs := by simp [q2w]
             rw [hput] at hK
             have hset : ({ s with mem := s.mem.set b (.rowc e' te.size xs N) } : St) = s := by
              cases s
              simp only [St.mk.injEq, true_and]
              exact z1e fun j => by
               by_cases hj : b = j
               · subst hj; rw [z0m (z08.1 hm).1]; exact hm.symm
               · rw [z0e hj]
             rw [hset] at hK
             exact ⟨_, _, w, ι, .own b te.size 0 (len + ([] : List AV).length), _, hA.zero rfl _ _ _ hcap, rfl, .inl ⟨r, cap, n, t2, rfl, by simpa using hcap, hmx, hbr, hs, hn⟩, h, Ext.refl _ _, hK⟩
           · have hroom : len + ys.length ≤ cap := by omega
             have hfit : len * i.size + (q04 vs).length ≤ cells.size := by
              rw [hisz, hfl, hsz, ← hlv, ← z25]; exact z1w _ hroom
             have hrun := hA.room (by omega) r len cap cells k2 hroom hfit
             obtain ⟨hR, hE⟩ := h.writeSeg (L := L) hm rfl hbr k2 k3 k4 hpx (off := len) hr hpu h1 h2 hlx (by rw [hsz]; exact z1w _ hroom)
             rw [hisz] at hrun
             refine ⟨_, _, _, ι, .own b te.size 0 (len + ys.length), _, (by simpa using hrun), rfl, .inl ⟨r, cap, n, t2, by simp, hroom, hmx, hbr, ?_, hn⟩, hR, hE, hK⟩
             rw [hE.shape r (h.lt r (z06 hbr))]; exact hs
         · rw [hbr] at k1; cases k1
       · have hN : N = 0 := by
          rcases hcap0 with ⟨r', t', q1, _⟩ | ⟨_, q2⟩
          · rw [hb0] at q1; cases q1
          · exact q2
         subst hx0
         obtain rfl : ys = [] := z1a (by omega)
         have hput : q2w xs 0 [] = xs := by simp [q2w]
         rw [hput] at hK
         have hset : ({ s with mem := s.mem.set b (.rowc e' te.size xs N) } : St) = s := by
          cases s
          simp only [St.mk.injEq, true_and]
          exact z1e fun j => by
           by_cases hj : b = j
           · subst hj; rw [z0m (z08.1 hm).1]; exact hm.symm
           · rw [z0e hj]
         rw [hset] at hK
         exact ⟨_, _, w, ι, .own b te.size 0 (0 + ([] : List AV).length), _, hA.zero rfl _ _ _ (z09 _), rfl, .inr ⟨_, rfl, rfl, rfl, hb0⟩, h, Ext.refl _ _, hK⟩
     · rename_i hNle
       cases eq
       obtain ⟨hzo, ⟨rfl, rfl, rfl, hlx⟩, hm1, hm2⟩ := hC
       have hz2 := q7r hzo
       rcases hx with ⟨r, cap, n, t2, rfl, hcap, hmx, hbr, hs, hn⟩ | ⟨a0, rfl, _, hx0, hb0⟩
       · have hN := hcap0.cap hbr hs hn hz2.2
         rcases hmr with ⟨r', cells, us, k1, k2, k3, k4⟩ | ⟨k1, _⟩
         · obtain rfl : r = r' := by rw [hbr] at k1; simpa using k1
           have hxl := q0h k3
           have hfc := q54 (P := P) (w := w.drew) (w0 := w) (sz := te.size) (k := len) (n := len) (cap := cap) (ad := some ⟨r, 0 * te.size, none⟩) (vs := us) rfl (by omega) (.inr ⟨r, 0 * te.size, rfl, by simpa using k4⟩)
           exact q1z _ len cap (xs.take len) (us.take len) hzo (by omega) (by simp; omega) (q2c _ k3) (q2e hpx _) (fun v hv => k4.1 v (z1c hv))
            (fun u hu => by obtain ⟨v, hv, hu⟩ := z27.1 hu; exact k4.2.2 u (z27.2 ⟨v, z1c hv, hu⟩)) (by rw [hisz]; exact hfc) (by omega) hm1 hm2 rfl rfl rfl
         · rw [hbr] at k1; cases k1
       · subst hx0
         have hxn : xs = [] := by
          rcases hmr with ⟨r', cells, us, k1, _⟩ | ⟨_, k2⟩
          · rw [hb0] at k1; cases k1
          · exact k2
         subst hxn
         have hN : N = 0 := by
          rcases hcap0 with ⟨r', t', q1, _⟩ | ⟨_, q2⟩
          · rw [hb0] at q1; cases q1
          · exact q2
         exact q1z a0 0 0 [] [] hzo (by omega) rfl rfl rfl (fun v hv => by cases hv) (fun u hu => by cases hu) (by cases a0 <;> simp [Builtin.firstCells, q04, loadCells, loadCellsFrom]) (by omega) hm1 hm2 rfl rfl (by simp)
def qe7 (T : TypeId → Option TI) (L : Nat) (ts : List TypeId) (x y : AV) (s : St) : Step :=
 match ts with
 | [t, t'] => match T t with
  | some ti => match ti.desc with
   | .slice e => match T e with
    | some te => match T t' with
     | some ti' => match ti'.desc with
      | .int _ => match y with
       | .v (.int _ n) => match gapp L e te x (List.replicate n.toNat te.zav) s with
        | some (c, z, s') => some (0 ≤ n ∧ n ≤ 9223372036854775807 ∧ n.toNat * te.bytes ≤ 281474976710656 ∧ te.zeroOk = true ∧ c, z, s')
        | none => none
       | _ => none
      | .slice _ => match q7j s y te.size with
       | some (c1, ys) => match gapp L e te x ys s with
        | some (c, z, s') => some (t' = t ∧ c1 ∧ c, z, s')
        | none => none
       | none => none
      | _ => none
     | none => none
    | none => none
   | _ => none
  | none => none
 | _ => none
theorem qo0 (hT : TyOk P T) (h : Rel Hd B ι s a w) {ts : Array TypeId} (hx : rel Hd ι w x xv) (hy : rel Hd ι w y yv) (e : qe7 T L ts.toList x y s = some (C, z, s')) (hC : C) (hK : K z s') : Out P Hd L B ι a w (Builtin.append_ ts ty #[xv, yv]) isV K := by
 unfold qe7 at e
 split at e <;> try (cases e; done)
 rename_i t t' hts
 obtain rfl : ts = #[t, t'] := by rw [← z1s (xs := ts), hts]
 split at e <;> try (cases e; done)
 rename_i ti ht
 split at e <;> try (cases e; done)
 rename_i el hd
 split at e <;> try (cases e; done)
 rename_i te hte
 split at e <;> try (cases e; done)
 rename_i ti' ht'
 obtain ⟨_, i, zv, hi, hisz, hiby, hiz, hzc⟩ := hT el te hte
 have hu : P.underlying t = some (.slice el) := by rw [(hT t ti ht).1, hd]
 split at e <;> try (cases e; done)
 · rename_i kn hd'
   have htn : P.underlying t' = some (.int kn) := by rw [(hT t' ti' ht').1, hd']
   split at e <;> try (cases e; done)
   rename_i kq n
   split at e <;> try (cases e; done)
   rename_i c z1 s1 hg
   cases e
   cases hy
   obtain ⟨h0, hn1, hn2, hzo, hc⟩ := hC
   obtain ⟨j, rfl⟩ := Int.eq_ofNat_of_zero_le h0
   simp only [z0g] at hn2 hg
   have hA := qqj (P := P) (w := w) (ty := ty) (kq := kq) hu htn hi hiz (n := j) hn1 (by rw [hiby]; exact hn2) (by rw [hisz]; exact (q7r hzo).2) hzo hzc hisz
   exact qlh hT h hi hisz hiby hzc hx (ys := List.replicate j te.zav) (vs := List.replicate j te.zval) (by rw [z29]; exact hA) (qba j) (qeq j) (q8p hzo j) (qas hzo j) hg hc hK
 · rename_i el' hd'
   split at e <;> try (cases e; done)
   rename_i c1 ys hys
   split at e <;> try (cases e; done)
   rename_i c z1 s1 hg
   cases e
   obtain ⟨rfl, hc1, hc⟩ := hC
   obtain ⟨ad, ycap, vs, rfl, hpu, hr, hrow⟩ := qpi h hy hys hc1
   have hlv := q0h hr
   have hA := qg3 (P := P) (w := w) (ty := ty) hu hi hiz (ad := ad) (n := ys.length) (cap := ycap) (vs := vs) hlv.symm (by
    rw [hisz]
    rcases hrow with rfl | hrow
    · exact .inl (by simpa using hlv.symm)
    · exact .inr hrow)
   have h1 : ∀ v ∈ vs, v.cells.size = te.size := by
    rcases hrow with rfl | ⟨_, _, _, hrow⟩
    · intro v hv
      have : vs = [] := by simpa using hlv.symm
      rw [this] at hv; cases hv
    · exact hrow.1
   have h2 : ∀ u ∈ q04 vs, u.oneCell' = true := by
    rcases hrow with rfl | ⟨_, _, _, hrow⟩
    · intro u hu
      have : vs = [] := by simpa using hlv.symm
      rw [this] at hu; cases hu
    · exact hrow.2.2
   exact qlh hT h hi hisz hiby hzc hx hA hr hpu h1 h2 hg hc hK
def shlF (k : IntKind) (m n : Int) : Int := k.wrap (m * 2 ^ (min n.toNat k.bits))
def shrF (k : IntKind) (m n : Int) : Int := m.fdiv (2 ^ (min n.toNat k.bits))
def andF (k : IntKind) (m n : Int) : Int := k.wrap ((BitVec.ofInt k.bits m &&& BitVec.ofInt k.bits n).toNat)
def orF (k : IntKind) (m n : Int) : Int := k.wrap ((BitVec.ofInt k.bits m ||| BitVec.ofInt k.bits n).toNat)
def xorF (k : IntKind) (m n : Int) : Int := k.wrap ((BitVec.ofInt k.bits m ^^^ BitVec.ofInt k.bits n).toNat)
def qm2 (k : IntKind) (m n : Int) : Int := k.wrap ((BitVec.ofInt k.bits m &&& ~~~(BitVec.ofInt k.bits n)).toNat)
def qhv (op : BinOp) (x y : AV) (s : St) : Step :=
 match op, x, y with
 | .shl, .v (.int k m), .v (.int _ n) => some (0 ≤ n, .v (.int k (shlF k m n)), s)
 | .shr, .v (.int k m), .v (.int _ n) => some (0 ≤ n, .v (.int k (shrF k m n)), s)
 | .and, .v (.int k m), .v (.int k' n) => some (k = k', .v (.int k (andF k m n)), s)
 | .or, .v (.int k m), .v (.int k' n) => some (k = k', .v (.int k (orF k m n)), s)
 | .xor, .v (.int k m), .v (.int k' n) => some (k = k', .v (.int k (xorF k m n)), s)
 | .andNot, .v (.int k m), .v (.int k' n) => some (k = k', .v (.int k (qm2 k m n)), s)
 | .gtr, .v (.string p), .v (.string q) => some (True, .v (.bool (!(Op.bytesLess p.toList q.toList || p.toList == q.toList))), s)
 | .leq, .v (.string p), .v (.string q) => some (True, .v (.bool (Op.bytesLess p.toList q.toList || p.toList == q.toList)), s)
 | .geq, .v (.string p), .v (.string q) => some (True, .v (.bool (!(Op.bytesLess p.toList q.toList))), s)
 | _, _, _ => none
theorem qsl (h : Rel Hd B ι s a w) (hx : rel Hd ι w x xv) (hy : rel Hd ι w y yv) (e : qhv op x y s = some (C, z, s')) (hC : C) (hK : K z s') : Out P Hd L B ι a w (do eqGuard op t xo yo xv yv; binOp op t xv yv) isV K := by
 unfold qhv at e
 split at e <;> try (cases e; done)
 all_goals
  cases e
  cases hx
  cases hy
 · have hn : ¬ _ < (0 : Int) := Int.not_lt.2 hC
   exact Out.mk' h hK (by simp [eqGuard, binOp, Op.shift, hn, shlF]) q1n
 · have hn : ¬ _ < (0 : Int) := Int.not_lt.2 hC
   exact Out.mk' h hK (by simp [eqGuard, binOp, Op.shift, hn, shrF]) q1n
 · cases hC; exact Out.mk' h hK (by simp [eqGuard, binOp, Op.intBits, andF]) q1n
 · cases hC; exact Out.mk' h hK (by simp [eqGuard, binOp, Op.intBits, orF]) q1n
 · cases hC; exact Out.mk' h hK (by simp [eqGuard, binOp, Op.intBits, xorF]) q1n
 · cases hC; exact Out.mk' h hK (by simp [eqGuard, binOp, Op.intBits, qm2]) q1n
 · exact Out.mk' h hK (by simp [eqGuard, binOp, Op.stringOp]) q1n
 · exact Out.mk' h hK (by simp [eqGuard, binOp, Op.stringOp]) q1n
 · exact Out.mk' h hK (by simp [eqGuard, binOp, Op.stringOp]) q1n
def gbin (T : TypeId → Option TI) (op : BinOp) (t : TypeId) (x y : AV) (s : St) : Step :=
 match gnil T op t x y s with
 | some r => some r
 | none => qhv op x y s
theorem qv1 (hT : TyOk P T) (h : Rel Hd B ι s a w) (hx : rel Hd ι w x xv) (hy : rel Hd ι w y yv) (e : gbin T op t x y s = some (C, z, s')) (hC : C) (hK : K z s') : Out P Hd L B ι a w (do eqGuard op t xo yo xv yv; binOp op t xv yv) isV K := by
 unfold gbin at e
 split at e
 · rename_i r hr
   cases e
   exact qvg hT h hx hy hr hC hK
 · exact qsl h hx hy e hC hK
def q3v (s : St) : Option Operand → Option AV
 | none => none
 | some x => some (s.ev x)
theorem q5n (o : Option Operand) : q3v s o = o.map s.ev := by cases o <;> rfl
def fpre (T : TypeId → Option TI) (o : Op) (s : St) : Step :=
 match o with
 | .slice t x lo hi mx => qbu T t (s.ev x) (q3v s lo) (q3v s hi) (q3v s mx) s
 | _ => none
def qew (T : TypeId → Option TI) (L : Nat) (o : Op) (s : St) : Step :=
 match o with
 | .makeSlice t l c => gmake T t (s.ev l) (s.ev c) s
 | .call { callee := .builtin b, args := args, argTypes := ts } => match b with
  | .append => match args.toList with
   | [x, y] => qe7 T L ts.toList (s.ev x) (s.ev y) s
   | _ => none
  | .cap => match args.toList, ts.toList with
   | [x], [t] => gcap T t (s.ev x) s
   | _, _ => none
  | .copy => match args.toList, ts.toList with
   | [x, y], [t, _] => qhm T t (s.ev x) (s.ev y) s
   | _, _ => none
  | .clear => match args.toList, ts.toList with
   | [x], [t] => qkb T t (s.ev x) s
   | _, _ => none
  | _ => none
 | _ => none
