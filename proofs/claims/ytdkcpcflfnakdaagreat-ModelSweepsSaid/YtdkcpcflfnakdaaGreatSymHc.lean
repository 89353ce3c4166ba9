/- A text of the walk that proves a law of this seat; joined by a program. -/
import Derived.Test.YtdkcpcflfnakdaaGreatSymHb
set_option linter.unusedSimpArgs false
set_option linter.unusedVariables false
namespace Go.Proofs.YtdkcpcflfnakdaaGreat.Sym
open Go Go.RowKit
variable {L : Nat} {Hd : Nat → Prop}
def gmake (T : TypeId → Option TI) (t : TypeId) (l c : AV) (s : St) : Step :=
  match T t with
  | some ti => match ti.desc with
    | .slice e => match T e with
      | some te => match l with
        | .v (.int _ n) => match c with
          | .v (.int _ m) => some (m = n ∧ 0 ≤ n ∧ te.zeroOk = true ∧ n ≤ 9223372036854775807 ∧ n.toNat * te.bytes ≤ 140737488355328, .own s.mem.length te.size 0 n.toNat, { s with mem := s.mem ++ [.row e te.size (List.replicate n.toNat te.zav)] })
          | _ => none
        | _ => none
      | none => none
    | _ => none
  | none => none
theorem gmake_sound {P : Program} {T : TypeId → Option TI} (hT : TyOk P T) {B : Nat} {ι : Loc} {s s' : St} {a : Act} {w : World} {K : AV → St → Prop} (h : Rel Hd B ι s a w) {t : TypeId} {l c z : AV} {lv cv : Value} {C : Prop}
    (hl : rel Hd ι w l lv) (hc : rel Hd ι w c cv) (e : gmake T t l c s = some (C, z, s')) (hC : C) (hK : K z s') : Out P Hd L B ι a w (Instr.makeSlice t lv cv) isV K := by
  unfold gmake at e
  split at e <;> try (cases e; done)
  rename_i ti ht
  split at e <;> try (cases e; done)
  rename_i el hd
  split at e <;> try (cases e; done)
  rename_i te hte
  split at e <;> try (cases e; done)
  rename_i k1 n
  split at e <;> try (cases e; done)
  rename_i k2 m
  cases e
  obtain ⟨rfl, h0, hzo, hmx, hby⟩ := hC
  cases hl; cases hc
  obtain ⟨j, rfl⟩ := Int.eq_ofNat_of_zero_le h0
  simp only [Int.toNat_natCast] at hby hK
  obtain ⟨_, i, zv, hi, hisz, hiby, hiz, hzc⟩ := hT el te hte
  have hw : IntKind.i64.wrap ((j : Nat) : Int) = j := by rw [IntKind.wrap_i64]; omega
  have hz2 := q4x hzo
  have hall := zeros_size hzo j
  have hfl := q0i _ hall
  rw [List.length_replicate] at hfl
  have hjb : ((i.bytes : Nat) : Int) * (j : Int) ≤ 281474976710656 := by rw [hiby, ← Int.natCast_mul, Nat.mul_comm]; omega
  have hrun : (Instr.makeSlice t (.int k1 j) (.int k2 j)).run P w = .ok (.slice (some ⟨w.heap.size, 0, none⟩) j j) (w.alloc (.cells (flatV (List.replicate j te.zval)).toArray el)) := by
    have c1 : ¬ ((j : Int) < 0) := by omega
    have c2 : ¬ ((i.bytes : Int) * (j : Int) > 281474976710656) := by omega
    have c3 : ¬ (j * i.bytes > 140737488355328) := by rw [hiby]; omega
    simp only [Instr.makeSlice, Sem.run_bind, run_underlying hT ht, Result.andThen_ok, hd, asInt, asIntOf, Sem.run_pure, typeInfo, run_program, hi, sizeOf, hw]
    by_cases hj : j = 0
    · subst hj
      simp [hi, askRoom, roomBytes, newRow, flatV]
      congr 2
      apply Array.ext' 
      simp
    · have hjs : ¬ (j * i.size = 0) := Nat.mul_ne_zero hj (by omega)
      have hzf := zeros_flat hzo hzc j
      rw [← hisz] at hzf
      simp [hi, askRoom, roomBytes, newRow, c1, c2, c3, hjs, zeroValue, typeInfo, hiz, hzf]
  have hk : ∀ (b : Nat) (o : Option Nat), ι[b]? = some o → (ι ++ [some w.heap.size])[b]? = some o := fun b o hb => by
    rw [List.getElem?_append_left (List.getElem?_eq_some_iff.1 hb).1]; exact hb
  obtain ⟨hR, hE⟩ := h.grow (o := .cells (flatV (List.replicate j te.zval)).toArray el) (blk := .row el te.size (List.replicate j te.zav)) (fun ee =>
    ⟨refs_zeros j, .inl ⟨w.heap.size, _, List.replicate j te.zval, by rw [← h.len]; simp, heap_alloc_new w _, rels_zeros j, zeros_size hzo j, by
      have := q1k (heap_alloc_new w (.cells (flatV (List.replicate j te.zval)).toArray el))
      simpa using this, zeros_one hzo j⟩⟩)
  refine ⟨_, _, _, _, .own s.mem.length te.size 0 j, _, hrun, rfl, .inl ⟨w.heap.size, j, j * te.size, el, by simp, Nat.le_refl _, ?_, by rw [← h.len]; simp, ?_, by simp⟩, hR, hE, hK⟩
  · simp only [maxLen]; omega
  · simp only [World.shape?, heap_alloc_new]
    simp [hfl]
def q1z (T : TypeId → Option TI) (t : TypeId) : Bool := match T t with | some ti => (match ti.desc with | .slice _ => true | _ => false) | none => false
def isPtrTy (T : TypeId → Option TI) (t : TypeId) : Bool := match T t with | some ti => (match ti.desc with | .pointer _ => true | _ => false) | none => false
def gnil (T : TypeId → Option TI) (op : BinOp) (t : TypeId) (x y : AV) (s : St) : Step :=
  match op, x, y with
  | .eql, .sl _ xs, .v (.slice none _ _) => some (q1z T t = true ∧ 0 < xs.length, .v (.bool false), s)
  | .neq, .sl _ xs, .v (.slice none _ _) => some (q1z T t = true ∧ 0 < xs.length, .v (.bool true), s)
  | .eql, .v (.slice a _ _), .v (.slice none _ _) => some (q1z T t = true, .v (.bool a.isNone), s)
  | .neq, .v (.slice a _ _), .v (.slice none _ _) => some (q1z T t = true, .v (.bool a.isSome), s)
  | .eql, .ptr _ _, .v (.pointer none) => some (isPtrTy T t = true, .v (.bool false), s)
  | .neq, .ptr _ _, .v (.pointer none) => some (isPtrTy T t = true, .v (.bool true), s)
  | .eql, .v (.pointer none), .v (.pointer none) => some (isPtrTy T t = true, .v (.bool true), s)
  | .neq, .v (.pointer none), .v (.pointer none) => some (isPtrTy T t = true, .v (.bool false), s)
  | _, _, _ => none
theorem run_equal_nil {P : Program} {T : TypeId → Option TI} (hT : TyOk P T) {t : TypeId} (ht : q1z T t = true) (a : Option Addr) (n c n' c' : Nat) (w : World) : (Op.equal t (.slice a n c) (.slice none n' c')).run P w = .ok a.isNone w := by
  unfold q1z at ht
  split at ht <;> try (cases ht; done)
  rename_i ti hti
  split at ht <;> try (cases ht; done)
  rename_i el hd
  unfold Op.equal Op.maxDepth
  rw [show (10000 : Nat) = 9999 + 1 from rfl, Op.equalIn]
  cases a with
  | none => simp only [Sem.run_bind, run_underlying hT hti, Result.andThen_ok, hd, Sem.run_pure]
  | some a => simp only [Sem.run_bind, run_underlying hT hti, Result.andThen_ok, hd, Sem.run_pure, Option.isNone_some]
theorem run_equal_ptr {P : Program} {T : TypeId → Option TI} (hT : TyOk P T) {t : TypeId} (ht : isPtrTy T t = true) (p : Option Addr) (w : World) : (Op.equal t (.pointer p) (.pointer none)).run P w = .ok p.isNone w := by
  unfold isPtrTy at ht
  split at ht <;> try (cases ht; done)
  rename_i ti hti
  split at ht <;> try (cases ht; done)
  rename_i el hd
  unfold Op.equal Op.maxDepth
  rw [show (10000 : Nat) = 9999 + 1 from rfl, Op.equalIn]
  cases p with
  | none => simp [Sem.run_bind, run_underlying hT hti, Result.andThen_ok, hd, Sem.run_pure]
  | some a => simp [Sem.run_bind, run_underlying hT hti, Result.andThen_ok, hd, Sem.run_pure]
theorem gnil_sound {P : Program} {T : TypeId → Option TI} (hT : TyOk P T) {B : Nat} {ι : Loc} {s s' : St} {a : Act} {w : World} {K : AV → St → Prop} (h : Rel Hd B ι s a w) {op : BinOp} {t : TypeId} {xo yo : Operand} {x y z : AV} {xv yv : Value} {C : Prop}
    (hx : rel Hd ι w x xv) (hy : rel Hd ι w y yv) (e : gnil T op t x y s = some (C, z, s')) (hC : C) (hK : K z s') : Out P Hd L B ι a w (do eqGuard op t xo yo xv yv; binOp op t xv yv) isV K := by
  have key : ∀ (ad : Option Addr) (n c n' c' : Nat), q1z T t = true → xv = .slice ad n c → yv = .slice none n' c' → (op = .eql ∧ z = .v (.bool ad.isNone) ∨ op = .neq ∧ z = .v (.bool ad.isSome)) → s' = s →
      Out P Hd L B ι a w (do eqGuard op t xo yo xv yv; binOp op t xv yv) isV K := by
    rintro ad n c n' c' hty rfl rfl hz rfl
    have he := run_equal_nil (P := P) hT hty ad n c n' c' w
    rcases hz with ⟨rfl, rfl⟩ | ⟨rfl, rfl⟩
    · refine Out.mk' h hK (y := .bool ad.isNone) ?_ rel_v
      simp [eqGuard, binOp, he]
    · refine Out.mk' h hK (y := .bool ad.isSome) ?_ rel_v
      simp [eqGuard, binOp, he]
  have keyP : ∀ (p : Option Addr), isPtrTy T t = true → xv = .pointer p → yv = .pointer none → (op = .eql ∧ z = .v (.bool p.isNone) ∨ op = .neq ∧ z = .v (.bool p.isSome)) → s' = s →
      Out P Hd L B ι a w (do eqGuard op t xo yo xv yv; binOp op t xv yv) isV K := by
    rintro p hty rfl rfl hz rfl
    have he := run_equal_ptr (P := P) hT hty p w
    rcases hz with ⟨rfl, rfl⟩ | ⟨rfl, rfl⟩
    · refine Out.mk' h hK (y := .bool p.isNone) ?_ rel_v
      simp [eqGuard, binOp, he]
    · refine Out.mk' h hK (y := .bool p.isSome) ?_ rel_v
      simp [eqGuard, binOp, he]
  unfold gnil at e
  split at e <;> try (cases e; done)
  · cases e
    cases hy
    obtain ⟨hp, ad, cap, vs, rfl, hc, hr, hm⟩ := hx
    rcases hm with rfl | ⟨r, off, rfl, _⟩
    · exact absurd hC.2 (by simp)
    · exact key _ _ _ _ _ hC.1 rfl rfl (.inl ⟨rfl, rfl⟩) rfl
  · cases e
    cases hy
    obtain ⟨hp, ad, cap, vs, rfl, hc, hr, hm⟩ := hx
    rcases hm with rfl | ⟨r, off, rfl, _⟩
    · exact absurd hC.2 (by simp)
    · exact key _ _ _ _ _ hC.1 rfl rfl (.inr ⟨rfl, rfl⟩) rfl
  · cases e; cases hx; cases hy
    exact key _ _ _ _ _ hC rfl rfl (.inl ⟨rfl, rfl⟩) rfl
  · cases e; cases hx; cases hy
    exact key _ _ _ _ _ hC rfl rfl (.inr ⟨rfl, rfl⟩) rfl
  · cases e; cases hy
    obtain ⟨r, rfl, hb⟩ := hx
    exact keyP _ hC rfl rfl (.inl ⟨rfl, rfl⟩) rfl
  · cases e; cases hy
    obtain ⟨r, rfl, hb⟩ := hx
    exact keyP _ hC rfl rfl (.inr ⟨rfl, rfl⟩) rfl
  · cases e; cases hx; cases hy
    exact keyP _ hC rfl rfl (.inl ⟨rfl, rfl⟩) rfl
  · cases e; cases hx; cases hy
    exact keyP _ hC rfl rfl (.inr ⟨rfl, rfl⟩) rfl
structure AppRun (P : Program) (w : World) (ts : Array TypeId) (ty e : TypeId) (i : TypeInfo) (z : Value) (xv : Value) (n : Nat) (news : List Value) : Prop where
  zero : n = 0 → ∀ (base : Option Addr) (sLen sCap : Nat), sLen ≤ sCap → (Builtin.append_ ts ty #[.slice base sLen sCap, xv]).run P w = .ok (.slice base sLen sCap) w
  room : 0 < n → ∀ (g sLen sCap : Nat) (cur : Array Value), w.heap[g]? = some (.cells cur e (0, 0)) → sLen + n ≤ sCap → sLen * i.size + news.length ≤ cur.size →
    (Builtin.append_ ts ty #[.slice (some ⟨g, 0, none⟩) sLen sCap, xv]).run P w = .ok (.slice (some ⟨g, 0, none⟩) (sLen + n) sCap) (w.setRow g (cur.toList.take (sLen * i.size) ++ news ++ cur.toList.drop (sLen * i.size + news.length)).toArray)
  grow : 0 < n → ∀ (base : Option Addr) (sLen sCap : Nat) (olds : List Value), (Builtin.firstCells i.size sLen (.slice base sLen sCap)).run P w.drew = .ok olds.toArray w.drew → sCap < sLen + n → ((sLen + n : Nat) : Int) ≤ 9223372036854775807 →
    (sLen + n) * i.bytes ≤ 140737488355328 → (Builtin.append_ ts ty #[.slice base sLen sCap, xv]).run P w = .ok (.slice (some ⟨w.heap.size, 0, none⟩) (sLen + n) (grownCap w (sLen + n) sCap e))
      (w.drew.alloc (.cells (olds.toArray ++ news.toArray ++ Builtin.zeroCells z.cells (grownCap w (sLen + n) sCap e - (sLen + n))) e))
theorem appRun_elems {P : Program} {w : World} {t ty e : TypeId} {i : TypeInfo} {z : Value} (ht : P.underlying t = some (.slice e)) (hi : P.info? e = some i) (hz : i.zero = some z) {ad : Option Addr} {n cap : Nat} {vs : List Value} (hn : vs.length = n)
    (hrow : vs = [] ∨ ∃ r off, ad = some ⟨r, off, none⟩ ∧ RowAt w r off i.size vs) : AppRun P w #[t, t] ty e i z (.slice ad n cap) n (flatV vs) := by
  refine ⟨?_, ?_, ?_⟩
  · rintro rfl base sLen sCap hc
    cases base <;> cases ad <;> simp [Builtin.append_, Go.run_underlying ht, sizeOf, typeInfo, hi, Builtin.lenOf, hc, Builtin.firstCells, loadCells, loadCellsFrom, storeCells]
  · intro h0 g sLen sCap cur hg hroom hfit
    rcases hrow with rfl | ⟨r, off, rfl, hrow⟩
    · simp at hn; omega
    · exact run_append_room (P := P) w t ty e i ht hi g sLen sCap cur hg ⟨r, off, none⟩ n cap (flatV vs) (by rw [q0i _ hrow.1, hn]) (q2b hrow.2.1) hrow.2.2 hroom hfit
  · intro h0 base sLen sCap olds hold hg h63 hby
    rcases hrow with rfl | ⟨r, off, rfl, hrow⟩
    · simp at hn; omega
    · have hnn : ¬ (sLen + n ≤ sCap) := by omega
      have h63' : ¬ (9223372036854775807 < ((sLen : Int) + (n : Int))) := by omega
      have hfit := growslice_fits (need := sLen + n) (old := sCap) (bytes := i.bytes) hg hby
      have h48' : ¬ (281474976710656 < Builtin.nextslicecap (sLen + n) sCap * i.bytes) := by omega
      have hf := run_firstCells_some (P := P) w.drew i.size n ⟨r, off, none⟩ n cap (flatV vs) (by rw [q0i _ hrow.1, hn]) (fun j v hv => by simpa using q2b hrow.2.1 j v hv)
      simp [Builtin.append_, Go.run_underlying ht, sizeOf, typeInfo, zeroValue, hi, hz, Builtin.lenOf, hnn, h63', h48', Question.forced, hf, hold, newRow, grownCap]
      congr 2
      apply Array.ext'
      simp [List.append_assoc]
theorem appRun_zeros {P : Program} {w : World} {t tn ty e : TypeId} {i : TypeInfo} {z : Value} {kn kq : IntKind} (ht : P.underlying t = some (.slice e)) (htn : P.underlying tn = some (.int kn)) (hi : P.info? e = some i) (hz : i.zero = some z) {n : Nat} (hn63 : (n : Int) ≤ 9223372036854775807)
    (hnb : n * i.bytes ≤ 281474976710656) (hs : 0 < i.size) {te : TI} (hzo : te.zeroOk = true) (hzc : z.cells.toList = te.zero) (hisz : i.size = te.size) : AppRun P w #[t, tn] ty e i z (.int kq n) n (flatV (List.replicate n te.zval)) := by
  have hw : IntKind.i64.wrap (n : Int) = n := by rw [IntKind.wrap_i64]; omega
  have hneg : ¬ ((n : Int) < 0) := by omega
  have h48i : ¬ (281474976710656 < (n : Int) * (i.bytes : Int)) := by
    rw [← Int.natCast_mul]
    omega
  have hzf := q5i hzo hzc n
  have hone := zeros_one hzo n
  refine ⟨?_, ?_, ?_⟩
  · rintro rfl base sLen sCap hc
    have hw0 : IntKind.i64.wrap 0 = 0 := by rfl
    cases base <;> simp [Builtin.append_, Go.run_underlying ht, Go.run_underlying htn, sizeOf, typeInfo, hi, asInt, asIntOf, hw0, hc, storeCells]
  · intro h0 g sLen sCap cur hg hroom hfit
    have hk : n ≠ 0 := by omega
    have hns : ¬ (n * i.size = 0) := Nat.mul_ne_zero hk (by omega)
    have hst := run_storeCells_at P g (sLen * i.size) e (flatV (List.replicate n te.zval)) 0 cur w hg (by simpa using hfit) hone
    simp only [Nat.add_zero] at hst
    simp [Builtin.append_, Go.run_underlying ht, Go.run_underlying htn, sizeOf, typeInfo, zeroValue, hi, hz, asInt, asIntOf, hw, hneg, hns, h48i, hroom, hzf, Addr.add_lit, hst]
  · intro h0 base sLen sCap olds hold hg h63 hby
    have := Lib.run_append_grow_zeros (P := P) w t tn ty e i z kq kn ht htn hi hz base sLen sCap olds hold n h0 hs hg h63 hnb (growslice_fits hg hby)
    rw [hzf] at this
    exact this
def gapp (L : Nat) (e : TypeId) (te : TI) (x : AV) (ys : List AV) (s : St) : Step :=
  match x with
  | .v (.slice none 0 0) => some (te.zeroOk = true ∧ ys.length ≤ maxLen ∧ ys.length * te.bytes ≤ 140737488355328, .own s.mem.length te.size 0 ys.length, { s with mem := s.mem ++ [.row e te.size ys] })
  | .own b sz 0 len => match s.mem[b]? with
    | some (.row e' sz' xs) => some (te.zeroOk = true ∧ (L ≤ b ∧ e' = e ∧ sz = te.size ∧ sz' = te.size ∧ xs.length = len) ∧ len + ys.length ≤ maxLen ∧ (len + ys.length) * te.bytes ≤ 140737488355328,
        .own b sz 0 (len + ys.length), s.rehome b (.row e' sz' (xs ++ ys)))
    | some (.rowc e' sz' xs N) =>
      if len + ys.length ≤ N then some (te.zeroOk = true ∧ e' = e ∧ sz = te.size ∧ sz' = te.size ∧ len ≤ xs.length, .own b sz 0 (len + ys.length), { s with mem := s.mem.set b (.rowc e' sz' (q28 xs len ys) N) })
      else some (te.zeroOk = true ∧ (e' = e ∧ sz = te.size ∧ sz' = te.size ∧ len ≤ xs.length) ∧ len + ys.length ≤ maxLen ∧ (len + ys.length) * te.bytes ≤ 140737488355328,
        .own s.mem.length te.size 0 (len + ys.length), { s with mem := s.mem ++ [.row e te.size (xs.take len ++ ys)] })
    | _ => none
  | _ => none
theorem gapp_sound {P : Program} {T : TypeId → Option TI} (hT : TyOk P T) {B : Nat} {ι : Loc} {s s' : St} {a : Act} {w : World} {K : AV → St → Prop} (h : Rel Hd B ι s a w) {ts : Array TypeId} {ty e : TypeId} {te : TI} {i : TypeInfo} {zv : Value} {x z : AV} {xv yv : Value} {C : Prop}
    {ys : List AV} {vs : List Value} (hi : P.info? e = some i) (hisz : i.size = te.size) (hiby : i.bytes = te.bytes) (hzc : zv.cells.toList = te.zero)
    (hx : rel Hd ι w x xv) (hA : AppRun P w ts ty e i zv yv ys.length (flatV vs)) (hr : rels Hd ι w ys vs) (hpu : q04 ys = []) (h1 : ∀ v ∈ vs, v.cells.size = te.size) (h2 : ∀ u ∈ flatV vs, u.oneCell' = true)
    (eq : gapp L e te x ys s = some (C, z, s')) (hC : C) (hK : K z s') : Out P Hd L B ι a w (Builtin.append_ ts ty #[xv, yv]) isV K := by
  have hlv := q0b hr
  have hfl := q0i vs h1
  have fresh : ∀ (base : Option Addr) (sLen sCap : Nat) (os : List AV) (us : List Value), te.zeroOk = true → 0 < ys.length → os.length = sLen → rels Hd ι w os us → q04 os = [] → (∀ v ∈ us, v.cells.size = te.size) → (∀ u ∈ flatV us, u.oneCell' = true) →
      (Builtin.firstCells i.size sLen (.slice base sLen sCap)).run P w.drew = .ok (flatV us).toArray w.drew → sCap < sLen + ys.length → sLen + ys.length ≤ maxLen → (sLen + ys.length) * te.bytes ≤ 140737488355328 →
      xv = .slice base sLen sCap → z = .own s.mem.length te.size 0 (sLen + ys.length) → s' = { s with mem := s.mem ++ [.row e te.size (os ++ ys)] } → Out P Hd L B ι a w (Builtin.append_ ts ty #[xv, yv]) isV K := by
    rintro base sLen sCap os us hzo hpos hos hro hpo h3 h4 hold hg hm1 hm2 rfl rfl rfl
    have hrun := hA.grow hpos base sLen sCap (flatV us) hold hg (by simp only [maxLen] at hm1; omega) (by rw [hiby]; exact hm2)
    have hge := grownCap_ge w (sLen + ys.length) sCap e
    have hle := grownCap_le_maxLen w (sLen + ys.length) sCap e hm1
    have hzs : zv.cells.size = te.size := by
      have := hzo
      simp only [TI.zeroOk, Bool.and_eq_true, decide_eq_true_eq] at this
      rw [← this.1.1.1, ← hzc]; simp
    have hlo := q0b hro
    have hfo := q0i us h3
    have hall : ∀ v ∈ us ++ vs, v.cells.size = te.size := by
      intro v hv
      rcases List.mem_append.1 hv with hv | hv
      · exact h3 v hv
      · exact h1 v hv
    have hone : ∀ u ∈ flatV (us ++ vs), u.oneCell' = true := by
      intro u hu
      rw [q2k] at hu
      rcases List.mem_append.1 hu with hu | hu
      · exact h4 u hu
      · exact h2 u hu
    generalize hA' : ((flatV us).toArray ++ (flatV vs).toArray ++ Builtin.zeroCells zv.cells (grownCap w (sLen + ys.length) sCap e - (sLen + ys.length))) = A at hrun
    have hAs : A.size = grownCap w (sLen + ys.length) sCap e * te.size := by
      rw [← hA']
      simp only [Array.size_append, List.size_toArray, q2x, hzs, hfl, hfo, ← hlv, ← hlo, hos, ← Nat.add_mul]
      congr 1
      omega
    obtain ⟨hR, hE⟩ := (h.drew).grow (o := .cells A e) (blk := .row e te.size (os ++ ys)) (fun ee =>
      ⟨q1v hpo hpu, .inl ⟨w.heap.size, _, us ++ vs, by rw [← h.len]; simp, heap_alloc_new w.drew _, q0l ((q3u ι w).trans ee) h.lt _ _ (fun b hb => by rw [q1v hpo hpu] at hb; cases hb) (q10 hro hr),
        q3m (heap_alloc_new w.drew _) (rest := (Builtin.zeroCells zv.cells (grownCap w (sLen + ys.length) sCap e - (sLen + ys.length))).toList) (by rw [← hA']; simp [q2k]) hall hone⟩⟩)
    refine ⟨_, _, _, _, .own s.mem.length te.size 0 (sLen + ys.length), _, hrun, rfl, .inl ⟨w.heap.size, _, grownCap w (sLen + ys.length) sCap e * te.size, e, by simp, hge, by omega, by rw [← h.len]; simp, ?_, by simp⟩, hR, (q3u ι w).trans hE, hK⟩
    have : (w.drew.alloc (.cells A e)).heap[w.heap.size]? = _ := heap_alloc_new w.drew _
    simp only [World.shape?, this, hAs]
  unfold gapp at eq
  split at eq <;> try (cases eq; done)
  · -- onto nil
    cases eq
    cases hx
    obtain ⟨hzo, hm1, hm2⟩ := hC
    by_cases h0 : ys.length = 0
    · obtain rfl : ys = [] := List.eq_nil_of_length_eq_zero h0
      obtain ⟨hR, hE⟩ := h.growNone e te.size
      exact ⟨_, _, w, _, .own s.mem.length te.size 0 ([] : List AV).length, _, hA.zero rfl none 0 0 (Nat.le_refl _), rfl, .inr ⟨_, rfl, rfl, rfl, by rw [← h.len]; simp⟩, hR, hE, hK⟩
    · exact fresh none 0 0 [] [] hzo (by omega) rfl rfl rfl (fun v hv => by cases hv) (fun u hu => by cases hu) (by simp [Builtin.firstCells, flatV]) (by omega) (by omega) (by rw [Nat.zero_add]; exact hm2) rfl (by rw [Nat.zero_add]) rfl
  · rename_i b sz len
    split at eq <;> try (cases eq; done)
    · -- onto a row
      rename_i e' sz' xs hm
      cases eq
      obtain ⟨hzo, ⟨hLb, rfl, rfl, rfl, rfl⟩, hm1, hm2⟩ := hC
      obtain ⟨hpx, hmr⟩ := h.mem b _ hm
      have hbl : b < ι.length := by rw [h.len]; exact (List.getElem?_eq_some_iff.1 hm).1
      have hself : ∀ (b' : Nat) (o : Option Nat), b' ≠ b → ι[b']? = some o → ι[b']? = some o := fun _ _ _ x => x
      have hzs : zv.cells.size = te.size := by
        have := hzo
        simp only [TI.zeroOk, Bool.and_eq_true, decide_eq_true_eq] at this
        rw [← this.1.1.1, ← hzc]; simp
      have moved : ∀ (base : Option Addr) (sCap : Nat) (us : List Value), 0 < ys.length → rels Hd ι w xs us → (∀ v ∈ us, v.cells.size = te.size) → (∀ u ∈ flatV us, u.oneCell' = true) →
          (Builtin.firstCells i.size xs.length (.slice base xs.length sCap)).run P w.drew = .ok (flatV us).toArray w.drew → sCap < xs.length + ys.length → xv = .slice base xs.length sCap → Out P Hd L B ι a w (Builtin.append_ ts ty #[xv, yv]) isV K := by
        rintro base sCap us hpos hro h3 h4 hold hg rfl
        have hrun := hA.grow hpos base xs.length sCap (flatV us) hold hg (by simp only [maxLen] at hm1; omega) (by rw [hiby]; exact hm2)
        have hge := grownCap_ge w (xs.length + ys.length) sCap e'
        have hle := grownCap_le_maxLen w (xs.length + ys.length) sCap e' hm1
        have hlo := q0b hro
        have hfo := q0i us h3
        have hall : ∀ v ∈ us ++ vs, v.cells.size = te.size := by
          intro v hv
          rcases List.mem_append.1 hv with hv | hv
          · exact h3 v hv
          · exact h1 v hv
        have hone : ∀ u ∈ flatV (us ++ vs), u.oneCell' = true := by
          intro u hu
          rw [q2k] at hu
          rcases List.mem_append.1 hu with hu | hu
          · exact h4 u hu
          · exact h2 u hu
        obtain ⟨hR, hE⟩ := h.moved (e := e') (sz := te.size) (arr := (flatV us).toArray ++ (flatV vs).toArray ++ Builtin.zeroCells zv.cells (grownCap w (xs.length + ys.length) sCap e' - (xs.length + ys.length)))
          (rest := (Builtin.zeroCells zv.cells (grownCap w (xs.length + ys.length) sCap e' - (xs.length + ys.length))).toList) hbl (q10 hro hr) (q1v hpx hpu) hall hone (by simp [q2k]) hLb
        refine ⟨_, _, _, _, .own b te.size 0 (xs.length + ys.length), _, hrun, rfl, .inl ⟨w.heap.size, _, grownCap w (xs.length + ys.length) sCap e' * te.size, e', by simp, hge, by omega, by rw [List.getElem?_set_self hbl], ?_, by simp⟩, hR, hE, hK⟩
        have : (w.drew.alloc (.cells ((flatV us).toArray ++ (flatV vs).toArray ++ Builtin.zeroCells zv.cells (grownCap w (xs.length + ys.length) sCap e' - (xs.length + ys.length))) e')).heap[w.heap.size]? = _ := heap_alloc_new w.drew _
        simp only [World.shape?, this, Array.size_append, List.size_toArray, q2x, hzs, hfl, hfo, ← hlv, ← hlo, ← Nat.add_mul]
        congr 2
        congr 1
        omega
      rcases hx with ⟨r, cap, n, t2, rfl, hcap, hmx, hbr, hs, hn⟩ | ⟨a0, rfl, _, hx0, hb0⟩
      · rcases hmr with ⟨r', cells, us, k1, k2, k3, k4⟩ | ⟨k1, _⟩
        · obtain rfl : r = r' := by rw [hbr] at k1; simpa using k1
          have hxl := q0b k3
          have hsz : cells.size = cap * te.size := by
            simp only [World.shape?, k2, Option.some.injEq, Prod.mk.injEq] at hs
            rw [hs.2, ← hn]; simp
          by_cases h0 : ys.length = 0
          · obtain rfl : ys = [] := List.eq_nil_of_length_eq_zero h0
            have hR := h.rehome (L := L) (blk := .row e' te.size (xs ++ [])) (Ext.refl ι w) rfl hself h.lt h.inj (fun _ _ _ _ => rfl) (by rw [List.append_nil]; exact ⟨hpx, .inl ⟨r, cells, us, hbr, k2, k3, k4⟩⟩)
            exact ⟨_, _, w, ι, .own b te.size 0 (xs.length + ([] : List AV).length), _, hA.zero rfl _ _ _ hcap, rfl, .inl ⟨r, cap, n, t2, rfl, by simpa using hcap, hmx, hbr, hs, hn⟩, hR, Ext.refl _ _, hK⟩
          by_cases hroom : xs.length + ys.length ≤ cap
          · have hfx := q0i us k4.1
            have hfit : xs.length * i.size + (flatV vs).length ≤ cells.size := by
              rw [hisz, hfl, hsz, ← hlv, ← Nat.add_mul]; exact Nat.mul_le_mul_right _ hroom
            have hrun := hA.room (by omega) r xs.length cap cells k2 hroom hfit
            rw [q40 k2] at hrun
            obtain ⟨rest, hrest⟩ := cells_prefix k2 k4.2.1
            generalize hnew : (cells.toList.take (xs.length * i.size) ++ flatV vs ++ cells.toList.drop (xs.length * i.size + (flatV vs).length)).toArray = cells' at hrun
            have hcs' : cells'.size = cells.size := by
              rw [← hnew]
              simp only [List.size_toArray, List.length_append, List.length_take, List.length_drop, Array.length_toList]
              omega
            have hmemr : some r ∈ ι := List.mem_of_getElem? hbr
            have ee : Ext L ι w ι (q0m w r (.cells cells' e' (0, 0))) := by
              refine ⟨rfl, rfl, rfl, by simp [q0m], fun r' _ hne => ⟨hne, q14 ?_⟩, fun r' _ => q2l k2 hcs' r', fun _ _ _ h => h⟩
              rintro rfl; exact hne hmemr
            have hall : ∀ v ∈ us ++ vs, v.cells.size = te.size := by
              intro v hv
              rcases List.mem_append.1 hv with hv | hv
              · exact k4.1 v hv
              · exact h1 v hv
            have hone : ∀ u ∈ flatV (us ++ vs), u.oneCell' = true := by
              intro u hu
              rw [q2k] at hu
              rcases List.mem_append.1 hu with hu | hu
              · exact k4.2.2 u hu
              · exact h2 u hu
            have hcl : cells.toList.take (xs.length * i.size) = flatV us := by
              rw [hrest, hisz, hxl, ← hfx, List.take_left]
            have hR := h.rehome (blk := .row e' te.size (xs ++ ys)) ee rfl hself (fun r' hr' => Nat.lt_of_lt_of_le (h.lt r' hr') ee.size) h.inj (fun j r' hj hr' => q14 (by
                rintro rfl; exact hj (h.inj _ _ _ hr' hbr)))
              ⟨q1v hpx hpu, .inl ⟨r, cells', us ++ vs, hbr, q19 (q1n k2), q10 (q0l ee h.lt _ _ (fun _ _ _ x => x) k3) (q0l ee h.lt _ _ (fun _ _ _ x => x) hr),
                q3m (q19 (q1n k2)) (rest := cells.toList.drop (xs.length * i.size + (flatV vs).length)) (by rw [← hnew, q2k, hcl]) hall hone⟩⟩
            refine ⟨.slice (some ⟨r, 0, none⟩) (xs.length + ys.length) cap, _, _, ι, .own b te.size 0 (xs.length + ys.length), _, ?_, rfl, .inl ⟨r, cap, n, t2, by simp, hroom, hmx, hbr, ?_, hn⟩, hR, ee, hK⟩
            · simpa using hrun
            · rw [q2l k2 hcs']; exact hs
          · refine moved _ cap us (by omega) k3 k4.1 k4.2.2 ?_ (by omega) rfl
            have := q3k (P := P) (w := w.drew) (w0 := w) (sz := te.size) (k := xs.length) (n := xs.length) (cap := cap) (ad := some ⟨r, 0 * te.size, none⟩) (vs := us) rfl (by omega) (.inr ⟨r, 0 * te.size, rfl, by simpa using k4⟩)
            rw [List.take_of_length_le (by omega)] at this
            rw [hisz]; exact this
        · rw [hbr] at k1; cases k1
      · rcases hmr with ⟨r', cells, us, k1, k2, k3, k4⟩ | ⟨k1, rfl⟩
        · rw [hb0] at k1; cases k1
        by_cases h0 : ys.length = 0
        · obtain rfl : ys = [] := List.eq_nil_of_length_eq_zero h0
          have hR := h.rehome (L := L) (blk := .row e' te.size ([] ++ [])) (Ext.refl ι w) rfl hself h.lt h.inj (fun _ _ _ _ => rfl) ⟨rfl, .inr ⟨hb0, rfl⟩⟩
          exact ⟨_, _, w, ι, .own b te.size 0 (([] : List AV).length + ([] : List AV).length), _, hA.zero rfl _ _ _ (Nat.le_refl _), rfl, .inr ⟨_, rfl, rfl, rfl, hb0⟩, hR, Ext.refl _ _, hK⟩
        · refine moved a0 0 [] (by omega) rfl (fun v hv => by cases hv) (fun u hu => by cases hu) ?_ (by simp only [List.length_nil]; omega) rfl
          cases a0 <;> simp [Builtin.firstCells, flatV, loadCells, loadCellsFrom]
    · -- onto a row whose room is known
      rename_i e' sz' xs N hm
      have hmr0 := h.mem b _ hm
      obtain ⟨⟨hpx, hmr⟩, hcap0⟩ := hmr0
      split at eq
      · rename_i hNle
        cases eq
        obtain ⟨hzo, rfl, rfl, rfl, hlx⟩ := hC
        have hz2 := q4x hzo
        rcases hx with ⟨r, cap, n, t2, rfl, hcap, hmx, hbr, hs, hn⟩ | ⟨a0, rfl, _, hx0, hb0⟩
        · have hN := hcap0.cap hbr hs hn hz2.2
          rcases hmr with ⟨r', cells, us, k1, k2, k3, k4⟩ | ⟨k1, _⟩
          · obtain rfl : r = r' := by rw [hbr] at k1; simpa using k1
            have hsz : cells.size = cap * te.size := by
              simp only [World.shape?, k2, Option.some.injEq, Prod.mk.injEq] at hs
              rw [hs.2, ← hn]; simp
            by_cases h0 : ys.length = 0
            · obtain rfl : ys = [] := List.eq_nil_of_length_eq_zero h0
              have hput : q28 xs len [] = xs := by simp [q28]
              rw [hput] at hK
              have hset : ({ s with mem := s.mem.set b (.rowc e' te.size xs N) } : St) = s := by
                cases s
                simp only [St.mk.injEq, true_and]
                exact List.ext_getElem? fun j => by
                  by_cases hj : b = j
                  · subst hj; rw [List.getElem?_set_self (List.getElem?_eq_some_iff.1 hm).1]; exact hm.symm
                  · rw [List.getElem?_set_ne hj]
              rw [hset] at hK
              exact ⟨_, _, w, ι, .own b te.size 0 (len + ([] : List AV).length), _, hA.zero rfl _ _ _ hcap, rfl, .inl ⟨r, cap, n, t2, rfl, by simpa using hcap, hmx, hbr, hs, hn⟩, h, Ext.refl _ _, hK⟩
            · have hroom : len + ys.length ≤ cap := by omega
              have hfit : len * i.size + (flatV vs).length ≤ cells.size := by
                rw [hisz, hfl, hsz, ← hlv, ← Nat.add_mul]; exact Nat.mul_le_mul_right _ hroom
              have hrun := hA.room (by omega) r len cap cells k2 hroom hfit
              obtain ⟨hR, hE⟩ := h.writeSeg (L := L) hm rfl hbr k2 k3 k4 hpx (off := len) hr hpu h1 h2 hlx (by rw [hsz]; exact Nat.mul_le_mul_right _ hroom)
              rw [hisz] at hrun
              refine ⟨_, _, _, ι, .own b te.size 0 (len + ys.length), _, (by simpa using hrun), rfl, .inl ⟨r, cap, n, t2, by simp, hroom, hmx, hbr, ?_, hn⟩, hR, hE, hK⟩
              rw [hE.shape r (h.lt r (List.mem_of_getElem? hbr))]; exact hs
          · rw [hbr] at k1; cases k1
        · have hN : N = 0 := by
            rcases hcap0 with ⟨r', t', q1, _⟩ | ⟨_, q2⟩
            · rw [hb0] at q1; cases q1
            · exact q2
          subst hx0
          obtain rfl : ys = [] := List.eq_nil_of_length_eq_zero (by omega)
          have hput : q28 xs 0 [] = xs := by simp [q28]
          rw [hput] at hK
          have hset : ({ s with mem := s.mem.set b (.rowc e' te.size xs N) } : St) = s := by
            cases s
            simp only [St.mk.injEq, true_and]
            exact List.ext_getElem? fun j => by
              by_cases hj : b = j
              · subst hj; rw [List.getElem?_set_self (List.getElem?_eq_some_iff.1 hm).1]; exact hm.symm
              · rw [List.getElem?_set_ne hj]
          rw [hset] at hK
          exact ⟨_, _, w, ι, .own b te.size 0 (0 + ([] : List AV).length), _, hA.zero rfl _ _ _ (Nat.le_refl _), rfl, .inr ⟨_, rfl, rfl, rfl, hb0⟩, h, Ext.refl _ _, hK⟩
      · rename_i hNle
        cases eq
        obtain ⟨hzo, ⟨rfl, rfl, rfl, hlx⟩, hm1, hm2⟩ := hC
        have hz2 := q4x hzo
        rcases hx with ⟨r, cap, n, t2, rfl, hcap, hmx, hbr, hs, hn⟩ | ⟨a0, rfl, _, hx0, hb0⟩
        · have hN := hcap0.cap hbr hs hn hz2.2
          rcases hmr with ⟨r', cells, us, k1, k2, k3, k4⟩ | ⟨k1, _⟩
          · obtain rfl : r = r' := by rw [hbr] at k1; simpa using k1
            have hxl := q0b k3
            have hfc := q3k (P := P) (w := w.drew) (w0 := w) (sz := te.size) (k := len) (n := len) (cap := cap) (ad := some ⟨r, 0 * te.size, none⟩) (vs := us) rfl (by omega) (.inr ⟨r, 0 * te.size, rfl, by simpa using k4⟩)
            exact fresh _ len cap (xs.take len) (us.take len) hzo (by omega) (by simp; omega) (q1t _ k3) (q1s hpx _) (fun v hv => k4.1 v (List.mem_of_mem_take hv))
              (fun u hu => by obtain ⟨v, hv, hu⟩ := List.mem_flatMap.1 hu; exact k4.2.2 u (List.mem_flatMap.2 ⟨v, List.mem_of_mem_take hv, hu⟩)) (by rw [hisz]; exact hfc) (by omega) hm1 hm2 rfl rfl rfl
          · rw [hbr] at k1; cases k1
        · subst hx0
          have hxn : xs = [] := by
            rcases hmr with ⟨r', cells, us, k1, _⟩ | ⟨_, k2⟩
            · rw [hb0] at k1; cases k1
            · exact k2
          subst hxn
          have hN : N = 0 := by
            rcases hcap0 with ⟨r', t', q1, _⟩ | ⟨_, q2⟩
            · rw [hb0] at q1; cases q1
            · exact q2
          exact fresh a0 0 0 [] [] hzo (by omega) rfl rfl rfl (fun v hv => by cases hv) (fun u hu => by cases hu) (by cases a0 <;> simp [Builtin.firstCells, flatV, loadCells, loadCellsFrom]) (by omega) hm1 hm2 rfl rfl (by simp)
def gappend (T : TypeId → Option TI) (L : Nat) (ts : List TypeId) (x y : AV) (s : St) : Step :=
  match ts with
  | [t, t'] => match T t with
    | some ti => match ti.desc with
      | .slice e => match T e with
        | some te => match T t' with
          | some ti' => match ti'.desc with
            | .int _ => match y with
              | .v (.int _ n) => match gapp L e te x (List.replicate n.toNat te.zav) s with
                | some (c, z, s') => some (0 ≤ n ∧ n ≤ 9223372036854775807 ∧ n.toNat * te.bytes ≤ 281474976710656 ∧ te.zeroOk = true ∧ c, z, s')
                | none => none
              | _ => none
            | .slice _ => match gelems s y te.size with
              | some (c1, ys) => match gapp L e te x ys s with
                | some (c, z, s') => some (t' = t ∧ c1 ∧ c, z, s')
                | none => none
              | none => none
            | _ => none
          | none => none
        | none => none
      | _ => none
    | none => none
  | _ => none
theorem gappend_sound {P : Program} {T : TypeId → Option TI} (hT : TyOk P T) {B : Nat} {ι : Loc} {s s' : St} {a : Act} {w : World} {K : AV → St → Prop} (h : Rel Hd B ι s a w) {ts : Array TypeId} {ty : TypeId} {x y z : AV} {xv yv : Value} {C : Prop}
    (hx : rel Hd ι w x xv) (hy : rel Hd ι w y yv) (e : gappend T L ts.toList x y s = some (C, z, s')) (hC : C) (hK : K z s') : Out P Hd L B ι a w (Builtin.append_ ts ty #[xv, yv]) isV K := by
  unfold gappend at e
  split at e <;> try (cases e; done)
  rename_i t t' hts
  obtain rfl : ts = #[t, t'] := by rw [← Array.toArray_toList (xs := ts), hts]
  split at e <;> try (cases e; done)
  rename_i ti ht
  split at e <;> try (cases e; done)
  rename_i el hd
  split at e <;> try (cases e; done)
  rename_i te hte
  split at e <;> try (cases e; done)
  rename_i ti' ht'
  obtain ⟨_, i, zv, hi, hisz, hiby, hiz, hzc⟩ := hT el te hte
  have hu : P.underlying t = some (.slice el) := by rw [(hT t ti ht).1, hd]
  split at e <;> try (cases e; done)
  · rename_i kn hd'
    have htn : P.underlying t' = some (.int kn) := by rw [(hT t' ti' ht').1, hd']
    split at e <;> try (cases e; done)
    rename_i kq n
    split at e <;> try (cases e; done)
    rename_i c z1 s1 hg
    cases e
    cases hy
    obtain ⟨h0, hn1, hn2, hzo, hc⟩ := hC
    obtain ⟨j, rfl⟩ := Int.eq_ofNat_of_zero_le h0
    simp only [Int.toNat_natCast] at hn2 hg
    have hA := appRun_zeros (P := P) (w := w) (ty := ty) (kq := kq) hu htn hi hiz (n := j) hn1 (by rw [hiby]; exact hn2) (by rw [hisz]; exact (q4x hzo).2) hzo hzc hisz
    exact gapp_sound hT h hi hisz hiby hzc hx (ys := List.replicate j te.zav) (vs := List.replicate j te.zval) (by rw [List.length_replicate]; exact hA) (rels_zeros j) (refs_zeros j) (zeros_size hzo j) (zeros_one hzo j) hg hc hK
  · rename_i el' hd'
    split at e <;> try (cases e; done)
    rename_i c1 ys hys
    split at e <;> try (cases e; done)
    rename_i c z1 s1 hg
    cases e
    obtain ⟨rfl, hc1, hc⟩ := hC
    obtain ⟨ad, ycap, vs, rfl, hpu, hr, hrow⟩ := gelems_sound h hy hys hc1
    have hlv := q0b hr
    have hA := appRun_elems (P := P) (w := w) (ty := ty) hu hi hiz (ad := ad) (n := ys.length) (cap := ycap) (vs := vs) hlv.symm (by
      rw [hisz]
      rcases hrow with rfl | hrow
      · exact .inl (by simpa using hlv.symm)
      · exact .inr hrow)
    have h1 : ∀ v ∈ vs, v.cells.size = te.size := by
      rcases hrow with rfl | ⟨_, _, _, hrow⟩
      · intro v hv
        have : vs = [] := by simpa using hlv.symm
        rw [this] at hv; cases hv
      · exact hrow.1
    have h2 : ∀ u ∈ flatV vs, u.oneCell' = true := by
      rcases hrow with rfl | ⟨_, _, _, hrow⟩
      · intro u hu
        have : vs = [] := by simpa using hlv.symm
        rw [this] at hu; cases hu
      · exact hrow.2.2
    exact gapp_sound hT h hi hisz hiby hzc hx hA hr hpu h1 h2 hg hc hK
def shlF (k : IntKind) (m n : Int) : Int := k.wrap (m * 2 ^ (min n.toNat k.bits))
def shrF (k : IntKind) (m n : Int) : Int := m.fdiv (2 ^ (min n.toNat k.bits))
def andF (k : IntKind) (m n : Int) : Int := k.wrap ((BitVec.ofInt k.bits m &&& BitVec.ofInt k.bits n).toNat)
def orF (k : IntKind) (m n : Int) : Int := k.wrap ((BitVec.ofInt k.bits m ||| BitVec.ofInt k.bits n).toNat)
def xorF (k : IntKind) (m n : Int) : Int := k.wrap ((BitVec.ofInt k.bits m ^^^ BitVec.ofInt k.bits n).toNat)
def andNotF (k : IntKind) (m n : Int) : Int := k.wrap ((BitVec.ofInt k.bits m &&& ~~~(BitVec.ofInt k.bits n)).toNat)
def gbits (op : BinOp) (x y : AV) (s : St) : Step :=
  match op, x, y with
  | .shl, .v (.int k m), .v (.int _ n) => some (0 ≤ n, .v (.int k (shlF k m n)), s)
  | .shr, .v (.int k m), .v (.int _ n) => some (0 ≤ n, .v (.int k (shrF k m n)), s)
  | .and, .v (.int k m), .v (.int k' n) => some (k = k', .v (.int k (andF k m n)), s)
  | .or, .v (.int k m), .v (.int k' n) => some (k = k', .v (.int k (orF k m n)), s)
  | .xor, .v (.int k m), .v (.int k' n) => some (k = k', .v (.int k (xorF k m n)), s)
  | .andNot, .v (.int k m), .v (.int k' n) => some (k = k', .v (.int k (andNotF k m n)), s)
  | .gtr, .v (.string p), .v (.string q) => some (True, .v (.bool (!(Op.bytesLess p.toList q.toList || p.toList == q.toList))), s)
  | .leq, .v (.string p), .v (.string q) => some (True, .v (.bool (Op.bytesLess p.toList q.toList || p.toList == q.toList)), s)
  | .geq, .v (.string p), .v (.string q) => some (True, .v (.bool (!(Op.bytesLess p.toList q.toList))), s)
  | _, _, _ => none
theorem gbits_sound {P : Program} {B : Nat} {ι : Loc} {s s' : St} {a : Act} {w : World} {K : AV → St → Prop} (h : Rel Hd B ι s a w) {op : BinOp} {t : TypeId} {xo yo : Operand} {x y z : AV} {xv yv : Value} {C : Prop}
    (hx : rel Hd ι w x xv) (hy : rel Hd ι w y yv) (e : gbits op x y s = some (C, z, s')) (hC : C) (hK : K z s') : Out P Hd L B ι a w (do eqGuard op t xo yo xv yv; binOp op t xv yv) isV K := by
  unfold gbits at e
  split at e <;> try (cases e; done)
  all_goals
    cases e
    cases hx
    cases hy
  · have hn : ¬ _ < (0 : Int) := Int.not_lt.2 hC
    exact Out.mk' h hK (by simp [eqGuard, binOp, Op.shift, hn, shlF]) rel_v
  · have hn : ¬ _ < (0 : Int) := Int.not_lt.2 hC
    exact Out.mk' h hK (by simp [eqGuard, binOp, Op.shift, hn, shrF]) rel_v
  · cases hC; exact Out.mk' h hK (by simp [eqGuard, binOp, Op.intBits, andF]) rel_v
  · cases hC; exact Out.mk' h hK (by simp [eqGuard, binOp, Op.intBits, orF]) rel_v
  · cases hC; exact Out.mk' h hK (by simp [eqGuard, binOp, Op.intBits, xorF]) rel_v
  · cases hC; exact Out.mk' h hK (by simp [eqGuard, binOp, Op.intBits, andNotF]) rel_v
  · exact Out.mk' h hK (by simp [eqGuard, binOp, Op.stringOp]) rel_v
  · exact Out.mk' h hK (by simp [eqGuard, binOp, Op.stringOp]) rel_v
  · exact Out.mk' h hK (by simp [eqGuard, binOp, Op.stringOp]) rel_v
def gbin (T : TypeId → Option TI) (op : BinOp) (t : TypeId) (x y : AV) (s : St) : Step :=
  match gnil T op t x y s with
  | some r => some r
  | none => gbits op x y s
theorem gbin_sound {P : Program} {T : TypeId → Option TI} (hT : TyOk P T) {B : Nat} {ι : Loc} {s s' : St} {a : Act} {w : World} {K : AV → St → Prop} (h : Rel Hd B ι s a w) {op : BinOp} {t : TypeId} {xo yo : Operand} {x y z : AV} {xv yv : Value} {C : Prop}
    (hx : rel Hd ι w x xv) (hy : rel Hd ι w y yv) (e : gbin T op t x y s = some (C, z, s')) (hC : C) (hK : K z s') : Out P Hd L B ι a w (do eqGuard op t xo yo xv yv; binOp op t xv yv) isV K := by
  unfold gbin at e
  split at e
  · rename_i r hr
    cases e
    exact gnil_sound hT h hx hy hr hC hK
  · exact gbits_sound h hx hy e hC hK
def optEv (s : St) : Option Operand → Option AV
  | none => none
  | some x => some (s.ev x)
theorem q3x {s : St} (o : Option Operand) : optEv s o = o.map s.ev := by cases o <;> rfl
def fpre (T : TypeId → Option TI) (o : Op) (s : St) : Step :=
  match o with
  | .slice t x lo hi mx => gsliceR T t (s.ev x) (optEv s lo) (optEv s hi) (optEv s mx) s
  | _ => none
def fpost (T : TypeId → Option TI) (L : Nat) (o : Op) (s : St) : Step :=
  match o with
  | .makeSlice t l c => gmake T t (s.ev l) (s.ev c) s
  | .call { callee := .builtin b, args := args, argTypes := ts } => match b with
    | .append => match args.toList with
      | [x, y] => gappend T L ts.toList (s.ev x) (s.ev y) s
      | _ => none
    | .cap => match args.toList, ts.toList with
      | [x], [t] => gcap T t (s.ev x) s
      | _, _ => none
    | .copy => match args.toList, ts.toList with
      | [x, y], [t, _] => gcopy T t (s.ev x) (s.ev y) s
      | _, _ => none
    | .clear => match args.toList, ts.toList with
      | [x], [t] => gclear T t (s.ev x) s
      | _, _ => none
    | _ => none
  | _ => none
end Go.Proofs.YtdkcpcflfnakdaaGreat.Sym
