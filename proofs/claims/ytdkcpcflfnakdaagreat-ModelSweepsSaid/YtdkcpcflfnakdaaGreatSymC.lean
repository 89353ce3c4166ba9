/- A text of the walk that proves a law of this seat; joined by a program. -/
import Derived.Test.YtdkcpcflfnakdaaGreatSymB
set_option linter.unusedSimpArgs false
set_option linter.unusedVariables false
namespace Go.Proofs.YtdkcpcflfnakdaaGreat.Sym
open Go Go.RowKit
variable {L : Nat} {Hd : Nat → Prop}
def Out {α : Type} (P : Program) (Hd : Nat → Prop) (L B : Nat) (ι : Loc) (a : Act) (w : World) (m : Sem α) (ok : α → Value → Prop) (K : AV → St → Prop) : Prop :=
  ∃ r y w' ι' x s', m.run P w = .ok r w' ∧ ok r y ∧ rel Hd ι' w' x y ∧ Rel Hd B ι' s' a w' ∧ Ext L ι w ι' w' ∧ K x s'
abbrev isV (r y : Value) : Prop := r = y
theorem Out.pure {P : Program} {B : Nat} {ι : Loc} {s : St} {a : Act} {w : World} {m : Sem Value} {K : AV → St → Prop} (h : Rel Hd B ι s a w) {x : AV} {y : Value}
    (hr : m.run P w = .ok y w) (hx : rel Hd ι w x y) (hK : K x s) : Out P Hd L B ι a w m isV K :=
  ⟨y, y, w, ι, x, s, hr, rfl, hx, h, Ext.refl _ _, hK⟩
theorem rel_v {ι : Loc} {w : World} {y : Value} : rel Hd ι w (.v y) y := (rfl : y = y)
mutual
def aval : AV → Option Value
  | .v x => some x
  | .agg xs => (avals xs).map fun vs => .agg vs.toArray
  | .tup xs => (avals xs).map fun vs => .tuple vs.toArray
  | _ => none
def avals : List AV → Option (List Value)
  | [] => some []
  | x :: xs => match aval x, avals xs with
    | some v, some vs => some (v :: vs)
    | _, _ => none
end
mutual
theorem rel_aval {ι : Loc} {w : World} : ∀ {x : AV} {y v : Value}, rel Hd ι w x y → aval x = some v → y = v
  | .v _, _, _, h, e => by cases h; simpa [aval] using e
  | .agg xs, _, _, h, e => by
    obtain ⟨vs, rfl, h⟩ := h
    simp only [aval, Option.map_eq_some_iff] at e
    obtain ⟨us, e, rfl⟩ := e
    rw [rels_avals h e]
  | .tup xs, _, _, h, e => by
    obtain ⟨vs, rfl, h⟩ := h
    simp only [aval, Option.map_eq_some_iff] at e
    obtain ⟨us, e, rfl⟩ := e
    rw [rels_avals h e]
  | .sl _ _, _, _, _, e => by simp [aval] at e
  | .rp _, _, _, _, e => by simp [aval] at e
  | .own _ _ _ _, _, _, _, e => by simp [aval] at e
  | .ptr _ _, _, _, _, e => by simp [aval] at e
  | .ep _ _ _ _, _, _, _, e => by simp [aval] at e
  | .fn _ _, _, _, _, e => by simp [aval] at e
  | .any, _, _, _, e => by simp [aval] at e
theorem rels_avals {ι : Loc} {w : World} : ∀ {xs : List AV} {ys vs : List Value}, rels Hd ι w xs ys → avals xs = some vs → ys = vs
  | [], _, _, h, e => by cases h; simpa [avals] using e
  | x :: xs, _, _, h, e => by
    obtain ⟨y, zs, rfl, h1, h2⟩ := h
    simp only [avals] at e
    cases hx : aval x with
    | none => simp [hx] at e
    | some v =>
      cases hxs : avals xs with
      | none => simp [hx, hxs] at e
      | some us =>
        simp only [hx, hxs, Option.some.injEq] at e
        subst e
        rw [rel_aval h1 hx, rels_avals h2 hxs]
end
def apick (c x y : AV) (s : St) (K : AV → St → Prop) : Prop :=
  match c with
  | .v (.bool c) => match x, y with
    | .v (.bool p), .v (.bool q) => K (.v (.bool (bif c then p else q))) s
    | x, y => (c = true → K x s) ∧ (c = false → K y s)
  | _ => False
theorem apick_sound {P : Program} {B : Nat} {ι : Loc} {s : St} {a : Act} {w : World} {K : AV → St → Prop} (h : Rel Hd B ι s a w) {c x y : AV} {cv xv yv : Value}
    (hc : rel Hd ι w c cv) (hx : rel Hd ι w x xv) (hy : rel Hd ι w y yv) (hK : apick c x y s K) : Out P Hd L B ι a w (do pure (if ← asBool cv then xv else yv)) isV K := by
  unfold apick at hK
  split at hK
  · rename_i c
    cases hc
    split at hK
    · cases hx; cases hy
      refine Out.pure h ?_ rel_v hK
      cases c <;> simp [asBool]
    · cases c
      · exact Out.pure h (by simp [asBool]) hy (hK.2 rfl)
      · exact Out.pure h (by simp [asBool]) hx (hK.1 rfl)
  · exact hK.elim
def aalloc (T : TypeId → Option TI) (t : TypeId) (s : St) (K : AV → St → Prop) : Prop :=
  match T t with
  | some ti => K (.ptr s.mem.length 0) { s with mem := s.mem ++ [.box (ti.zero.map .v)] }
  | none => False
theorem box_out {P : Program} {B : Nat} {ι : Loc} {s : St} {a : Act} {w : World} {K : AV → St → Prop} (h : Rel Hd B ι s a w) {m : Sem Value} {cs : List AV} {vs : Array Value} {t : TypeId}
    (hr : m.run P w = .ok (.pointer (some ⟨w.heap.size, 0, none⟩)) (w.alloc (.cells vs t))) (hv : rels Hd ι w cs vs.toList)
    (hK : K (.ptr s.mem.length 0) { s with mem := s.mem ++ [.box cs] }) : Out P Hd L B ι a w m isV K := by
  have hk : ∀ (b : Nat) (o : Option Nat), ι[b]? = some o → (ι ++ [some w.heap.size])[b]? = some o := fun b o hb => by
    rw [List.getElem?_append_left (List.getElem?_eq_some_iff.1 hb).1]; exact hb
  obtain ⟨hR, hE⟩ := h.grow (o := .cells vs t) (blk := .box cs) (fun e =>
    ⟨w.heap.size, t, vs, by rw [← h.len]; simp, heap_alloc_new w _, q0l e h.lt _ _ (fun b _ o => hk b o) hv⟩)
  exact ⟨_, _, _, _, .ptr s.mem.length 0, _, hr, rfl, ⟨w.heap.size, rfl, by rw [← h.len]; simp⟩, hR, hE, hK⟩
theorem aalloc_sound {P : Program} {T : TypeId → Option TI} (hT : TyOk P T) {B : Nat} {ι : Loc} {s : St} {a : Act} {w : World} {K : AV → St → Prop} (h : Rel Hd B ι s a w) {t : TypeId}
    (hK : aalloc T t s K) : Out P Hd L B ι a w (Instr.alloc t true (.tuple #[])) isV K := by
  unfold aalloc at hK
  split at hK
  · rename_i ti ht
    obtain ⟨z, hz, hz2⟩ := q2y hT ht w
    refine box_out h (vs := z.cells) (t := t) (cs := ti.zero.map .v) ?_ (by rw [hz2]; exact rels_v.2 rfl) hK
    simp only [Instr.alloc, Sem.run_bind, hz, Result.andThen_ok, newVar, newRow, run_newObj, Sem.run_pure]
    rfl
  · exact hK.elim
def abox (x : AV) (s : St) (K : AV → St → Prop) : Prop := x.known = true ∧ K (.ptr s.mem.length 0) { s with mem := s.mem ++ [.box x.cells] }
theorem abox_sound {P : Program} {B : Nat} {ι : Loc} {s : St} {a : Act} {w : World} {K : AV → St → Prop} (h : Rel Hd B ι s a w) {t : TypeId} {x : AV} {xv : Value} (hx : rel Hd ι w x xv)
    (hK : abox x s K) : Out P Hd L B ι a w (Instr.box t xv) isV K := by
  refine box_out h (vs := xv.cells) (t := t) ?_ (q4h hx (AV.known_ne hK.1)) hK.2
  simp only [Instr.box, Sem.run_bind, Result.andThen_ok, newVar, newRow, run_newObj, Sem.run_pure]
  rfl
theorem q0i {sz : Nat} : ∀ (vs : List Value), (∀ v ∈ vs, v.cells.size = sz) → (flatV vs).length = vs.length * sz
  | [], _ => by simp [flatV]
  | v :: vs, h => by
    have ih := q0i vs (fun v hv => h v (by simp [hv]))
    have h0 := h v (by simp)
    unfold flatV at ih ⊢
    simp only [List.flatMap_cons, List.length_append, Array.length_toList, List.length_cons, ih, h0]
    rw [Nat.add_mul]; omega
theorem flatV_get {sz : Nat} (vs : List Value) (h : ∀ v ∈ vs, v.cells.size = sz) {i j : Nat} (hi : i < vs.length) (hj : j < sz) : (flatV vs)[i * sz + j]? = (vs[i]?).bind fun v => v.cells[j]? := by
  have e : (flatV vs)[i * sz + j]? = ((flatV vs).drop (i * sz))[j]? := by rw [List.getElem?_drop]
  have h0 := h vs[i] (List.getElem_mem hi)
  rw [e, ← flatV_drop vs i h, List.drop_eq_getElem_cons hi]
  unfold flatV
  rw [List.flatMap_cons, List.getElem?_append_left (by simp only [Array.length_toList]; omega), List.getElem?_eq_getElem hi]
  simp
theorem q4j {w : World} {r t : Nat} {cells : Array Value} {f : Nat × Nat} {vs : List Value} (h : w.heap[r]? = some (.cells cells t f)) (hc : q1l w r 0 vs) : vs.length ≤ cells.size := by
  rcases Nat.eq_zero_or_pos vs.length with h0 | hp
  · omega
  · have := hc (vs.length - 1) (by omega)
    simp only [World.cell?, h, Option.isSome_none, Bool.false_eq_true, if_false, Nat.zero_add] at this
    have := (Array.getElem?_eq_some_iff.1 this).1
    omega
mutual
def AV.pure : AV → Bool
  | .agg xs => q0r xs
  | .tup xs => q0r xs
  | .own _ _ _ _ => false
  | .ptr _ _ => false
  | .ep _ _ _ _ => false
  | .fn _ caps => q0r caps
  | .any => false
  | _ => true
def q0r : List AV → Bool
  | [] => true
  | x :: xs => x.pure && q0r xs
end
def esplice (e : AV) (c : Nat) (xs : List AV) : AV :=
  match e with
  | .agg cs => .agg (splice cs c xs)
  | _ => xs.headD .any
def astore (T : TypeId → Option TI) (t : TypeId) (p x : AV) (s : St) (K : AV → St → Prop) : Prop :=
  match T t with
  | none => False
  | some ti => x.known = true ∧ x.cells.length = ti.size ∧ x.cells.all AV.flat = true ∧
    match p with
    | .ptr b c => match s.mem[b]? with
      | some (.box cs) => c + ti.size ≤ cs.length ∧ K .any { s with mem := s.mem.set b (.box (splice cs c x.cells)) }
      | _ => False
    | .ep b sz i c => match s.mem[b]? with
      | some (.row t' sz' xs) => sz = sz' ∧ c + ti.size ≤ sz ∧ x.pure = true ∧ ∃ h : i < xs.length, xs[i].known = true ∧ (xs[i].cells.length = sz) ∧ (match xs[i] with | .agg _ => True | _ => c = 0 ∧ sz = 1 ∧ ti.size = 1) ∧
          K .any { s with mem := s.mem.set b (.row t' sz' (xs.set i (esplice xs[i] c x.cells))) }
      | _ => False
    | _ => False
mutual
theorem pure_refs {ι : Loc} {w : World} : ∀ {x : AV} {y : Value}, rel Hd ι w x y → x.pure = true → x.refs = []
  | .v _, _, _, _ => rfl
  | .agg xs, _, h, hp => by obtain ⟨vs, rfl, h⟩ := h; exact q25 h hp
  | .tup xs, _, h, hp => by obtain ⟨vs, rfl, h⟩ := h; exact q25 h hp
  | .sl _ _, _, h, _ => h.1
  | .rp _, _, h, _ => h.1
  | .own _ _ _ _, _, _, hp => by simp [AV.pure] at hp
  | .ptr _ _, _, _, hp => by simp [AV.pure] at hp
  | .ep _ _ _ _, _, _, hp => by simp [AV.pure] at hp
  | .fn _ caps, _, h, hp => by obtain ⟨vs, rfl, h⟩ := h; exact q25 h hp
  | .any, _, _, hp => by simp [AV.pure] at hp
theorem q25 {ι : Loc} {w : World} : ∀ {xs : List AV} {ys : List Value}, rels Hd ι w xs ys → q0r xs = true → q04 xs = []
  | [], _, _, _ => rfl
  | x :: xs, _, h, hp => by
    obtain ⟨y, zs, rfl, h1, h2⟩ := h
    simp only [q0r, Bool.and_eq_true] at hp
    simp only [q04, pure_refs h1 hp.1, q25 h2 hp.2, List.append_nil]
end
theorem refsAll_splice {cs xs : List AV} {c : Nat} (h : q04 cs = []) (k : q04 xs = []) : q04 (splice cs c xs) = [] :=
  q1v (q1v (q1s h _) k) (q1m h _)
theorem esplice_pure {e x : AV} {c : Nat} (h : e.refs = []) (k : q04 x.cells = []) : (esplice e c x.cells).refs = [] := by
  unfold esplice
  split
  · exact refsAll_splice (by simpa [AV.refs] using h) k
  · cases hx : x.cells with
    | nil => rfl
    | cons y ys => rw [hx] at k; exact q0z.1 k y (by simp)
theorem rels_splice {ι : Loc} {w : World} {cs xs : List AV} {vs : Array Value} {us : List Value} {c : Nat} (h1 : rels Hd ι w cs vs.toList) (h2 : rels Hd ι w xs us) (hl : c + xs.length ≤ cs.length) :
    rels Hd ι w (splice cs c xs) (q18 vs c us).toList := by
  have e : (q18 vs c us).toList = vs.toList.take c ++ us ++ vs.toList.drop (c + us.length) := by
    have hus := q0b h2
    have hvs := q0b h1
    apply List.ext_getElem?
    intro i
    rw [Array.getElem?_toList, q4a us vs c i (by simp at hvs; omega)]
    have hvs' : cs.length = vs.size := by simpa using hvs
    by_cases c1 : i < c
    · rw [if_pos c1, List.append_assoc, List.getElem?_append_left (by simp; omega), List.getElem?_take]; simp [c1]
    · rw [if_neg c1]
      by_cases c2 : i < c + us.length
      · rw [if_pos c2, List.append_assoc, List.getElem?_append_right (by simp; omega), List.getElem?_append_left (by simp; omega)]
        congr 1; simp; omega
      · rw [if_neg c2, List.getElem?_append_right (by simp; omega), List.getElem?_drop]
        simp only [Array.getElem?_toList]
        congr 1; simp; omega
  rw [e]
  unfold splice
  rw [q0b h2]
  exact q10 (q10 (q1t _ h1) h2) (q1i _ h1)
theorem rels_all_flat {ι : Loc} {w : World} : ∀ {xs : List AV} {ys : List Value}, rels Hd ι w xs ys → xs.all AV.flat = true → ∀ y ∈ ys, y.oneCell' = true
  | [], _, h, _ => by cases h; simp
  | x :: xs, _, h, hf => by
    obtain ⟨y, zs, rfl, h1, h2⟩ := h
    simp only [List.all_cons, Bool.and_eq_true] at hf
    intro y' hy'
    rcases List.mem_cons.1 hy' with rfl | hy'
    · exact rel_flat h1 hf.1
    · exact rels_all_flat h2 hf.2 y' hy'
abbrev isU (_ : Unit) (y : Value) : Prop := y = undef
theorem run_storeAt {P : Program} {T : TypeId → Option TI} (hT : TyOk P T) {t : TypeId} {ti : TI} (ht : T t = some ti) {r o : Nat} {cs : Array Value} {bt : TypeId} {w : World} {v : Value}
    (h : w.heap[r]? = some (.cells cs bt (0, 0))) (hs : v.cells.size = ti.size) (hl : o + ti.size ≤ cs.size) (hf : ∀ u ∈ v.cells.toList, u.oneCell' = true) :
    (Instr.storeAt t (.pointer (some ⟨r, o, none⟩)) v).run P w = .ok () (q0m w r (.cells (q18 cs o v.cells.toList) bt (0, 0))) := by
  have := run_storeCells (P := P) (r := r) (o := o) (t := bt) v.cells.toList 0 cs w h (by simp; omega) hf
  simp only [Instr.storeAt, Instr.sureAddr, storeVar, Sem.run_bind, Sem.run_pure, Result.andThen_ok, q0x hT ht]
  rw [if_neg (by simpa using hs)]
  simpa using this
theorem astore_sound {P : Program} {T : TypeId → Option TI} (hT : TyOk P T) {B : Nat} {ι : Loc} {s : St} {a : Act} {w : World} {K : AV → St → Prop} (h : Rel Hd B ι s a w) {t : TypeId} {p x : AV} {pv xv : Value}
    (hp : rel Hd ι w p pv) (hx : rel Hd ι w x xv) (hK : astore T t p x s K) : Out P Hd L B ι a w (Instr.storeAt t pv xv) isU K := by
  unfold astore at hK
  cases ht : T t with
  | none => simp [ht] at hK
  | some ti =>
    simp only [ht] at hK
    obtain ⟨hk, hl, hf, hK⟩ := hK
    have hc := q4h hx (AV.known_ne hk)
    have hfl := rels_all_flat hc hf
    have hsz : xv.cells.size = ti.size := by have := q0b hc; simp only [Array.length_toList] at this; omega
    cases p with
    | ptr b c =>
      obtain ⟨r, rfl, hb⟩ := hp
      simp only at hK
      cases hm : s.mem[b]? with
      | none => simp [hm] at hK
      | some blk =>
        cases blk with
        | box cs =>
          simp only [hm] at hK
          obtain ⟨r', bt, vs, h1, h2, h3⟩ := h.mem b _ hm
          obtain rfl : r = r' := by rw [hb] at h1; simpa using h1
          have hvs := q0b h3
          simp only [Array.length_toList] at hvs
          have hrun := run_storeAt (P := P) hT ht (o := c) h2 hsz (by omega) hfl
          obtain ⟨hR, hE⟩ := h.update (cs' := q18 vs c xv.cells.toList) (blk' := .box (splice cs c x.cells)) hb h2 (q5b _ _ _) (fun e =>
            ⟨r, bt, _, hb, q19 (q1n h2), rels_splice (q0l e h.lt _ _ (fun _ _ _ z => z) h3) (q0l e h.lt _ _ (fun _ _ _ z => z) hc) (by omega)⟩)
          exact ⟨_, undef, _, ι, .any, _, hrun, rfl, True.intro, hR, hE, hK.2⟩
        | row bt sz xs => simp [hm] at hK
        | gone => simp [hm] at hK
        | rowc _ _ _ _ => simp [hm] at hK
        | tr _ _ => simp [hm] at hK
    | ep b sz i c =>
      obtain ⟨r, rfl, hb⟩ := hp
      simp only at hK
      cases hm : s.mem[b]? with
      | none => simp [hm] at hK
      | some blk =>
        cases blk with
        | row bt sz' xs =>
          simp only [hm] at hK
          obtain ⟨rfl, hcs, hpx, hi, hkn, hcl, hag, hK⟩ := hK
          obtain ⟨hpu, hrow⟩ := h.mem b _ hm
          rcases hrow with ⟨r', cells, vs, h1, h2, h3, h4⟩ | ⟨h1, rfl⟩
          · obtain rfl : r = r' := by rw [hb] at h1; simpa using h1
            have hi' : i < vs.length := by rw [← q0b h3]; exact hi
            obtain ⟨y, hy1, hy2⟩ := rels_get h3 (List.getElem?_eq_getElem hi)
            have hy : vs[i] = y := by
              rw [List.getElem?_eq_getElem hi'] at hy1; simpa using hy1
            subst hy
            have hys : vs[i].cells.size = sz := h4.1 _ (List.getElem_mem hi')
            have hlen := q0i vs h4.1
            have hfit : (i * sz + c) + ti.size ≤ cells.size := by
              have hle : (i + 1) * sz ≤ vs.length * sz := Nat.mul_le_mul_right _ hi'
              rw [Nat.add_mul] at hle
              have := q4j h2 h4.2.1
              omega
            have hrun := run_storeAt (P := P) hT ht (o := i * sz + c) h2 hsz hfit hfl
            obtain ⟨y', hy's, hy'g, hy'r⟩ : ∃ y' : Value, y'.cells.size = sz ∧ (∀ j, j < sz → y'.cells[j]? = (q18 vs[i].cells c xv.cells.toList)[j]?) ∧
                ∀ w', rels Hd ι w' xs[i].cells vs[i].cells.toList → rels Hd ι w' x.cells xv.cells.toList → rel Hd ι w' (esplice xs[i] c x.cells) y' := by
              have key : ∀ e : AV, rel Hd ι w e vs[i] → e.cells.length = sz → (match e with | .agg _ => True | _ => c = 0 ∧ sz = 1 ∧ ti.size = 1) →
                  ∃ y' : Value, y'.cells.size = sz ∧ (∀ j, j < sz → y'.cells[j]? = (q18 vs[i].cells c xv.cells.toList)[j]?) ∧
                    ∀ w', rels Hd ι w' e.cells vs[i].cells.toList → rels Hd ι w' x.cells xv.cells.toList → rel Hd ι w' (esplice e c x.cells) y' := by
                intro e he hel hcase
                by_cases hagg : ∃ cs, e = .agg cs
                · obtain ⟨cs, rfl⟩ := hagg
                  refine ⟨.agg (q18 vs[i].cells c xv.cells.toList), by simp [Value.cells, q5b] ; exact hys, fun j _ => rfl, fun w' q1 q2 => ⟨(q18 vs[i].cells c xv.cells.toList).toList, by simp, ?_⟩⟩
                  exact rels_splice q1 q2 (by simp only [AV.cells] at hel; omega)
                · have hcase' : c = 0 ∧ sz = 1 ∧ ti.size = 1 := by
                    cases e <;> first | exact hcase | exact absurd ⟨_, rfl⟩ hagg
                  obtain ⟨rfl, rfl, hts⟩ := hcase'
                  have hx1 : xv.cells.toList.length = 1 := by simp only [Array.length_toList]; omega
                  obtain ⟨u, hu⟩ := List.length_eq_one_iff.1 hx1
                  have hu1 : u.oneCell' = true := hfl u (by rw [hu]; simp)
                  have huc : u.cells = #[u] := by cases u <;> first | rfl | (simp [Value.oneCell'] at hu1)
                  refine ⟨u, by rw [huc]; rfl, ?_, ?_⟩
                  · intro j hj
                    obtain rfl : j = 0 := by omega
                    rw [hu, q4a _ _ _ _ (by simp; omega), huc]
                    simp
                  · intro w' _ q2
                    have e1 : esplice e 0 x.cells = x.cells.headD .any := by
                      cases e <;> first | rfl | exact absurd ⟨_, rfl⟩ hagg
                    rw [e1]
                    rw [hu] at q2
                    have hxl : x.cells.length = 1 := by omega
                    obtain ⟨x0, hx0⟩ := List.length_eq_one_iff.1 hxl
                    rw [hx0] at q2 ⊢
                    obtain ⟨y0, z0, e0, q3, _⟩ := q2
                    cases e0
                    exact q3
              exact key _ hy2 hcl hag
            obtain ⟨hR, hE⟩ := h.update (cs' := q18 cells (i * sz + c) xv.cells.toList) (blk' := .row bt sz (xs.set i (esplice xs[i] c x.cells))) hb h2 (q5b _ _ _) (fun e => by
              have q1 : rels Hd ι _ xs[i].cells vs[i].cells.toList := q0l e h.lt _ _ (fun _ _ _ z => z) (q4h hy2 (AV.known_ne hkn))
              have q2 : rels Hd ι _ x.cells xv.cells.toList := q0l e h.lt _ _ (fun _ _ _ z => z) hc
              refine ⟨refsAll_set hpu i (esplice_pure (q0z.1 hpu _ (List.getElem_mem hi)) (refs_cells (pure_refs hx hpx))), .inl ⟨r, _, vs.set i y', hb, q19 (q1n h2), rels_set i (q0l e h.lt _ _ (fun _ _ _ z => z) h3) (hy'r _ q1 q2), ?_, ?_, ?_⟩⟩
              · intro v hv
                rcases List.mem_or_eq_of_mem_set hv with hv | rfl
                · exact h4.1 v hv
                · exact hy's
              · intro k hk
                have hall : ∀ v ∈ vs.set i y', v.cells.size = sz := by
                  intro v hv
                  rcases List.mem_or_eq_of_mem_set hv with hv | rfl
                  · exact h4.1 v hv
                  · exact hy's
                have hkl : k < vs.length * sz := by rw [q0i _ hall] at hk; simpa using hk
                have hsz0 : 0 < sz := by
                  rcases Nat.eq_zero_or_pos sz with rfl | hp
                  · simp at hkl
                  · exact hp
                have hq : k / sz < vs.length := Nat.div_lt_of_lt_mul (by rw [Nat.mul_comm]; exact hkl)
                have hj : k % sz < sz := Nat.mod_lt _ hsz0
                have hk2 : k / sz * sz + k % sz = k := by rw [Nat.mul_comm]; exact Nat.div_add_mod k sz
                have hold := h4.2.1 k (by rw [hlen]; exact hkl)
                have hold' : cells[k]? = (flatV vs)[k]? := by
                  rw [List.getElem?_eq_getElem (by rw [hlen]; exact hkl), ← hold]
                  simp [World.cell?, h2]
                have hcell : World.cell? (q0m w r (.cells (q18 cells (i * sz + c) xv.cells.toList) bt (0, 0))) ⟨r, 0 + k, none⟩ = (q18 cells (i * sz + c) xv.cells.toList)[k]? := by
                  simp [World.cell?, q19 (q1n h2)]
                rw [hcell, ← List.getElem?_eq_getElem hk, q4a _ _ _ _ (by simp only [Array.length_toList]; omega), hold', ← hk2, flatV_get vs h4.1 hq hj, flatV_get _ hall (by simpa using hq) hj]
                simp only [Array.length_toList, hsz]
                by_cases hqi : k / sz = i
                · rw [hqi]
                  simp only [List.getElem?_set_self hi', Option.bind_some, List.getElem?_eq_getElem hi']
                  rw [hy'g _ hj, q4a _ _ _ _ (by simp only [Array.length_toList]; omega)]
                  simp only [Array.length_toList, hsz]
                  by_cases c1 : k % sz < c
                  · rw [if_pos (by omega), if_pos c1]
                  · rw [if_neg (by omega), if_neg c1]
                    by_cases c2 : k % sz < c + ti.size
                    · rw [if_pos (by omega), if_pos c2]; congr 1; omega
                    · rw [if_neg (by omega), if_neg c2]
                · rw [List.getElem?_set_ne (Ne.symm hqi)]
                  rcases Nat.lt_or_gt_of_ne hqi with hlt | hgt
                  · have : (k / sz + 1) * sz ≤ i * sz := Nat.mul_le_mul_right _ hlt
                    rw [Nat.add_mul] at this
                    rw [if_pos (by omega)]
                  · have : (i + 1) * sz ≤ k / sz * sz := Nat.mul_le_mul_right _ hgt
                    rw [Nat.add_mul] at this
                    rw [if_neg (by omega), if_neg (by omega)]
              · intro u hu
                obtain ⟨v, hv, hu'⟩ := List.mem_flatMap.1 hu
                clear hu
                rcases List.mem_or_eq_of_mem_set hv with hv | rfl
                · exact h4.2.2 u (List.mem_flatMap.2 ⟨v, hv, hu'⟩)
                · obtain ⟨j, hj⟩ := List.getElem?_of_mem hu'
                  have hjl : j < sz := by have := (List.getElem?_eq_some_iff.1 hj).1; simp only [Array.length_toList] at this; omega
                  have hj2 := hy'g j hjl
                  rw [Array.getElem?_toList] at hj
                  rw [hj, q4a _ _ _ _ (by simp only [Array.length_toList]; omega)] at hj2
                  have hold : ∀ u', vs[i].cells[j]? = some u' → u'.oneCell' = true := fun u' hu' => h4.2.2 u' (List.mem_flatMap.2 ⟨vs[i], List.getElem_mem hi', by
                    obtain ⟨hlt, rfl⟩ := Array.getElem?_eq_some_iff.1 hu'; simp⟩)
                  split at hj2
                  · exact hold u hj2.symm
                  · split at hj2
                    · exact hfl u (List.mem_of_getElem? hj2.symm)
                    · exact hold u hj2.symm)
            exact ⟨_, undef, _, ι, .any, _, hrun, rfl, True.intro, hR, hE, hK⟩
          · simp at hi
        | box cs => simp [hm] at hK
        | gone => simp [hm] at hK
        | rowc _ _ _ _ => simp [hm] at hK
        | tr _ _ => simp [hm] at hK
    | _ => simp at hK
end Go.Proofs.YtdkcpcflfnakdaaGreat.Sym
