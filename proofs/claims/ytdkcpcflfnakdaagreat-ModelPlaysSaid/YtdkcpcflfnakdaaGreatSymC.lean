/- A text of the walk that proves a law of this seat; joined by a program. -/
import Derived.Test.YtdkcpcflfnakdaaGreatSymB
set_option linter.unusedSimpArgs false
set_option linter.unusedVariables false
namespace Go.Proofs.YtdkcpcflfnakdaaGreat.Sym
open Go Go.RowKit
variable {L : Nat} {Hd : Nat → Prop}
variable {B c : Nat} {K : AV → St → Prop} {P : Program} {T : TypeId → Option TI} {a : Act} {cs : List AV} {s : St} {t : TypeId} {w : World} {x : AV} {xv : Value} {ι : Loc}
def Out {α : Type} (P : Program) (Hd : Nat → Prop) (L B : Nat) (ι : Loc) (a : Act) (w : World) (m : Sem α) (ok : α → Value → Prop) (K : AV → St → Prop) : Prop :=
 ∃ r y w' ι' x s', m.run P w = .ok r w' ∧ ok r y ∧ rel Hd ι' w' x y ∧ Rel Hd B ι' s' a w' ∧ Ext L ι w ι' w' ∧ K x s'
abbrev isV (r y : Value) : Prop := r = y
theorem Out.pure {m : Sem Value} (h : Rel Hd B ι s a w) {y : Value} (hr : m.run P w = .ok y w) (hx : rel Hd ι w x y) (hK : K x s) : Out P Hd L B ι a w m isV K :=
 ⟨y, y, w, ι, x, s, hr, rfl, hx, h, Ext.refl _ _, hK⟩
theorem q1n {y : Value} : rel Hd ι w (.v y) y := (rfl : y = y)
mutual
def aval : AV → Option Value
 | .v x => some x
 | .agg xs => (q41 xs).map fun vs => .agg vs.toArray
 | .tup xs => (q41 xs).map fun vs => .tuple vs.toArray
 | _ => none
def q41 : List AV → Option (List Value)
 | [] => some []
 | x :: xs => match aval x, q41 xs with
  | some v, some vs => some (v :: vs)
  | _, _ => none
end
mutual
theorem q81 : ∀ {x : AV} {y v : Value}, rel Hd ι w x y → aval x = some v → y = v
 | .v _, _, _, h, e => by cases h; simpa [aval] using e
 | .agg xs, _, _, h, e => by
  obtain ⟨vs, rfl, h⟩ := h
  simp only [aval, z46] at e
  obtain ⟨us, e, rfl⟩ := e
  rw [qfb h e]
 | .tup xs, _, _, h, e => by
  obtain ⟨vs, rfl, h⟩ := h
  simp only [aval, z46] at e
  obtain ⟨us, e, rfl⟩ := e
  rw [qfb h e]
 | .sl _ _, _, _, _, e => by simp [aval] at e
 | .rp _, _, _, _, e => by simp [aval] at e
 | .own _ _ _ _, _, _, _, e => by simp [aval] at e
 | .ptr _ _, _, _, _, e => by simp [aval] at e
 | .ep _ _ _ _, _, _, _, e => by simp [aval] at e
 | .fn _ _, _, _, _, e => by simp [aval] at e
 | .any, _, _, _, e => by simp [aval] at e
theorem qfb : ∀ {xs : List AV} {ys vs : List Value}, rels Hd ι w xs ys → q41 xs = some vs → ys = vs
 | [], _, _, h, e => by cases h; simpa [q41] using e
 | x :: xs, _, _, h, e => by
  obtain ⟨y, zs, rfl, h1, h2⟩ := h
  simp only [q41] at e
  cases hx : aval x with
  | none => simp [hx] at e
  | some v =>
   cases hxs : q41 xs with
   | none => simp [hx, hxs] at e
   | some us =>
    simp only [hx, hxs, z1d] at e
    subst e
    rw [q81 h1 hx, qfb h2 hxs]
end
def qke (c x y : AV) (s : St) (K : AV → St → Prop) : Prop :=
 match c with
 | .v (.bool c) => match x, y with
  | .v (.bool p), .v (.bool q) => K (.v (.bool (bif c then p else q))) s
  | x, y => (c = true → K x s) ∧ (c = false → K y s)
 | _ => False
theorem qrk (h : Rel Hd B ι s a w) {c y : AV} {cv yv : Value} (hc : rel Hd ι w c cv) (hx : rel Hd ι w x xv) (hy : rel Hd ι w y yv) (hK : qke c x y s K) : Out P Hd L B ι a w (do pure (if ← asBool cv then xv else yv)) isV K := by
 unfold qke at hK
 split at hK
 · rename_i c
   cases hc
   split at hK
   · cases hx; cases hy
     refine Out.pure h ?_ q1n hK
     cases c <;> simp [asBool]
   · cases c
     · exact Out.pure h (by simp [asBool]) hy (hK.2 rfl)
     · exact Out.pure h (by simp [asBool]) hx (hK.1 rfl)
 · exact hK.elim
def qgu (T : TypeId → Option TI) (t : TypeId) (s : St) (K : AV → St → Prop) : Prop :=
 match T t with
 | some ti => K (.ptr s.mem.length 0) { s with mem := s.mem ++ [.box (ti.zero.map .v)] }
 | none => False
theorem qtt (h : Rel Hd B ι s a w) {m : Sem Value} {vs : Array Value} (hr : m.run P w = .ok (.pointer (some ⟨w.heap.size, 0, none⟩)) (w.alloc (.cells vs t))) (hv : rels Hd ι w cs vs.toList) (hK : K (.ptr s.mem.length 0) { s with mem := s.mem ++ [.box cs] }) : Out P Hd L B ι a w m isV K := by
 have hk : ∀ (b : Nat) (o : Option Nat), ι[b]? = some o → (ι ++ [some w.heap.size])[b]? = some o := fun b o hb => by
  rw [z0j (z08.1 hb).1]; exact hb
 obtain ⟨hR, hE⟩ := h.grow (o := .cells vs t) (blk := .box cs) (fun e =>
  ⟨w.heap.size, t, vs, by rw [← h.len]; simp, heap_alloc_new w _, q0l e h.lt _ _ (fun b _ o => hk b o) hv⟩)
 exact ⟨_, _, _, _, .ptr s.mem.length 0, _, hr, rfl, ⟨w.heap.size, rfl, by rw [← h.len]; simp⟩, hR, hE, hK⟩
theorem qpu (hT : TyOk P T) (h : Rel Hd B ι s a w) (hK : qgu T t s K) : Out P Hd L B ι a w (Instr.alloc t true (.tuple #[])) isV K := by
 unfold qgu at hK
 split at hK
 · rename_i ti ht
   obtain ⟨z, hz, hz2⟩ := q3x hT ht w
   refine qtt h (vs := z.cells) (t := t) (cs := ti.zero.map .v) ?_ (by rw [hz2]; exact qar.2 rfl) hK
   simp only [Instr.alloc, z0s, hz, z0b, newVar, newRow, run_newObj, z15]
   rfl
 · exact hK.elim
def abox (x : AV) (s : St) (K : AV → St → Prop) : Prop := x.known = true ∧ K (.ptr s.mem.length 0) { s with mem := s.mem ++ [.box x.cells] }
theorem quz (h : Rel Hd B ι s a w) (hx : rel Hd ι w x xv) (hK : abox x s K) : Out P Hd L B ι a w (Instr.box t xv) isV K := by
 refine qtt h (vs := xv.cells) (t := t) ?_ (q6h hx (AV.known_ne hK.1)) hK.2
 simp only [Instr.box, z0s, z0b, newVar, newRow, run_newObj, z15]
 rfl
theorem q0k {sz : Nat} : ∀ (vs : List Value), (∀ v ∈ vs, v.cells.size = sz) → (q04 vs).length = vs.length * sz
 | [], _ => by simp [q04]
 | v :: vs, h => by
  have ih := q0k vs (fun v hv => h v (by simp [hv]))
  have h0 := h v (by simp)
  unfold q04 at ih ⊢
  simp only [z3l, z0c, z1g, z02, ih, h0]
  rw [z25]; omega
theorem qb0 {sz : Nat} (vs : List Value) (h : ∀ v ∈ vs, v.cells.size = sz) {i j : Nat} (hi : i < vs.length) (hj : j < sz) : (q04 vs)[i * sz + j]? = (vs[i]?).bind fun v => v.cells[j]? := by
 have e : (q04 vs)[i * sz + j]? = ((q04 vs).drop (i * sz))[j]? := by rw [List.getElem?_drop]
 have h0 := h vs[i] (z1i hi)
 rw [e, ← q9e vs i h, z2i hi]
 unfold q04
 rw [z3l, z0j (by simp only [z1g]; omega), z05 hi]
 simp
theorem q6t {r t : Nat} {cells : Array Value} {f : Nat × Nat} {vs : List Value} (h : w.heap[r]? = some (.cells cells t f)) (hc : q22 w r 0 vs) : vs.length ≤ cells.size := by
 rcases z5f vs.length with h0 | hp
 · omega
 · have := hc (vs.length - 1) (by omega)
   simp only [World.cell?, h, z33, z0n, if_false, z16] at this
   have := (z1t.1 this).1
   omega
mutual
def AV.pure : AV → Bool
 | .agg xs => q18 xs
 | .tup xs => q18 xs
 | .own _ _ _ _ => false
 | .ptr _ _ => false
 | .ep _ _ _ _ => false
 | .fn _ caps => q18 caps
 | .any => false
 | _ => true
def q18 : List AV → Bool
 | [] => true
 | x :: xs => x.pure && q18 xs
end
def q64 (e : AV) (c : Nat) (xs : List AV) : AV :=
 match e with
 | .agg cs => .agg (q5c cs c xs)
 | _ => xs.headD .any
def qg8 (T : TypeId → Option TI) (t : TypeId) (p x : AV) (s : St) (K : AV → St → Prop) : Prop :=
 match T t with
 | none => False
 | some ti => x.known = true ∧ x.cells.length = ti.size ∧ x.cells.all AV.flat = true ∧
  match p with
  | .ptr b c => match s.mem[b]? with
   | some (.box cs) => c + ti.size ≤ cs.length ∧ K .any { s with mem := s.mem.set b (.box (q5c cs c x.cells)) }
   | _ => False
  | .ep b sz i c => match s.mem[b]? with
   | some (.row t' sz' xs) => sz = sz' ∧ c + ti.size ≤ sz ∧ x.pure = true ∧ ∃ h : i < xs.length, xs[i].known = true ∧ (xs[i].cells.length = sz) ∧ (match xs[i] with | .agg _ => True | _ => c = 0 ∧ sz = 1 ∧ ti.size = 1) ∧
    K .any { s with mem := s.mem.set b (.row t' sz' (xs.set i (q64 xs[i] c x.cells))) }
   | _ => False
  | _ => False
mutual
theorem qfn : ∀ {x : AV} {y : Value}, rel Hd ι w x y → x.pure = true → x.refs = []
 | .v _, _, _, _ => rfl
 | .agg xs, _, h, hp => by obtain ⟨vs, rfl, h⟩ := h; exact q2o h hp
 | .tup xs, _, h, hp => by obtain ⟨vs, rfl, h⟩ := h; exact q2o h hp
 | .sl _ _, _, h, _ => h.1
 | .rp _, _, h, _ => h.1
 | .own _ _ _ _, _, _, hp => by simp [AV.pure] at hp
 | .ptr _ _, _, _, hp => by simp [AV.pure] at hp
 | .ep _ _ _ _, _, _, hp => by simp [AV.pure] at hp
 | .fn _ caps, _, h, hp => by obtain ⟨vs, rfl, h⟩ := h; exact q2o h hp
 | .any, _, _, hp => by simp [AV.pure] at hp
theorem q2o : ∀ {xs : List AV} {ys : List Value}, rels Hd ι w xs ys → q18 xs = true → q05 xs = []
 | [], _, _, _ => rfl
 | x :: xs, _, h, hp => by
  obtain ⟨y, zs, rfl, h1, h2⟩ := h
  simp only [q18, z0d] at hp
  simp only [q05, qfn h1 hp.1, q2o h2 hp.2, z0i]
end
theorem qmh {xs : List AV} (h : q05 cs = []) (k : q05 xs = []) : q05 (q5c cs c xs) = [] :=
 q2h (q2h (q2e h _) k) (q25 h _)
theorem qr5 {e : AV} (h : e.refs = []) (k : q05 x.cells = []) : (q64 e c x.cells).refs = [] := by
 unfold q64
 split
 · exact qmh (by simpa [AV.refs] using h) k
 · cases hx : x.cells with
   | nil => rfl
   | cons y ys => rw [hx] at k; exact q0x.1 k y (by simp)
theorem qdq {xs : List AV} {vs : Array Value} {us : List Value} (h1 : rels Hd ι w cs vs.toList) (h2 : rels Hd ι w xs us) (hl : c + xs.length ≤ cs.length) :
 rels Hd ι w (q5c cs c xs) (q1h vs c us).toList := by
 have e : (q1h vs c us).toList = vs.toList.take c ++ us ++ vs.toList.drop (c + us.length) := by
  have hus := q0h h2
  have hvs := q0h h1
  apply z1e
  intro i
  rw [z3d, q68 us vs c i (by simp at hvs; omega)]
  have hvs' : cs.length = vs.size := by simpa using hvs
  by_cases c1 : i < c
  · rw [if_pos c1, z1r, z0j (by simp; omega), z5g]; simp [c1]
  · rw [if_neg c1]
    by_cases c2 : i < c + us.length
    · rw [if_pos c2, z1r, z18 (by simp; omega), z0j (by simp; omega)]
      congr 1; simp; omega
    · rw [if_neg c2, z18 (by simp; omega), List.getElem?_drop]
      simp only [z3d]
      congr 1; simp; omega
 rw [e]
 unfold q5c
 rw [q0h h2]
 exact q13 (q13 (q2c _ h1) h2) (q1u _ h1)
theorem qb3 : ∀ {xs : List AV} {ys : List Value}, rels Hd ι w xs ys → xs.all AV.flat = true → ∀ y ∈ ys, y.oneCell' = true
 | [], _, h, _ => by cases h; simp
 | x :: xs, _, h, hf => by
  obtain ⟨y, zs, rfl, h1, h2⟩ := h
  simp only [z35, z0d] at hf
  intro y' hy'
  rcases z26.1 hy' with rfl | hy'
  · exact qj5 h1 hf.1
  · exact qb3 h2 hf.2 y' hy'
abbrev isU (_ : Unit) (y : Value) : Prop := y = undef
theorem qix (hT : TyOk P T) {ti : TI} (ht : T t = some ti) {r o : Nat} {cs : Array Value} {bt : TypeId} {v : Value} (h : w.heap[r]? = some (.cells cs bt (0, 0))) (hs : v.cells.size = ti.size) (hl : o + ti.size ≤ cs.size) (hf : ∀ u ∈ v.cells.toList, u.oneCell' = true) :
 (Instr.storeAt t (.pointer (some ⟨r, o, none⟩)) v).run P w = .ok () (q0m w r (.cells (q1h cs o v.cells.toList) bt (0, 0))) := by
 have := qef (P := P) (r := r) (o := o) (t := bt) v.cells.toList 0 cs w h (by simp; omega) hf
 simp only [Instr.storeAt, Instr.sureAddr, storeVar, z0s, z15, z0b, q10 hT ht]
 rw [if_neg (by simpa using hs)]
 simpa using this
theorem qpv (hT : TyOk P T) (h : Rel Hd B ι s a w) {p : AV} {pv : Value} (hp : rel Hd ι w p pv) (hx : rel Hd ι w x xv) (hK : qg8 T t p x s K) : Out P Hd L B ι a w (Instr.storeAt t pv xv) isU K := by
 unfold qg8 at hK
 cases ht : T t with
 | none => simp [ht] at hK
 | some ti =>
  simp only [ht] at hK
  obtain ⟨hk, hl, hf, hK⟩ := hK
  have hc := q6h hx (AV.known_ne hk)
  have hfl := qb3 hc hf
  have hsz : xv.cells.size = ti.size := by have := q0h hc; simp only [z1g] at this; omega
  cases p with
  | ptr b c =>
   obtain ⟨r, rfl, hb⟩ := hp
   simp only at hK
   cases hm : s.mem[b]? with
   | none => simp [hm] at hK
   | some blk =>
    cases blk with
    | box cs =>
     simp only [hm] at hK
     obtain ⟨r', bt, vs, h1, h2, h3⟩ := h.mem b _ hm
     obtain rfl : r = r' := by rw [hb] at h1; simpa using h1
     have hvs := q0h h3
     simp only [z1g] at hvs
     have hrun := qix (P := P) hT ht (o := c) h2 hsz (by omega) hfl
     obtain ⟨hR, hE⟩ := h.update (cs' := q1h vs c xv.cells.toList) (blk' := .box (q5c cs c x.cells)) hb h2 (q8v _ _ _) (fun e =>
      ⟨r, bt, _, hb, q1i (q26 h2), qdq (q0l e h.lt _ _ (fun _ _ _ z => z) h3) (q0l e h.lt _ _ (fun _ _ _ z => z) hc) (by omega)⟩)
     exact ⟨_, undef, _, ι, .any, _, hrun, rfl, True.intro, hR, hE, hK.2⟩
    | row bt sz xs => simp [hm] at hK
    | gone => simp [hm] at hK
    | rowc _ _ _ _ => simp [hm] at hK
    | tr _ _ => simp [hm] at hK
  | ep b sz i c =>
   obtain ⟨r, rfl, hb⟩ := hp
   simp only at hK
   cases hm : s.mem[b]? with
   | none => simp [hm] at hK
   | some blk =>
    cases blk with
    | row bt sz' xs =>
     simp only [hm] at hK
     obtain ⟨rfl, hcs, hpx, hi, hkn, hcl, hag, hK⟩ := hK
     obtain ⟨hpu, hrow⟩ := h.mem b _ hm
     rcases hrow with ⟨r', cells, vs, h1, h2, h3, h4⟩ | ⟨h1, rfl⟩
     · obtain rfl : r = r' := by rw [hb] at h1; simpa using h1
       have hi' : i < vs.length := by rw [← q0h h3]; exact hi
       obtain ⟨y, hy1, hy2⟩ := q9r h3 (z05 hi)
       have hy : vs[i] = y := by
        rw [z05 hi'] at hy1; simpa using hy1
       subst hy
       have hys : vs[i].cells.size = sz := h4.1 _ (z1i hi')
       have hlen := q0k vs h4.1
       have hfit : (i * sz + c) + ti.size ≤ cells.size := by
        have hle : (i + 1) * sz ≤ vs.length * sz := z1w _ hi'
        rw [z25] at hle
        have := q6t h2 h4.2.1
        omega
       have hrun := qix (P := P) hT ht (o := i * sz + c) h2 hsz hfit hfl
       obtain ⟨y', hy's, hy'g, hy'r⟩ : ∃ y' : Value, y'.cells.size = sz ∧ (∀ j, j < sz → y'.cells[j]? = (q1h vs[i].cells c xv.cells.toList)[j]?) ∧
        ∀ w', rels Hd ι w' xs[i].cells vs[i].cells.toList → rels Hd ι w' x.cells xv.cells.toList → rel Hd ι w' (q64 xs[i] c x.cells) y' := by
        have key : ∀ e : AV, rel Hd ι w e vs[i] → e.cells.length = sz → (match e with | .agg _ => True | _ => c = 0 ∧ sz = 1 ∧ ti.size = 1) →
         ∃ y' : Value, y'.cells.size = sz ∧ (∀ j, j < sz → y'.cells[j]? = (q1h vs[i].cells c xv.cells.toList)[j]?) ∧
          ∀ w', rels Hd ι w' e.cells vs[i].cells.toList → rels Hd ι w' x.cells xv.cells.toList → rel Hd ι w' (q64 e c x.cells) y' := by
         intro e he hel hcase
         by_cases hagg : ∃ cs, e = .agg cs
         · obtain ⟨cs, rfl⟩ := hagg
           refine ⟨.agg (q1h vs[i].cells c xv.cells.toList), by simp [Value.cells, q8v] ; exact hys, fun j _ => rfl, fun w' q1 q2 => ⟨(q1h vs[i].cells c xv.cells.toList).toList, by simp, ?_⟩⟩
           exact qdq q1 q2 (by simp only [AV.cells] at hel; omega)
         · have hcase' : c = 0 ∧ sz = 1 ∧ ti.size = 1 := by
            cases e <;> first | exact hcase | exact absurd ⟨_, rfl⟩ hagg
           obtain ⟨rfl, rfl, hts⟩ := hcase'
           have hx1 : xv.cells.toList.length = 1 := by simp only [z1g]; omega
           obtain ⟨u, hu⟩ := z4u.1 hx1
           have hu1 : u.oneCell' = true := hfl u (by rw [hu]; simp)
           have huc : u.cells = #[u] := by cases u <;> first | rfl | (simp [Value.oneCell'] at hu1)
           refine ⟨u, by rw [huc]; rfl, ?_, ?_⟩
           · intro j hj
             obtain rfl : j = 0 := by omega
             rw [hu, q68 _ _ _ _ (by simp; omega), huc]
             simp
           · intro w' _ q2
             have e1 : q64 e 0 x.cells = x.cells.headD .any := by
              cases e <;> first | rfl | exact absurd ⟨_, rfl⟩ hagg
             rw [e1]
             rw [hu] at q2
             have hxl : x.cells.length = 1 := by omega
             obtain ⟨x0, hx0⟩ := z4u.1 hxl
             rw [hx0] at q2 ⊢
             obtain ⟨y0, z0, e0, q3, _⟩ := q2
             cases e0
             exact q3
        exact key _ hy2 hcl hag
       obtain ⟨hR, hE⟩ := h.update (cs' := q1h cells (i * sz + c) xv.cells.toList) (blk' := .row bt sz (xs.set i (q64 xs[i] c x.cells))) hb h2 (q8v _ _ _) (fun e => by
        have q1 : rels Hd ι _ xs[i].cells vs[i].cells.toList := q0l e h.lt _ _ (fun _ _ _ z => z) (q6h hy2 (AV.known_ne hkn))
        have q2 : rels Hd ι _ x.cells xv.cells.toList := q0l e h.lt _ _ (fun _ _ _ z => z) hc
        refine ⟨qi0 hpu i (qr5 (q0x.1 hpu _ (z1i hi)) (qks (qfn hx hpx))), .inl ⟨r, _, vs.set i y', hb, q1i (q26 h2), qbw i (q0l e h.lt _ _ (fun _ _ _ z => z) h3) (hy'r _ q1 q2), ?_, ?_, ?_⟩⟩
        · intro v hv
          rcases z1z hv with hv | rfl
          · exact h4.1 v hv
          · exact hy's
        · intro k hk
          have hall : ∀ v ∈ vs.set i y', v.cells.size = sz := by
           intro v hv
           rcases z1z hv with hv | rfl
           · exact h4.1 v hv
           · exact hy's
          have hkl : k < vs.length * sz := by rw [q0k _ hall] at hk; simpa using hk
          have hsz0 : 0 < sz := by
           rcases z5f sz with rfl | hp
           · simp at hkl
           · exact hp
          have hq : k / sz < vs.length := z59 (by rw [z4d]; exact hkl)
          have hj : k % sz < sz := Nat.mod_lt _ hsz0
          have hk2 : k / sz * sz + k % sz = k := by rw [z4d]; exact z5v k sz
          have hold := h4.2.1 k (by rw [hlen]; exact hkl)
          have hold' : cells[k]? = (q04 vs)[k]? := by
           rw [z05 (by rw [hlen]; exact hkl), ← hold]
           simp [World.cell?, h2]
          have hcell : World.cell? (q0m w r (.cells (q1h cells (i * sz + c) xv.cells.toList) bt (0, 0))) ⟨r, 0 + k, none⟩ = (q1h cells (i * sz + c) xv.cells.toList)[k]? := by
           simp [World.cell?, q1i (q26 h2)]
          rw [hcell, ← z05 hk, q68 _ _ _ _ (by simp only [z1g]; omega), hold', ← hk2, qb0 vs h4.1 hq hj, qb0 _ hall (by simpa using hq) hj]
          simp only [z1g, hsz]
          by_cases hqi : k / sz = i
          · rw [hqi]
            simp only [z0m hi', z4i, z05 hi']
            rw [hy'g _ hj, q68 _ _ _ _ (by simp only [z1g]; omega)]
            simp only [z1g, hsz]
            by_cases c1 : k % sz < c
            · rw [if_pos (by omega), if_pos c1]
            · rw [if_neg (by omega), if_neg c1]
              by_cases c2 : k % sz < c + ti.size
              · rw [if_pos (by omega), if_pos c2]; congr 1; omega
              · rw [if_neg (by omega), if_neg c2]
          · rw [z0e (z37 hqi)]
            rcases z5e hqi with hlt | hgt
            · have : (k / sz + 1) * sz ≤ i * sz := z1w _ hlt
              rw [z25] at this
              rw [if_pos (by omega)]
            · have : (i + 1) * sz ≤ k / sz * sz := z1w _ hgt
              rw [z25] at this
              rw [if_neg (by omega), if_neg (by omega)]
        · intro u hu
          obtain ⟨v, hv, hu'⟩ := z27.1 hu
          clear hu
          rcases z1z hv with hv | rfl
          · exact h4.2.2 u (z27.2 ⟨v, hv, hu'⟩)
          · obtain ⟨j, hj⟩ := z1m hu'
            have hjl : j < sz := by have := (z08.1 hj).1; simp only [z1g] at this; omega
            have hj2 := hy'g j hjl
            rw [z3d] at hj
            rw [hj, q68 _ _ _ _ (by simp only [z1g]; omega)] at hj2
            have hold : ∀ u', vs[i].cells[j]? = some u' → u'.oneCell' = true := fun u' hu' => h4.2.2 u' (z27.2 ⟨vs[i], z1i hi', by
             obtain ⟨hlt, rfl⟩ := z1t.1 hu'; simp⟩)
            split at hj2
            · exact hold u hj2.symm
            · split at hj2
              · exact hfl u (z06 hj2.symm)
              · exact hold u hj2.symm)
       exact ⟨_, undef, _, ι, .any, _, hrun, rfl, True.intro, hR, hE, hK⟩
     · simp at hi
    | box cs => simp [hm] at hK
    | gone => simp [hm] at hK
    | rowc _ _ _ _ => simp [hm] at hK
    | tr _ _ => simp [hm] at hK
  | _ => simp at hK
