/- A text of the walk that proves a law of this seat; joined by a program. -/
import Derived.Test.YtdkcpcflfnakdaaGreatSymX
import Derived.RangeFuncIn
import Derived.RangeFuncRecord
set_option linter.unusedSimpArgs false
set_option linter.unusedVariables false
namespace Go.Proofs.YtdkcpcflfnakdaaGreat.Sym
open Go Go.RowKit
variable {L : Nat} {Hd Hd' : Nat → Prop}
variable {c : Code} {fn : Func} {full : List (List AV)} {s : St} {w : World}
def itAl (full : List (List AV)) (g : List (List AV) × Bool) (x : List AV) : Prop := g.2 = false ∧ (g.1 ++ [x]) <+: full ∧ q05 x = []
def itAn (g : List (List AV) × Bool) (x : List AV) (b : Bool) : List (List AV) × Bool := (g.1 ++ [x], !b)
def qh7 (P : Program) (gf : FuncId) (caps : List AV) (full : List (List AV)) : Prop :=
 qdy P gf ∧ ∀ (y : Value) (Y : Yie P 0 (itAl full) itAn y) (Hd : Nat → Prop) (w : World) (vs : List Value), Y.B0 ≤ w.heap.size → (∀ r, Hd r → r < w.heap.size) → GlobOk Hd [] w → rels Hd [] w caps vs → Y.J ([], false) Hd [] w →
  Calls P gf (y :: vs).toArray w fun e w' => ∃ v g Hd' ι', e = .returned v ∧ Y.J g Hd' ι' w' ∧ g.1 <+: full ∧ (g.2 = false → g.1 = full)
def itK (full : List (List AV)) : AExit → St → List (List AV) × Bool → Prop
 | .exit _, _, _ => False
 | _, _, g => g.1 <+: full ∧ (g.2 = false → g.1 = full)
theorem qd0 {P : Program} {T : TypeId → Option TI} (hT : TyOk P T) {gf : FuncId} (hf : P.funcs[gf]? = some fn) (hb : fn.body = some c) (hname : (fn.name == "runtime.NumGoroutine") = false) (hres : fn.results = #[]) {caps : List AV} (h : ∀ (y : Value) (K : AExit → St → List (List AV) × Bool → Prop), (∀ e s g, itK full e s g → K e s g) → goY P T 0 (itAl full) itAn y true [.code c] ⟨.v y :: caps ++ List.replicate (fn.ntmps - (caps.length + 1)) .any, []⟩ ([], false) K) :
 qh7 P gf caps full := by
 refine ⟨⟨fn, hf, by rw [hb]; rfl, hname⟩, fun y Y Hd w vs hB0 hH hG hR hJ => ?_⟩
 have hlen := q0h hR
 have h1 : q4p P T 0 (itAl full) itAn y true c ⟨.v y :: caps ++ List.replicate (fn.ntmps - (caps.length + 1)) .any, []⟩ ([], false) (itK full) := h y _ (fun _ _ _ hh => hh)
 have hR0 : Rel Hd w.heap.size [] ⟨.v y :: caps ++ List.replicate (fn.ntmps - (caps.length + 1)) .any, []⟩ { tmps := (y :: vs).toArray ++ Array.replicate (fn.ntmps - (y :: vs).toArray.size) undef, defers := [] } w := by
  refine ⟨rfl, (fun r hr => by cases hr), (fun i j r hi _ => by simp at hi), ?_, (fun i blk hi => by simp at hi), ⟨[], rfl, z24, fun r hr => by cases hr⟩, fun r hr => ⟨hH r hr, by simp⟩, hG⟩
  have h2 := q2x (Hd := Hd) (ι := []) (w := w) (ys := List.replicate (fn.ntmps - (caps.length + 1)) undef)
  rw [z29] at h2
  have h3 : rels Hd [] w (.v y :: caps) (y :: vs) := ⟨y, vs, rfl, rfl, hR⟩
  have := q13 h3 h2
  simpa [hlen] using this
 refine callsIn_wide.1 (callsIn_of_wp_marks (F := Fence.wide) (n := 0) hf hb True.intro ?_ rfl)
 refine qaf hT c _ _ _ h1 Y 0 Hd w.heap.size [] _ w (z09 _) hR0 hJ _ ?_
 intro e s' g' Hd' ι' a' w' hK hs hR' hJ'
 have way : g'.1 <+: full ∧ (g'.2 = false → g'.1 = full) →
  LeavesInM Fence.wide 0 P fn a'.tmps (fun e w' => ∃ v g Hd' ι', e = .returned v ∧ Y.J g Hd' ι' w' ∧ g.1 <+: full ∧ (g.2 = false → g.1 = full)) a'.defers .returning w' := by
  intro hg
  obtain ⟨rs, hd, hnd, hrs⟩ := hR'.marks
  rw [hd]
  refine qkm rs w' hnd hrs ?_
  intro w2 e1 e2 e3 e4 e5 e6
  have hJ2 := Y.leave hJ' e1 (fun r hr => e2 r (z10 hr hB0)) e3 e4 e5 e6
  refine ⟨.tuple #[], ?_, .tuple #[], g', Hd', ι', rfl, hJ2, hg⟩
  simp [results, hres]
 cases e with
 | normal => exact way hK
 | exit id => exact hK.elim
 | ret => exact way hK
def AExit.code : AExit → Code
 | .normal => .skip
 | .exit id => .exit id
 | .ret => .ret
def rH (Hd0 : Nat → Prop) (D : Nat) (ι : Loc) (r : Nat) : Prop := Hd0 r ∨ some r ∈ ι ∨ r = D ∨ r = D + 1
def RJ (L : Nat) (Hd0 : Nat → Prop) (B : Nat) (ι0 : Loc) (w0 : World) (rec : LoopState → Option Code → Loop) (tm : List AV) (a : Act) (Live : List (List AV) → List AB → Prop) (Stop : AExit → List AB → Prop)
 (g : List (List AV) × Bool) (Hd : Nat → Prop) (ι : Loc) (w : World) : Prop :=
 (∀ r : Nat, some r ∈ ι → w0.heap.size + 2 ≤ r ∧ r < w.heap.size) ∧ w.heap[w0.heap.size]? = some (.deferred (some [])) ∧
 ∃ ιc m, (∀ r, Hd r ↔ (Hd0 r ∨ some r ∈ ιc ∨ r = w0.heap.size ∨ r = w0.heap.size + 1)) ∧ Ext L ι0 w0 ιc w ∧ Rel (rH Hd0 w0.heap.size ι) B ιc ⟨tm, m⟩ a w ∧
  ((g.2 = false ∧ Live g.1 m ∧ w.heap[w0.heap.size + 1]? = some (.loop (rec .ready none))) ∨
   (g.2 = true ∧ ∃ e, Stop e m ∧ w.heap[w0.heap.size + 1]? = some (.loop (rec .done (some e.code)))))
section
variable {Hd0 : Nat → Prop} {B : Nat} {ι0 : Loc} {w0 : World} {rec : LoopState → Option Code → Loop} {tm : List AV} {a : Act} {Live : List (List AV) → List AB → Prop} {Stop : AExit → List AB → Prop}
 {g : List (List AV) × Bool} {ι ι' : Loc} {w w' : World}
theorem RJ.lt (h : RJ L Hd0 B ι0 w0 rec tm a Live Stop g Hd ι w) : w0.heap.size + 2 ≤ w.heap.size := by
 obtain ⟨_, _, ιc, m, _, _, _, h⟩ := h
 rcases h with ⟨_, _, h⟩ | ⟨_, e, _, h⟩ <;> exact q26 h
theorem RJ.ext (h : RJ L Hd0 B ι0 w0 rec tm a Live Stop g Hd ι w) (hH : ∀ r, Hd0 r → r < w0.heap.size) (e : Ext 0 ι w ι' w') (hl : ∀ r : Nat, some r ∈ ι' → r < w'.heap.size) : RJ L Hd0 B ι0 w0 rec tm a Live Stop g Hd ι' w' := by
 have hlt := h.lt
 obtain ⟨h1, h2, ιc, m, h3, h4, h5, h6⟩ := h
 have old : ∀ r, r < w0.heap.size + 2 → some r ∉ ι' ∧ w'.heap[r]? = w.heap[r]? := fun r hr =>
  e.imm r (by omega) (fun hh => by have := (h1 r hh).1; omega)
 refine ⟨fun r hr => ⟨?_, hl r hr⟩, (old _ (by omega)).2.trans h2, ιc, m, h3, ?_, ?_, ?_⟩
 · apply z1x
   intro hlt'
   exact (old r hlt').1 hr
 · exact ⟨e.os.trans h4.os, e.tape.trans h4.tape, e.output.trans h4.output, z1f h4.size e.size,
    fun r hr hn => ⟨(h4.imm r hr hn).1, (old r (by omega)).2.trans (h4.imm r hr hn).2⟩, fun r hr => (e.shape r (by omega)).trans (h4.shape r hr), h4.keep⟩
 · refine h5.yld ⟨e.os, e.tape, e.output, e.size, ?_, ?_, e.shape⟩
   · intro r hr hn
     have hni : some r ∉ ι := fun hh => hn (.inr (.inl hh))
     refine ⟨?_, (e.imm r hr hni).2⟩
     rintro (hh | hh | hh | hh)
     · exact hn (.inl hh)
     · exact (e.imm r hr hni).1 hh
     · exact hn (.inr (.inr (.inl hh)))
     · exact hn (.inr (.inr (.inr hh)))
   · rintro r (hh | hh | hh | hh)
     · have := hH r hh; have := e.size; omega
     · exact hl r hh
     · have := e.size; omega
     · have := e.size; omega
 · rcases h6 with ⟨k1, k2, k3⟩ | ⟨k1, x, k2, k3⟩
   · exact .inl ⟨k1, k2, (old _ (by omega)).2.trans k3⟩
   · exact .inr ⟨k1, x, k2, (old _ (by omega)).2.trans k3⟩
theorem qfr : ∀ {rs rs' : List Nat}, rs.map (fun r => ({ target := .collected r, args := #[] } : Deferred)) = rs'.map (fun r => { target := .collected r, args := #[] }) → rs = rs'
 | [], [], _ => rfl
 | [], _ :: _, h => by cases h
 | _ :: _, [], h => by cases h
 | x :: xs, y :: ys, h => by
  simp only [z0r, z0h, Deferred.mk.injEq, Target.collected.injEq] at h
  rw [h.1.1, qfr h.2]
theorem qug {ds : List Deferred} {ι2 : Loc} {Hd2 : Nat → Prop} (h : qcx Hd0 B ι0 ds w0) (k : qcx Hd2 B ι2 ds w) (hs : w'.heap.size = w.heap.size) (e : ∀ r, r < w0.heap.size → w'.heap[r]? = w.heap[r]?) : qcx Hd2 B ι2 ds w' := by
 obtain ⟨rs, rfl, h2, h3⟩ := h
 obtain ⟨rs', k1, k2, k3⟩ := k
 have := qfr k1
 subst this
 refine ⟨rs, rfl, k2, fun r hr => ?_⟩
 obtain ⟨q1, q2, q3⟩ := k3 r hr
 exact ⟨q1, ⟨by rw [hs]; exact q2.1, q2.2⟩, (e r (h3 r hr).2.1.1).trans q3⟩
theorem RJ.leave (h : RJ L Hd0 B ι0 w0 rec tm a Live Stop g Hd ι w) (hM : qcx Hd0 B ι0 a.defers w0) (hs : Same w w') (hb : ∀ r, r < w0.heap.size + 2 → w'.heap[r]? = w.heap[r]?) (h1 : w'.os = w.os) (h2 : w'.tape = w.tape) (h3 : w'.output = w.output)
 (h4 : ∀ r, w'.shape? r = w.shape? r) : RJ L Hd0 B ι0 w0 rec tm a Live Stop g Hd ι w' := by
 obtain ⟨k1, k2, ιc, m, k3, k4, k5, k6⟩ := h
 refine ⟨fun r hr => ⟨(k1 r hr).1, by rw [hs.size]; exact (k1 r hr).2⟩, (hb _ (by omega)).trans k2, ιc, m, k3, ?_, ?_, ?_⟩
 · exact ⟨h1.trans k4.os, h2.trans k4.tape, h3.trans k4.output, by rw [hs.size]; exact k4.size, fun r hr hn => ⟨(k4.imm r hr hn).1, (hb r (by omega)).trans (k4.imm r hr hn).2⟩, fun r hr => (h4 r).trans (k4.shape r hr), k4.keep⟩
 · have := k5.same hs
   exact ⟨this.len, this.lt, this.inj, this.tmps, this.mem, qug hM k5.marks hs.size (fun r hr => hb r (by omega)), this.hid, this.glob⟩
 · rcases k6 with ⟨q1, q2, q3⟩ | ⟨q1, x, q2, q3⟩
   · exact .inl ⟨q1, q2, (hb _ (by omega)).trans q3⟩
   · exact .inr ⟨q1, x, q2, (hb _ (by omega)).trans q3⟩
end
def qd7 : List Tmp → List AV → List AV → List AV
 | p :: ps, x :: xs, tm => qd7 ps xs (tm.set p x)
 | _, _, tm => tm
theorem qlf {ι : Loc} : ∀ {ps : List Tmp} {x : List AV} {vs : List Value} {tm : List AV} {arr : Array Value}, rels Hd ι w x vs → rels Hd ι w tm arr.toList →
 rels Hd ι w (qd7 ps x tm) ((ps.zip vs).foldl (fun t (p : Tmp × Value) => t.setIfInBounds p.1 p.2) arr).toList
 | [], _, _, _, _, _, h => h
 | p :: ps, [], _, _, _, hx, h => by cases hx; exact h
 | p :: ps, x :: xs, _, tm, arr, hx, h => by
  obtain ⟨v, vs, rfl, h1, h2⟩ := hx
  simp only [qd7, z5h, z2o]
  refine qlf h2 ?_
  rw [Array.toList_setIfInBounds]
  exact qbw p h h1
def qdx (M : Nat) (Inv' : List AB → Prop) (Stop : AExit → List AB → Prop) : AExit → St → Prop
 | .normal, s2 => Inv' (s2.trunc M).mem
 | e, s2 => Stop e (s2.trunc M).mem
def qon (P : Program) (T : TypeId → Option TI) (N M : Nat) (bd : Code) (Inv' : List AB → Prop) (Stop : AExit → List AB → Prop) : AExit → St → Prop
 | .normal, s1 => go P T N [.code bd] s1 (qdx M Inv' Stop)
 | _, _ => False
theorem qmc {l : Nat} {o o' : Obj} (hl : w.heap[l]? = some o) (hni : ∀ c t f, o ≠ .cells c t f) (hni' : ∀ c t f, o' ≠ .cells c t f) {Hd : Nat → Prop} (hh : Hd l) (hH : ∀ r, Hd r → r < w.heap.size) : Yld Hd Hd w (w.putObj l o') := by
 refine ⟨rfl, rfl, rfl, by simp [World.putObj], fun r hr hn => ⟨hn, World.putObj_heap_other (by rintro rfl; exact hn hh)⟩, fun r hr => by simpa [World.putObj] using hH r hr, fun r hr => ?_⟩
 by_cases e : r = l
 · subst e
   simp only [World.shape?, World.putObj_heap_same hr, hl]
   cases o with
   | cells c t f => exact absurd rfl (hni c t f)
   | _ => cases o' with
    | cells c t f => exact absurd rfl (hni' c t f)
    | _ => rfl
 · simp only [World.shape?, World.putObj_heap_other e]
section
variable {P : Program} {T : TypeId → Option TI}
theorem round_ok (hT : TyOk P T) {Hd0 : Nat → Prop} {B : Nat} {ι0 : Loc} {w0 : World} {fn : FuncId} {ps : Array Tmp} {asg bd : Code} {tm : List AV} {a0 : Act} {Live : List (List AV) → List AB → Prop} {Stop : AExit → List AB → Prop} {rec : LoopState → Option Code → Loop} (hrec : rec = fun st pe => { state := st, pending := pe, fn, tmps := a0.tmps, params := ps, assign := asg, body := bd, defers := w0.heap.size }) (N M : Nat) (hLN : L ≤ N) (hNM : N ≤ M) (hps : ∀ x ∈ full, x.length = ps.size) (hlive : ∀ b ∈ q05 tm, b < N) (hH0 : ∀ r, Hd0 r → r < w0.heap.size) (hr : ∀ xs x m, (xs ++ [x]) <+: full → Live xs m → go P T N [.code asg] ⟨qd7 ps.toList x tm, m⟩ (qon P T N M bd (Live (xs ++ [x])) Stop)) (hns : ∀ m, ¬ Stop .normal m) (g : List (List AV) × Bool) (x : List AV) (Hd : Nat → Prop) (ι : Loc) (w : World) (vs : List Value) (hal : itAl full g x) (hJ : RJ L Hd0 B ι0 w0 rec tm a0 Live Stop g Hd ι w) (hx : rels Hd ι w x vs) (hid : ∀ r : Nat, Hd r → r < w.heap.size ∧ some r ∉ ι) {R : Ending → World → Prop} {n : Nat} (hR : ∀ (b : Bool) (Hd' : Nat → Prop) (w' : World), Yld Hd Hd' w w' → RJ L Hd0 B ι0 w0 rec tm a0 Live Stop (itAn g x b) Hd' ι w' → R (.returned (.bool b)) w') :
 ∃ tmps, (Instr.yield (w0.heap.size + 1) vs.toArray).run P w = .ok (.round (w0.heap.size + 1) fn tmps asg bd) w ∧ RoundIn Fence.wide n P (w0.heap.size + 1) fn tmps asg bd w R := by
 have hlt := hJ.lt
 obtain ⟨xs, st⟩ := g
 obtain ⟨hst, hpre, hpu⟩ := hal
 simp only at hst hpre
 subst hst
 obtain ⟨j1, j2, ιc, m, j3, j4, j5, j6⟩ := hJ
 obtain ⟨jl, jrec⟩ : Live xs m ∧ w.heap[w0.heap.size + 1]? = some (.loop (rec .ready none)) := by
  rcases j6 with ⟨_, jl, jrec⟩ | ⟨hf, _⟩
  · exact ⟨jl, jrec⟩
  · cases hf
 have hxl : x.length = ps.size := hps x (hpre.subset (by simp))
 have hvl : vs.length = ps.size := (q0h hx).symm.trans hxl
 have hyr := run_yield (P := P) (args := vs.toArray) jrec (by rw [hrec]; simp [hvl])
 refine ⟨_, by rw [hyr, hrec], ?_⟩
 have hxc : rels (rH Hd0 w0.heap.size ι) ιc w x vs := q28 (fun r hi => by
  refine ⟨hi.1, fun hh => hi.2.2 ((j3 r).2 (.inr (.inl hh))), ?_⟩
  rintro (hh | hh | hh | hh)
  · exact hi.2.2 ((j3 r).2 (.inl hh))
  · exact hi.2.1 hh
  · exact hi.2.2 ((j3 r).2 (.inr (.inr (.inl hh))))
  · exact hi.2.2 ((j3 r).2 (.inr (.inr (.inr hh))))) x vs hpu hx
 have htm : rels (rH Hd0 w0.heap.size ι) ιc w (qd7 ps.toList x tm) ((ps.zip vs.toArray).foldl (fun t (p : Tmp × Value) => t.setIfInBounds p.1 p.2) a0.tmps).toList := by
  have := qlf (ps := ps.toList) hxc j5.tmps
  rw [← z4p, Array.toList_zip]
  exact this
 have hRel : Rel (rH Hd0 w0.heap.size ι) 0 ιc ⟨qd7 ps.toList x tm, m⟩ { tmps := (ps.zip vs.toArray).foldl (fun t (p : Tmp × Value) => t.setIfInBounds p.1 p.2) a0.tmps, defers := [] } w :=
  ⟨j5.len, j5.lt, j5.inj, htm, j5.mem, ⟨[], rfl, z24, fun r hr => by cases hr⟩, j5.hid, j5.glob⟩
 have hLm : rH Hd0 w0.heap.size ι (w0.heap.size + 1) := .inr (.inr (.inr rfl))
 have hDm : rH Hd0 w0.heap.size ι w0.heap.size := .inr (.inr (.inl rfl))
 show RoundIn Fence.wide n P (w0.heap.size + 1) fn ((ps.zip vs.toArray).foldl (fun t (p : Tmp × Value) => t.setIfInBounds p.1 p.2) a0.tmps) asg bd w R
 refine roundIn_of_wpIn True.intro ?_
 have hasg := q48 hT asg _ _ (hr xs x m hpre jl)
 refine hasg (Fence.wide.inRound (w0.heap.size + 1)) n (.inr ⟨_, rfl⟩) _ 0 ιc _ w (z00 _) hRel _ ?_
 intro e s1 ι1 a1 w1 hK1 hR1 hE1
 cases e with
 | exit id => exact hK1.elim
 | ret => exact hK1.elim
 | normal =>
 have hK1 : go P T N [.code bd] s1 (qdx M (Live (xs ++ [x])) Stop) := hK1
 have hl1 : w1.heap[w0.heap.size + 1]? = some (.loop (rec .ready none)) := (hE1.imm _ (by omega) (fun hh => j5.nhid _ hh hLm)).2.trans jrec
 have hd1 : w1.heap[w0.heap.size]? = some (.deferred (some [])) := (hE1.imm _ (by omega) (fun hh => j5.nhid _ hh hDm)).2.trans j2
 refine ⟨_, run_beginRound hl1 (by rw [hrec]), ?_⟩
 have y1 : Yld (rH Hd0 w0.heap.size ι) (rH Hd0 w0.heap.size ι) w1 (w1.putObj (w0.heap.size + 1) (.loop { rec .ready none with state := .busy })) :=
  qmc hl1 (by intro _ _ _ h; cases h) (by intro _ _ _ h; cases h) hLm (fun r hr => (hR1.hid r hr).1)
 generalize hw2 : w1.putObj (w0.heap.size + 1) (.loop { rec .ready none with state := .busy }) = w2 at y1
 have hl2 : w2.heap[w0.heap.size + 1]? = some (.loop { rec .ready none with state := .busy }) := by rw [← hw2]; exact World.putObj_heap_same (q26 hl1)
 have hd2 : w2.heap[w0.heap.size]? = some (.deferred (some [])) := by rw [← hw2]; exact (World.putObj_heap_other (by omega)).trans hd1
 have hR2 := hR1.yld y1
 have hbd := q48 hT bd _ _ hK1
 refine hbd (Fence.wide.inRound (w0.heap.size + 1)) n (.inr ⟨_, rfl⟩) _ 0 ι1 _ w2 (z00 _) hR2 _ ?_
 intro e s3 ι3 a3 w3 hK3 hR3 hE3
 have hl3 : w3.heap[w0.heap.size + 1]? = some (.loop { rec .ready none with state := .busy }) := (hE3.imm _ (q26 hl2) (fun hh => hR2.nhid _ hh hLm)).2.trans hl2
 have hd3 : w3.heap[w0.heap.size]? = some (.deferred (some [])) := (hE3.imm _ (q26 hd2) (fun hh => hR2.nhid _ hh hDm)).2.trans hd2
 have fin : ∀ (jump : Option Code) (b : Bool), b = jump.isNone → (b = true → Live (xs ++ [x]) (s3.trunc M).mem) → (b = false → ∃ e, Stop e (s3.trunc M).mem ∧ jump = some e.code) →
  ∃ v w', (Instr.endRound (w0.heap.size + 1) jump).run P w3 = .ok v w' ∧ R (.returned v) w' := by
  intro jump b hb hbt hbf
  have her := run_endRound (P := P) jump hl3
  refine ⟨_, _, her, ?_⟩
  have y3 : Yld (rH Hd0 w0.heap.size ι) (rH Hd0 w0.heap.size ι) w3 (w3.putObj (w0.heap.size + 1) (.loop { ({ rec .ready none with state := .busy } : Loop) with state := if jump.isNone then .ready else .done, pending := jump })) :=
   qmc hl3 (by intro _ _ _ h; cases h) (by intro _ _ _ h; cases h) hLm (fun r hr => (hR3.hid r hr).1)
  have hl4 : (w3.putObj (w0.heap.size + 1) (.loop { ({ rec .ready none with state := .busy } : Loop) with state := if jump.isNone then .ready else .done, pending := jump })).heap[w0.heap.size + 1]? =
   some (.loop (rec (if jump.isNone then .ready else .done) jump)) := by rw [World.putObj_heap_same (q26 hl3), hrec]
  have hd4 : (w3.putObj (w0.heap.size + 1) (.loop { ({ rec .ready none with state := .busy } : Loop) with state := if jump.isNone then .ready else .done, pending := jump })).heap[w0.heap.size]? =
   some (.deferred (some [])) := (World.putObj_heap_other (by omega)).trans hd3
  have ho4 : ∀ r, r ≠ w0.heap.size + 1 → (w3.putObj (w0.heap.size + 1) (.loop { ({ rec .ready none with state := .busy } : Loop) with state := if jump.isNone then .ready else .done, pending := jump })).heap[r]? = w3.heap[r]? :=
   fun r hr => World.putObj_heap_other hr
  generalize w3.putObj (w0.heap.size + 1) (.loop { ({ rec .ready none with state := .busy } : Loop) with state := if jump.isNone then .ready else .done, pending := jump }) = w4 at y3 hl4 hd4 ho4
  rw [← hb]
  have hsz : w.heap.size ≤ w4.heap.size := z1f hE1.size (z1f y1.size (z1f hE3.size y3.size))
  have old : ∀ r, r < w.heap.size → some r ∉ ιc → r ≠ w0.heap.size + 1 → some r ∉ ι3 ∧ w4.heap[r]? = w.heap[r]? := by
   intro r h1 h2 h3
   obtain ⟨q1, q2⟩ := hE1.imm r h1 h2
   have l1 := z10 h1 hE1.size
   have q3 : w2.heap[r]? = w1.heap[r]? := by rw [← hw2]; exact World.putObj_heap_other h3
   have l2 := z10 l1 y1.size
   obtain ⟨q4, q5⟩ := hE3.imm r l2 q1
   exact ⟨q4, (ho4 r h3).trans (q5.trans (q3.trans q2))⟩
  have shp : ∀ r, r < w.heap.size → w4.shape? r = w.shape? r := fun r h1 =>
   have l1 := z10 h1 hE1.size
   have l2 := z10 l1 y1.size
   (y3.shape r (z10 l2 hE3.size)).trans ((hE3.shape r l2).trans ((y1.shape r l1).trans (hE1.shape r h1)))
  have hR4 := hR3.yld y3
  obtain ⟨hR5, hE5⟩ := hR4.trunc (L := N) M hNM
  have hk1 : ∀ b ∈ q05 tm, ∀ o, ιc[b]? = some o → ι1[b]? = some o := fun b hb o ho => hE1.keep b o (hlive b hb) ho
  have hk2 : ∀ b ∈ q05 tm, ∀ o, ι1[b]? = some o → ι3[b]? = some o := fun b hb o ho => hE3.keep b o (hlive b hb) ho
  have hk3 : ∀ b ∈ q05 tm, ∀ o, ι3[b]? = some o → (ι3.take M)[b]? = some o := fun b hb o ho => hE5.keep b o (hlive b hb) ho
  have htm5 := q0l hE5 hR4.lt _ _ hk3 (q3j y3 hR3.lt _ _ (q0l hE3 hR2.lt _ _ hk2 (q3j y1 hR1.lt _ _ (q0l hE1 j5.lt _ _ hk1 j5.tmps))))
  have hos : w4.os = w.os := y3.os.trans (hE3.os.trans (y1.os.trans hE1.os))
  have htp : w4.tape = w.tape := y3.tape.trans (hE3.tape.trans (y1.tape.trans hE1.tape))
  have hou : w4.output = w.output := y3.output.trans (hE3.output.trans (y1.output.trans hE1.output))
  refine hR b (fun r => Hd0 r ∨ some r ∈ ι3.take M ∨ r = w0.heap.size ∨ r = w0.heap.size + 1) w4 ⟨hos, htp, hou, hsz, ?_, ?_, shp⟩ ⟨fun r hr => ⟨(j1 r hr).1, z10 (j1 r hr).2 hsz⟩, hd4, ι3.take M, (s3.trunc M).mem, fun r => Iff.rfl, ?_, ?_, ?_⟩
  · intro r h1 h2
    have n1 : some r ∉ ιc := fun hh => h2 ((j3 r).2 (.inr (.inl hh)))
    have n2 : r ≠ w0.heap.size + 1 := fun hh => h2 ((j3 r).2 (.inr (.inr (.inr hh))))
    obtain ⟨q1, q2⟩ := old r h1 n1 n2
    refine ⟨?_, q2⟩
    rintro (hh | hh | hh | hh)
    · exact h2 ((j3 r).2 (.inl hh))
    · exact q1 (z1c hh)
    · exact h2 ((j3 r).2 (.inr (.inr (.inl hh))))
    · exact n2 hh
  · rintro r (hh | hh | hh | hh)
    · have := hH0 r hh; omega
    · exact hR4.lt r (z1c hh)
    · omega
    · omega
  · refine ⟨hos.trans j4.os, htp.trans j4.tape, hou.trans j4.output, z1f j4.size hsz, ?_, fun r hr => (shp r (by omega)).trans (j4.shape r hr), ?_⟩
    · intro r h1 h2
      obtain ⟨q1, q2⟩ := j4.imm r h1 h2
      obtain ⟨q3, q4⟩ := old r (by omega) q1 (by omega)
      exact ⟨fun hh => q3 (z1c hh), q4.trans q2⟩
    · intro b' o hb' ho
      exact hE5.keep b' o (by omega) (hE3.keep b' o (by omega) (hE1.keep b' o (by omega) (j4.keep b' o hb' ho)))
  · refine ⟨hR5.len, hR5.lt, hR5.inj, htm5, hR5.mem, ?_, hR5.hid, hR5.glob⟩
    obtain ⟨rs, k1, k2, k3⟩ := j5.marks
    refine ⟨rs, k1, k2, fun r hr => ?_⟩
    obtain ⟨p1, p2, p3⟩ := k3 r hr
    obtain ⟨q1, q2⟩ := old r p2.1 p2.2.1 (fun hh => p2.2.2 (by rw [hh]; exact hLm))
    exact ⟨p1, ⟨z10 p2.1 hsz, fun hh => q1 (z1c hh), p2.2.2⟩, q2.trans p3⟩
  · cases b with
    | true =>
     have hjn : jump = none := by cases jump with | none => rfl | some _ => cases hb
     subst hjn
     exact .inl ⟨rfl, hbt rfl, hl4⟩
    | false =>
     obtain ⟨e, q1, rfl⟩ := hbf rfl
     exact .inr ⟨rfl, e, q1, hl4⟩
 cases e with
 | normal => exact fin none true rfl (fun _ => hK3) (fun h => by cases h)
 | exit id => exact fin (some (.exit id)) false rfl (fun h => by cases h) (fun _ => ⟨.exit id, hK3, rfl⟩)
 | ret => exact fin (some .ret) false rfl (fun h => by cases h) (fun _ => ⟨.ret, hK3, rfl⟩)
theorem Rel.unhide {H0 H1 : Nat → Prop} {B : Nat} {ι : Loc} {a : Act} (h : Rel H1 B ι s a w) (hh : ∀ r, H0 r → H1 r) : Rel H0 B ι s a w :=
 h.yld ⟨rfl, rfl, rfl, z09 _, fun r _ hn => ⟨fun x => hn (hh r x), rfl⟩, fun r hr => (h.hid r (hh r hr)).1, fun _ _ => rfl⟩
def stopY (P : Program) (T : TypeId → Option TI) (L : Nat) {Γ : Type} (al : Γ → List AV → Prop) (an : Γ → List AV → Bool → Γ) (y : Value) (yl : Bool) (k : List Fr) (tm : List AV) (g : Γ) (K : AExit → St → Γ → Prop) : AExit → List AB → Prop
 | .normal, _ => False
 | .exit id, m => q75 P T L al an y yl id k ⟨tm, m⟩ g K
 | .ret, m => K .ret ⟨tm, m⟩ g
theorem q91 (hT : TyOk P T) {Γ : Type} {al : Γ → List AV → Prop} {an : Γ → List AV → Bool → Γ} {y : Value} {yl : Bool} {f : Operand} {ps : Array Tmp} {asg bd : Code} {k : List Fr} {g : Γ} {K : AExit → St → Γ → Prop} {gf : FuncId} {caps : List AV} (hc : qh7 P gf caps full) {α : Type} (N M : Nat) (live : List Nat) (tm : List AV) (Inv : List (List AV) → α → Prop) (mem : α → List AB) (x0 : α) (hf : s.ev f = .fn gf caps) (hcp : q18 caps = true) (hps : ∀ x ∈ full, x.length = ps.size) (hLN : L ≤ N) (hNM : N ≤ M) (hlive : (q05 tm).all (fun b => decide (b < N)) = true) (hi : Inv [] x0) (h0 : (s.trunc M).keep live = ⟨tm, mem x0⟩) (hr : ∀ xs x a, (xs ++ [x]) <+: full → Inv xs a → go P T N [.code asg] ⟨qd7 ps.toList x tm, mem a⟩
 (qon P T N M bd (fun m => ∃ a', Inv (xs ++ [x]) a' ∧ m = mem a') (stopY P T L al an y yl k tm g K))) (hd : ∀ a, Inv full a → goY P T L al an y yl k ⟨tm, mem a⟩ g K) : qbl P T L al an y yl (.rangeFunc f ps asg bd) k s g K := by
 intro Y n Hd B ι a w hB hR hJ Q hq
 obtain ⟨hR3, hE3⟩ := hR.trunc (L := L) M (z1f hLN hNM)
 have hR4 := hR3.keep live
 have hfv := hR.ev f
 rw [hf] at hfv
 obtain ⟨vs, hfe, hcr⟩ := hfv
 have hcpu := q2o hcr hcp
 rw [h0] at hR4
 clear hR3
 refine wpIn_rangeFunc ?_
 intro fn hfn
 obtain ⟨rec, hrec⟩ : ∃ rec : LoopState → Option Code → Loop, rec = fun st pe => { state := st, pending := pe, fn, tmps := a.tmps, params := ps, assign := asg, body := bd, defers := w.heap.size } := ⟨_, rfl⟩
 obtain ⟨W1, hW1⟩ : ∃ W1, (w.alloc (.deferred (some []))).alloc (.loop (rec .ready none)) = W1 := ⟨_, rfl⟩
 have hsz1 : W1.heap.size = w.heap.size + 2 := by rw [← hW1]; simp [z5t]
 have hL1 : W1.heap[w.heap.size + 1]? = some (.loop (rec .ready none)) := by
  rw [← hW1]; have := World.alloc_heap_new (w.alloc (.deferred (some []))) (.loop (rec .ready none)); rwa [z5t] at this
 have hK1 : W1.heap[w.heap.size]? = some (.deferred (some [])) := by
  rw [← hW1]; exact (z3a _ _ _ (by simp)).trans (World.alloc_heap_new w _)
 have old1 : ∀ r, r < w.heap.size → W1.heap[r]? = w.heap[r]? := fun r hr => by
  rw [← hW1]; exact (z3a _ _ _ (by rw [z5t]; omega)).trans (z3a _ _ _ hr)
 have y0 : Yld Hd (rH Hd w.heap.size []) w W1 := by
  refine ⟨by rw [← hW1]; rfl, by rw [← hW1]; rfl, by rw [← hW1]; rfl, by omega, fun r hr hn => ⟨?_, old1 r hr⟩, ?_, fun r hr => by simp only [World.shape?, old1 r hr]⟩
  · rintro (hh | hh | hh | hh)
    · exact hn hh
    · cases hh
    · omega
    · omega
  · rintro r (hh | hh | hh | hh)
    · have := (hR.hid r hh).1; omega
    · cases hh
    · omega
    · omega
 have hinl : ∀ r : Nat, some r ∈ ι.take M → some r ∈ ι := fun r hh => z1c hh
 let Stop := stopY P T L al an y yl k tm g K
 let Live : List (List AV) → List AB → Prop := fun xs m => ∃ a', Inv xs a' ∧ m = mem a'
 have hH0 : ∀ r, Hd r → r < w.heap.size := fun r hr => (hR.hid r hr).1
 let Yr : Yie P 0 (itAl full) itAn (.func (.yield (w.heap.size + 1)) #[] #[]) := {
  J := RJ L Hd B (ι.take M) w rec tm a Live Stop
  ext := fun h e hl => h.ext hH0 e hl
  B0 := w.heap.size + 2
  leave := fun h hs hb h1 h2 h3 h4 => h.leave hR4.marks hs hb h1 h2 h3 h4
  ok := by
   intro g2 x2 Hd2 ι2 w2 vs2 hal hJ2 hx2 hid2 hlt2 o c f2 a2 n2 next2 Q2 hoc hcf hev hargs hnext
   obtain ⟨tmps2, hyr, hround⟩ := round_ok (L := L) hT hrec N M hLN hNM hps (fun b hb => by simpa using z0l.1 hlive b hb) hH0
    (fun xs x m hpre hl => by obtain ⟨a', q1, rfl⟩ := hl; exact hr xs x a' hpre q1) (fun m hh => hh) g2 x2 Hd2 ι2 w2 vs2 hal hJ2 hx2 hid2
    (R := fun e w'' => match e with
     | .returned v => next2 (a2.put o.dst v) w''
     | .panicked chain => Q2 (.panic chain) a2 w''
     | .outgrown => LetsOut Q2) (n := n2 - 1) (fun b Hd' w' hy hj => hnext b Hd' w' hy hj)
   have hrun : (execOp a2.eval o).run P w2 = .ok (.round (w.heap.size + 1) fn tmps2 asg bd) w2 := by
    have harr : c.args.map a2.eval = vs2.toArray := by rw [← hargs]; apply z4q; simp
    unfold execOp
    simp only [hoc, resolve, hcf, hev, Deferred.ofValue, z0s, z15, z0b, invoke, z5i, Array.append_empty, harr, hyr]
   refine ⟨fun _ _ => True.intro, ?_⟩
   rw [z4x _ _ _ (by rw [hoc]; intro c; exact fun h => by cases h), hrun, Oper.uponIn_round]
   exact ⟨(fun hd => by cases hd), hround.mono (fun e w' hr => by cases e <;> exact hr)⟩ }
 have hJ1 : Yr.J ([], false) (fun r => Hd r ∨ some r ∈ ι.take M ∨ r = w.heap.size ∨ r = w.heap.size + 1) [] W1 := by
  show RJ L Hd B (ι.take M) w rec tm a Live Stop ([], false) _ [] W1
  refine ⟨(fun r hr => by cases hr), hK1, ι.take M, mem x0, fun r => Iff.rfl, ?_, hR4.yld y0, .inl ⟨rfl, ⟨x0, hi, rfl⟩, hL1⟩⟩
  exact ⟨y0.os, y0.tape, y0.output, y0.size, fun r hr hn => ⟨hn, old1 r hr⟩, y0.shape, fun _ _ _ h => h⟩
 have hcaps : rels (fun r => Hd r ∨ some r ∈ ι.take M ∨ r = w.heap.size ∨ r = w.heap.size + 1) [] W1 caps vs := by
  refine q28 (fun r hi2 => ⟨hi2.1, by simp, ?_⟩) caps vs hcpu (q3j y0 hR.lt caps vs hcr)
  rintro (hh | hh | hh | hh)
  · exact hi2.2.2 (.inl hh)
  · exact hi2.2.1 (hinl r hh)
  · exact hi2.2.2 (.inr (.inr (.inl hh)))
  · exact hi2.2.2 (.inr (.inr (.inr hh)))
 obtain ⟨⟨gfn, hgf, hgb, hgn⟩, hcall⟩ := hc
 have hcall1 := hcall _ Yr _ W1 vs (by show w.heap.size + 2 ≤ _; omega) (by
  rintro r (hh | hh | hh | hh)
  · have := hH0 r hh; omega
  · have := hR4.lt r hh; omega
  · omega
  · omega) (((hR.glob.yld y0)).free fun r hi2 => ⟨hi2.1, by simp, by
  rintro (hh | hh | hh | hh)
  · exact hi2.2.2 (.inl hh)
  · exact hi2.2.1 (hinl r hh)
  · exact hi2.2.2 (.inr (.inr (.inl hh)))
  · exact hi2.2.2 (.inr (.inr (.inr hh)))⟩) hcaps hJ1
 refine ⟨w.heap.size + 1, [{ target := .collected w.heap.size, args := #[] }], W1, { target := .fn (.func gf) vs.toArray, args := #[.func (.yield (w.heap.size + 1)) #[] #[]] }, W1, gf,
  (.func (.yield (w.heap.size + 1)) #[] #[] :: vs).toArray, W1, ?_, ?_, ?_, ?_, (fun hd => by cases hd), ?_⟩
 · rw [← hW1, hrec]; exact run_enterLoop_outer _ _ _ _ _
 · simp only [resolve, hfe]
   simp [go_sem]
 · intro f' hf'; exact True.intro
 · simp only [invoke, callFunc, z0s, run_program, z0b, hgf, hgn, hgb, z0n, if_false, z15]
   simp
 · refine ((Wide.callsIn (F := Fence.wide) (.inl rfl) hcall1)).mono ?_
   rintro e w' ⟨v, g', Hd', ι', rfl, hJ', hpre, hfull⟩
   obtain ⟨k1, k2, ιc, m, k3, k4, k5, k6⟩ := hJ'
   have hlt := RJ.lt (show RJ L Hd B (ι.take M) w rec tm a Live Stop g' Hd' ι' w' from ⟨k1, k2, ιc, m, k3, k4, k5, k6⟩)
   have hLm : rH Hd w.heap.size ι' (w.heap.size + 1) := .inr (.inr (.inr rfl))
   have hDm : rH Hd w.heap.size ι' w.heap.size := .inr (.inr (.inl rfl))
   have fin : ∀ (r0 : Loop) (o' : Loop), w'.heap[w.heap.size + 1]? = some (.loop r0) →
    w.heap.size ≤ (w'.putObj (w.heap.size + 1) (.loop o')).heap.size ∧ Rel Hd B ιc ⟨tm, m⟩ { a with defers := [{ target := .collected w.heap.size, args := #[] }] ++ a.defers } (w'.putObj (w.heap.size + 1) (.loop o')) ∧
    Y.J g Hd ιc (w'.putObj (w.heap.size + 1) (.loop o')) := by
    intro r0 o' hl
    have y5 : Yld (rH Hd w.heap.size ι') (rH Hd w.heap.size ι') w' (w'.putObj (w.heap.size + 1) (.loop o')) :=
     qmc hl (by intro _ _ _ h; cases h) (by intro _ _ _ h; cases h) hLm (fun r hr => (k5.hid r hr).1)
    have ho5 : ∀ r, r ≠ w.heap.size + 1 → (w'.putObj (w.heap.size + 1) (.loop o')).heap[r]? = w'.heap[r]? := fun r hr => World.putObj_heap_other hr
    generalize w'.putObj (w.heap.size + 1) (.loop o') = w5 at y5 ho5
    have hR5 := (k5.yld y5).unhide (H0 := Hd) (fun r hr => .inl hr)
    have hEE : Ext L (ι.take M) w ιc w5 := ⟨y5.os.trans k4.os, y5.tape.trans k4.tape, y5.output.trans k4.output, z1f k4.size y5.size,
     fun r hr hn => ⟨(k4.imm r hr hn).1, (ho5 r (by omega)).trans (k4.imm r hr hn).2⟩, fun r hr => (y5.shape r (by omega)).trans (k4.shape r hr), k4.keep⟩
    refine ⟨hEE.size, ⟨hR5.len, hR5.lt, hR5.inj, hR5.tmps, hR5.mem, ?_, hR5.hid, hR5.glob⟩, Y.ext hJ (hE3.trans hEE) hR5.lt⟩
    obtain ⟨rs, q1, q2, q3⟩ := hR5.marks
    obtain ⟨rs', q1', q2', q3'⟩ := k5.marks
    have hDn : some w.heap.size ∉ ιc := fun hh => k5.nhid _ hh hDm
    refine ⟨w.heap.size :: rs, by rw [q1]; rfl, ?_, ?_⟩
    · refine z3h.2 ⟨fun hh => ?_, q2⟩
      obtain ⟨rs0, p1, p2, p3⟩ := hR4.marks
      have hrr : rs = rs0 := qfr (q1.symm.trans p1)
      subst hrr
      have := (p3 _ hh).2.1.1
      omega
    · intro r hr
      rcases z26.1 hr with rfl | hr
      · exact ⟨hB, ⟨z10 (by omega) y5.size, hDn, fun hh => by have := hH0 _ hh; omega⟩, (ho5 _ (by omega)).trans k2⟩
      · exact q3 r hr
   rcases k6 with ⟨q1, ⟨a', q2, rfl⟩, q3⟩ | ⟨q1, e, q2, q3⟩
   · have hfe := hfull q1
     rw [hfe] at q2
     refine ⟨none, _, by have := run_endLoop (P := P) q3 (by rw [hrec]; simp); rw [hrec] at this; exact this, ?_⟩
     obtain ⟨p1, p2, p3⟩ := fin _ { state := .exhausted, pending := none, fn, tmps := a.tmps, params := ps, assign := asg, body := bd, defers := w.heap.size } q3
     exact hq .normal _ g Hd ιc _ _ (hd a' q2) p1 p2 p3
   · refine ⟨some e.code, _, by have := run_endLoop (P := P) q3 (by rw [hrec]; simp); rw [hrec] at this; exact this, ?_⟩
     obtain ⟨p1, p2, p3⟩ := fin _ { state := .exhausted, pending := some e.code, fn, tmps := a.tmps, params := ps, assign := asg, body := bd, defers := w.heap.size } q3
     cases e with
     | normal => exact q2.elim
     | exit id => exact wpIn_exit (hq (.exit id) _ g Hd ιc _ _ q2 p1 p2 p3)
     | ret => exact wpIn_ret (hq .ret _ g Hd ιc _ _ (by show goYE P T L al an y yl k .ret _ g K; rw [q85]; exact q2) p1 p2 p3)
def noAl : Unit → List AV → Prop := fun _ _ => False
def noAn : Unit → List AV → Bool → Unit := fun g _ _ => g
def noY : Value := .nilFunc
theorem q9x {K : AExit → St → Prop} (h : q4l P L noAl noAn noY c s () (fun e s' _ => K e s')) : qa7 P L c s K := by
 intro n Hd B ι a w hB hR Q hq
 let Y : Yie P L noAl noAn noY := {
  J := fun _ Hd' ι' w' => Hd' = Hd ∧ Ext L ι w ι' w'
  ext := fun h e _ => ⟨h.1, h.2.trans e⟩
  B0 := w.heap.size
  leave := fun h hs hb h1 h2 h3 h4 => ⟨h.1, ⟨h1.trans h.2.os, h2.trans h.2.tape, h3.trans h.2.output, by rw [hs.size]; exact h.2.size,
   fun r hr hn => ⟨(h.2.imm r hr hn).1, (hb r hr).trans (h.2.imm r hr hn).2⟩, fun r hr => (h4 r).trans (h.2.shape r hr), h.2.keep⟩⟩
  ok := fun g xs Hd ι w vs hal => hal.elim }
 refine h Y n Hd B ι a w hB hR ⟨rfl, Ext.refl _ _⟩ Q ?_
 rintro e s' g' Hd' ι' a' w' hK _ hR' ⟨rfl, hE⟩
 exact hq e s' ι' a' w' hK hR' hE
theorem qgj (hT : TyOk P T) {g : FuncId} (hf : P.funcs[g]? = some fn) (hb : fn.body = some c) (hname : (fn.name == "runtime.NumGoroutine") = false) {args : List AV} {R : AV → Prop} (h : ∀ K : AExit → St → Unit → Prop, (∀ e s u, retK P T fn 0 (fun x m' => m' = [] ∧ R x) e s → K e s u) → goY P T 0 noAl noAn noY false [.code c] ⟨args ++ List.replicate (fn.ntmps - args.length) .any, []⟩ () K) : q08 P g args R := by
 have h2 : q4p P T 0 noAl noAn noY false c ⟨args ++ List.replicate (fn.ntmps - args.length) .any, []⟩ () (fun e s _ => retK P T fn 0 (fun x m' => m' = [] ∧ R x) e s) := h _ (fun e s u hh => hh)
 exact q9z hT hf hb hname (q9x (qaf hT c _ _ _ h2))
theorem qnr (hT : TyOk P T) {g : FuncId} (hf : P.funcs[g]? = some fn) (hb : fn.body = some c) (hname : (fn.name == "runtime.NumGoroutine") = false) {m : List AB} {args : List AV} {R : AV → List AB → Prop} (h : ∀ K : AExit → St → Unit → Prop, (∀ e s u, retK P T fn m.length R e s → K e s u) → goY P T m.length noAl noAn noY false [.code c] ⟨args ++ List.replicate (fn.ntmps - args.length) .any, m⟩ () K) : ACall P g m args R := by
 have h2 : q4p P T m.length noAl noAn noY false c ⟨args ++ List.replicate (fn.ntmps - args.length) .any, m⟩ () (fun e s _ => retK P T fn m.length R e s) := h _ (fun e s u hh => hh)
 exact q9z hT hf hb hname (q9x (qaf hT c _ _ _ h2))
def qgo (P : Program) (T : TypeId → Option TI) (L : Nat) {Γ : Type} (al : Γ → List AV → Prop) (an : Γ → List AV → Bool → Γ) (y : Value) (yl : Bool) {α : Type} (k : List Fr) (K : AExit → St → Γ → Prop) (N : Nat) (live : List Nat) (Inv : α → Prop) (st : α → St) (gh : α → Γ) (m : α → Nat) (x : α) : AExit → St → Γ → Prop
 | .normal, s2, g2 => ∃ x', Inv x' ∧ m x' < m x ∧ (s2.trunc N).keep live = st x' ∧ g2 = gh x'
 | .exit id, s2, g2 => q75 P T L al an y yl id k s2 g2 K
 | .ret, s2, g2 => K .ret s2 g2
section
variable {Γ : Type} {al : Γ → List AV → Prop} {an : Γ → List AV → Bool → Γ} {y : Value} {yl : Bool} {α : Type} {k : List Fr} {K : AExit → St → Γ → Prop} {N : Nat} {live : List Nat} {Inv : α → Prop} {st : α → St} {gh : α → Γ} {m : α → Nat} {x : α} {s2 : St} {g2 : Γ}
theorem q60 : qgo P T L al an y yl k K N live Inv st gh m x .normal s2 g2 = ∃ x', Inv x' ∧ m x' < m x ∧ (s2.trunc N).keep live = st x' ∧ g2 = gh x' := _root_.id rfl
theorem qsg {id : Nat} : qgo P T L al an y yl k K N live Inv st gh m x (.exit id) s2 g2 = q75 P T L al an y yl id k s2 g2 K := _root_.id rfl
theorem qvi : qgo P T L al an y yl k K N live Inv st gh m x .ret s2 g2 = K .ret s2 g2 := _root_.id rfl
end
theorem qbo (hT : TyOk P T) {Γ : Type} {al : Γ → List AV → Prop} {an : Γ → List AV → Bool → Γ} {y : Value} {yl : Bool} {body : Code} {k : List Fr} {g : Γ} {K : AExit → St → Γ → Prop} {α : Type} (N : Nat) (live : List Nat) (Inv : α → Prop) (st : α → St) (gh : α → Γ) (m : α → Nat) (x0 : α) (hL : L ≤ N) (hi : Inv x0) (h0 : (s.trunc N).keep live = st x0) (hg : g = gh x0) (hr : ∀ x, Inv x → goY P T L al an y yl [.code body] (st x) (gh x) (qgo P T L al an y yl k K N live Inv st gh m x)) : qbl P T L al an y yl (.loop body) k s g K := by
 unfold qbl
 intro Y n Hd B ι a w hB hR hJ Q hq
 refine qdb (fun j a' w' => ∃ Hd' ι' x, m x = j ∧ Inv x ∧ w.heap.size ≤ w'.heap.size ∧ Rel Hd' B ι' (st x) a' w' ∧ Y.J (gh x) Hd' ι' w') ?_ (j := m x0) ?_
 · rintro j a1 w1 ⟨Hd1, ι1, x, rfl, hI, hs1, hR1, hJ1⟩
   have hb : q4p P T L al an y yl body (st x) (gh x) (qgo P T L al an y yl k K N live Inv st gh m x) := hr x hI
   refine qaf hT body (st x) _ _ hb Y n Hd1 B ι1 a1 w1 (z1f hB hs1) hR1 hJ1 _ ?_
   intro e s2 g2 Hd2 ι2 a2 w2 hK hs2 hR2 hJ2
   cases e with
   | normal =>
    obtain ⟨x', hI', hlt, he, rfl⟩ := hK
    obtain ⟨hR3, hE3⟩ := hR2.trunc (L := L) N hL
    have hR4 := hR3.keep live
    rw [he] at hR4
    exact ⟨m x', hlt, Hd2, ι2.take N, x', rfl, hI', z1f hs1 hs2, hR4, Y.ext hJ2 hE3 hR3.lt⟩
   | exit id => exact hq (.exit id) s2 g2 Hd2 ι2 a2 w2 hK (z1f hs1 hs2) hR2 hJ2
   | ret =>
    refine hq .ret s2 g2 Hd2 ι2 a2 w2 ?_ (z1f hs1 hs2) hR2 hJ2
    show goYE P T L al an y yl k .ret s2 g2 K
    rw [q85]
    exact hK
 · obtain ⟨hR3, hE3⟩ := hR.trunc (L := L) N hL
   have hR4 := hR3.keep live
   rw [h0] at hR4
   subst hg
   exact ⟨Hd, ι.take N, x0, rfl, hi, z09 _, hR4, Y.ext hJ hE3 hR3.lt⟩
end
