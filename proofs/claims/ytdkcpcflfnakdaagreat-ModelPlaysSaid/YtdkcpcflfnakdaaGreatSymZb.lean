/- A text of the walk that proves a law of this seat; joined by a program. -/
import Derived.Test.YtdkcpcflfnakdaaGreatSymZa
set_option linter.unusedSimpArgs false
set_option linter.unusedVariables false
namespace Go.Proofs.YtdkcpcflfnakdaaGreat.Sym
open Go Go.RowKit
variable {L : Nat} {Hd : Nat → Prop} {P : Program} {T : TypeId → Option TI}
variable {K : AV → List AB → Prop} {args : List AV} {m : List AB}
theorem q1a (hT : TyOk P T) {g : FuncId} {fn : Func} {c : Code} (hf : P.funcs[g]? = some fn) (hb : fn.body = some c) (hname : (fn.name == "runtime.NumGoroutine") = false) {R : AV → List AB → Prop} (h : ∀ K, (∀ e s, retK P T fn m.length R e s → K e s) → go P T m.length [.code c] ⟨args ++ List.replicate (fn.ntmps - args.length) .any, m⟩ K) : ACall P g m args R := by
 have h2 : q43 P T m.length c ⟨args ++ List.replicate (fn.ntmps - args.length) .any, m⟩ (retK P T fn m.length R) := h _ (fun e s hh => hh)
 exact qfg hT hf hb hname (q48 hT c _ _ h2)
theorem ACall.turn {g : FuncId} {m' : List AB} {args' : List AV} (t : q0c ⟨args, m⟩ ⟨args', m'⟩) (h : ACall P g m' args' K) : ACall P g m args K := by
 refine ⟨h.1, fun Hd ι w vs hR => ?_⟩
 obtain ⟨ι1, hR1, hE1⟩ := t Hd 0 ι _ w hR
 refine (h.2 Hd ι1 w vs hR1).mono ?_
 rintro e w' ⟨y, x, ι', m2, rfl, h1, h2, h3⟩
 exact ⟨y, x, ι', m2, rfl, h1, fun L => (hE1 L).trans (h2 L), h3⟩
theorem q0j.turn {N : Nat} {g : FuncId} {m' : List AB} {args' : List AV} (t : q0c ⟨args, m⟩ ⟨args', m'⟩) (h : q0j P N g m' args' K) : q0j P N g m args K := by
 refine ⟨h.1, fun Hd ι w vs hR => ?_⟩
 obtain ⟨ι1, hR1, hE1⟩ := t Hd 0 ι _ w hR
 refine (h.2 Hd ι1 w vs hR1).mono ?_
 rintro e w' ⟨y, x, ι', m2, rfl, h1, h2, h3⟩
 exact ⟨y, x, ι', m2, rfl, h1, (hE1 N).trans h2, h3⟩
theorem q17 {g : FuncId} {argv : List AV} {d : Option Tmp} {a : Array Oper} {rest : List Oper} {k : List Fr} {s : St} {K : AExit → St → Prop}
 (h : ACall P g s.mem argv (fun x m => go P T L (.ops a rest :: k) (({ s with mem := m } : St).put d x) K)) : q6d P T L g argv d a rest k s K := .inl h
theorem q3a (hT : TyOk P T) {g : FuncId} {fn : Func} {c : Code} (hf : P.funcs[g]? = some fn) (hb : fn.body = some c) (hname : (fn.name == "runtime.NumGoroutine") = false) {N : Nat} (hN : N ≤ m.length) {R : AV → List AB → Prop} (h : ∀ K, (∀ e s, retK P T fn m.length R e s → K e s) → go P T N [.code c] ⟨args ++ List.replicate (fn.ntmps - args.length) .any, m⟩ K) : q0j P N g m args R := by
 have h2 : q43 P T N c ⟨args ++ List.replicate (fn.ntmps - args.length) .any, m⟩ (retK P T fn m.length R) := h _ (fun e s hh => hh)
 exact qk9 hT hf hb hname hN fun n => q48 hT c _ _ h2 Fence.wide n (.inl rfl)
theorem q3k {kp : Nat → Bool} {g : FuncId} {argv : List AV} {d : Option Tmp} {a : Array Oper} {rest : List Oper} {k : List Fr} {s : St} {K : AExit → St → Prop} (hL : ∀ b, b < L → kp b = true)
 (h : q0r P kp g s.mem argv (fun x m => go P T L (.ops a rest :: k) ((⟨qbg kp s.tmps, m⟩ : St).put d x) K)) : q6d P T L g argv d a rest k s K := .inr (.inl ⟨_, hL, h⟩)
theorem ACall.toX {g : FuncId} (h : ACall P g m args K) : q0r P (fun _ => true) g m args K :=
 ⟨h.1, fun Hd ι w vs hR => (h.2 Hd ι w vs hR).mono fun e w' ⟨y, x, ι', m', h1, h2, h3, h4⟩ => ⟨y, x, ι', m', h1, h2, h3 0, fun b o _ ho => (h3 (b + 1)).keep b o (z3r b) ho, h4⟩⟩
theorem q0r.shut {kp : Nat → Bool} {g : FuncId} (b : Nat) (h : q0r P kp g ((m.map (AB.shut m b)).set b .gone) (q6n m b args) K) : q0r P (fun c => kp c && c != b) g m args K := by
 refine ⟨h.1, fun Hd ι w vs hR => ?_⟩
 have hS := Rel.shut (L := 0) hR b (z00 _)
 obtain ⟨hR1, hE1⟩ := hS
 refine (h.2 Hd (ι.set b none) w vs hR1).mono ?_
 rintro e w' ⟨y, x, ι', m', rfl, h1, h2, h3, h4⟩
 refine ⟨y, x, ι', m', rfl, h1, hE1.trans h2, fun c o hc ho => h3 c o ?_ ?_, h4⟩
 · simp only [z0d] at hc; exact hc.1
 · simp only [z0d, bne_iff_ne, ne_eq] at hc
   rw [z0e (z37 hc.2)]; exact ho
def CJ (N : Nat) (Hd0 : Nat → Prop) (ι0 : Loc) (w0 : World) (ccaps : List AV) (cvs : List Value) (Live Stop : List (List AV) → List AB → Prop) (g : List (List AV) × Bool) (Hd : Nat → Prop) (ι : Loc) (w : World) : Prop :=
 (∀ r : Nat, some r ∈ ι → w0.heap.size ≤ r ∧ r < w.heap.size) ∧
 ∃ ιc m, (∀ r, Hd r ↔ (Hd0 r ∨ some r ∈ ιc)) ∧ Ext N ι0 w0 ιc w ∧ Rel (fun r => Hd0 r ∨ some r ∈ ι) 0 ιc ⟨ccaps, m⟩ ⟨cvs.toArray, []⟩ w ∧ ((g.2 = false ∧ Live g.1 m) ∨ (g.2 = true ∧ Stop g.1 m))
section
variable {N : Nat} {Hd0 : Nat → Prop} {ι0 : Loc} {w0 : World} {ccaps : List AV} {cvs : List Value} {Live Stop : List (List AV) → List AB → Prop} {g : List (List AV) × Bool} {ι ι' : Loc} {w w' : World}
theorem CJ.ext (h : CJ N Hd0 ι0 w0 ccaps cvs Live Stop g Hd ι w) (hH : ∀ r, Hd0 r → r < w0.heap.size) (e : Ext 0 ι w ι' w') (hl : ∀ r : Nat, some r ∈ ι' → r < w'.heap.size) : CJ N Hd0 ι0 w0 ccaps cvs Live Stop g Hd ι' w' := by
 obtain ⟨h1, ιc, m, h3, h4, h5, h6⟩ := h
 have hsz := h4.size
 have old : ∀ r, r < w0.heap.size → some r ∉ ι' ∧ w'.heap[r]? = w.heap[r]? := fun r hr =>
  e.imm r (by omega) (fun hh => by have := (h1 r hh).1; omega)
 refine ⟨fun r hr => ⟨?_, hl r hr⟩, ιc, m, h3, ?_, ?_, h6⟩
 · apply z1x
   intro hlt'
   exact (old r hlt').1 hr
 · exact ⟨e.os.trans h4.os, e.tape.trans h4.tape, e.output.trans h4.output, z1f h4.size e.size,
    fun r hr hn => ⟨(h4.imm r hr hn).1, (old r hr).2.trans (h4.imm r hr hn).2⟩, fun r hr => (e.shape r (by omega)).trans (h4.shape r hr), h4.keep⟩
 · refine h5.yld ⟨e.os, e.tape, e.output, e.size, ?_, ?_, e.shape⟩
   · intro r hr hn
     have hni : some r ∉ ι := fun hh => hn (.inr hh)
     refine ⟨?_, (e.imm r hr hni).2⟩
     rintro (hh | hh)
     · exact hn (.inl hh)
     · exact (e.imm r hr hni).1 hh
   · rintro r (hh | hh)
     · have := hH r hh; have := e.size; omega
     · exact hl r hh
theorem CJ.leave (h : CJ N Hd0 ι0 w0 ccaps cvs Live Stop g Hd ι w) (hs : Same w w') (hb : ∀ r, r < w0.heap.size → w'.heap[r]? = w.heap[r]?) (h1 : w'.os = w.os) (h2 : w'.tape = w.tape) (h3 : w'.output = w.output)
 (h4 : ∀ r, w'.shape? r = w.shape? r) : CJ N Hd0 ι0 w0 ccaps cvs Live Stop g Hd ι w' := by
 obtain ⟨k1, ιc, m, k3, k4, k5, k6⟩ := h
 refine ⟨fun r hr => ⟨(k1 r hr).1, by rw [hs.size]; exact (k1 r hr).2⟩, ιc, m, k3, ?_, k5.same hs, k6⟩
 exact ⟨h1.trans k4.os, h2.trans k4.tape, h3.trans k4.output, by rw [hs.size]; exact k4.size, fun r hr hn => ⟨(k4.imm r hr hn).1, (hb r hr).trans (k4.imm r hr hn).2⟩, fun r hr => (h4 r).trans (k4.shape r hr), k4.keep⟩
end
