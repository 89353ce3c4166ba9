/- An iterator that is called with a closure; calls that are handed our own blocks. -/
import Derived.Test.YtfkpjdcjjfpigaaSymZa
namespace Go.Proofs.Ytfkpjdcjjfpigaa.Sym
open Go Go.RowKit
set_option linter.unusedVariables false
set_option linter.unusedSimpArgs false
variable {L : Nat} {Hd : Nat → Prop} {P : Program} {T : TypeId → Option TI}

/-- A function's contract on blocks that are handed over, by the stack. -/
theorem acall_go (hT : TyOk P T) {g : FuncId} {fn : Func} {c : Code} (hf : P.funcs[g]? = some fn) (hb : fn.body = some c) (hname : (fn.name == "runtime.NumGoroutine") = false)
    {m : List AB} {args : List AV} {R : AV → List AB → Prop} (h : ∀ K, (∀ e s, retK P T fn m.length R e s → K e s) → go P T m.length [.code c] ⟨args ++ List.replicate (fn.ntmps - args.length) .any, m⟩ K) : ACall P g m args R := by
  have h2 : codeW P T m.length c ⟨args ++ List.replicate (fn.ntmps - args.length) .any, m⟩ (retK P T fn m.length R) := h _ (fun e s hh => hh)
  exact acall_of_asem hT hf hb hname (codeW_sound hT c _ _ h2)

theorem ACall.turn {g : FuncId} {m m' : List AB} {args args' : List AV} {K : AV → List AB → Prop} (t : Turns ⟨args, m⟩ ⟨args', m'⟩) (h : ACall P g m' args' K) : ACall P g m args K := by
  refine ⟨h.1, fun Hd ι w vs hR => ?_⟩
  obtain ⟨ι1, hR1, hE1⟩ := t Hd 0 ι _ w hR
  refine (h.2 Hd ι1 w vs hR1).mono ?_
  rintro e w' ⟨y, x, ι', m2, rfl, h1, h2, h3⟩
  exact ⟨y, x, ι', m2, rfl, h1, fun L => (hE1 L).trans (h2 L), h3⟩

theorem ACallN.turn {N : Nat} {g : FuncId} {m m' : List AB} {args args' : List AV} {K : AV → List AB → Prop} (t : Turns ⟨args, m⟩ ⟨args', m'⟩) (h : ACallN P N g m' args' K) : ACallN P N g m args K := by
  refine ⟨h.1, fun Hd ι w vs hR => ?_⟩
  obtain ⟨ι1, hR1, hE1⟩ := t Hd 0 ι _ w hR
  refine (h.2 Hd ι1 w vs hR1).mono ?_
  rintro e w' ⟨y, x, ι', m2, rfl, h1, h2, h3⟩
  exact ⟨y, x, ι', m2, rfl, h1, (hE1 N).trans h2, h3⟩

/-- A call that is handed our own blocks, told otherwise; those from N on may come to lie elsewhere. -/
theorem callG_turnN {N : Nat} {g : FuncId} {argv argv' : List AV} {m' : List AB} {d : Option Tmp} {a : Array Oper} {rest : List Oper} {k : List Fr} {s : St} {K : AExit → St → Prop} (hL : L ≤ N) (t : Turns ⟨argv, s.mem⟩ ⟨argv', m'⟩)
    (h : ACallN P N g m' argv' (fun x m => go P T L (.ops a rest :: k) ((⟨cutVs (fun b => decide (b < N)) s.tmps, m⟩ : St).put d x) K)) : callG P T L g argv d a rest k s K := .inr (.inl ⟨_, fun b hb => by simp; omega, (h.turn t).toX⟩)
theorem callG_N {N : Nat} {g : FuncId} {argv : List AV} {d : Option Tmp} {a : Array Oper} {rest : List Oper} {k : List Fr} {s : St} {K : AExit → St → Prop} (hL : L ≤ N)
    (h : ACallN P N g s.mem argv (fun x m => go P T L (.ops a rest :: k) ((⟨cutVs (fun b => decide (b < N)) s.tmps, m⟩ : St).put d x) K)) : callG P T L g argv d a rest k s K := .inr (.inl ⟨_, fun b hb => by simp; omega, h.toX⟩)
theorem callG_A {g : FuncId} {argv : List AV} {d : Option Tmp} {a : Array Oper} {rest : List Oper} {k : List Fr} {s : St} {K : AExit → St → Prop}
    (h : ACall P g s.mem argv (fun x m => go P T L (.ops a rest :: k) (({ s with mem := m } : St).put d x) K)) : callG P T L g argv d a rest k s K := .inl h

/-- A function's contract on blocks that are handed over, those from N on growing. -/
theorem acallN_go (hT : TyOk P T) {g : FuncId} {fn : Func} {c : Code} (hf : P.funcs[g]? = some fn) (hb : fn.body = some c) (hname : (fn.name == "runtime.NumGoroutine") = false)
    {N : Nat} {m : List AB} (hN : N ≤ m.length) {args : List AV} {R : AV → List AB → Prop} (h : ∀ K, (∀ e s, retK P T fn m.length R e s → K e s) → go P T N [.code c] ⟨args ++ List.replicate (fn.ntmps - args.length) .any, m⟩ K) : ACallN P N g m args R := by
  have h2 : codeW P T N c ⟨args ++ List.replicate (fn.ntmps - args.length) .any, m⟩ (retK P T fn m.length R) := h _ (fun e s hh => hh)
  exact acallN_of_asem0 hT hf hb hname hN fun n => codeW_sound hT c _ _ h2 Fence.wide n (.inl rfl)

theorem callG_X {kp : Nat → Bool} {g : FuncId} {argv : List AV} {d : Option Tmp} {a : Array Oper} {rest : List Oper} {k : List Fr} {s : St} {K : AExit → St → Prop} (hL : ∀ b, b < L → kp b = true)
    (h : ACallX P kp g s.mem argv (fun x m => go P T L (.ops a rest :: k) ((⟨cutVs kp s.tmps, m⟩ : St).put d x) K)) : callG P T L g argv d a rest k s K := .inr (.inl ⟨_, hL, h⟩)
theorem ACall.toX {g : FuncId} {m : List AB} {args : List AV} {K : AV → List AB → Prop} (h : ACall P g m args K) : ACallX P (fun _ => true) g m args K :=
  ⟨h.1, fun Hd ι w vs hR => (h.2 Hd ι w vs hR).mono fun e w' ⟨y, x, ι', m', h1, h2, h3, h4⟩ => ⟨y, x, ι', m', h1, h2, h3 0, fun b o _ ho => (h3 (b + 1)).keep b o (Nat.lt_succ_self b) ho, h4⟩⟩
/-- A row of ours is given up before the call: whoever names it holds a slice that nobody changes. -/
theorem ACallX.shut {kp : Nat → Bool} {g : FuncId} {m : List AB} {args : List AV} {K : AV → List AB → Prop} (b : Nat) (h : ACallX P kp g ((m.map (AB.shut m b)).set b .gone) (shutVs m b args) K) : ACallX P (fun c => kp c && c != b) g m args K := by
  refine ⟨h.1, fun Hd ι w vs hR => ?_⟩
  have hS := Rel.shut (L := 0) hR b (Nat.zero_le _)
  obtain ⟨hR1, hE1⟩ := hS
  refine (h.2 Hd (ι.set b none) w vs hR1).mono ?_
  rintro e w' ⟨y, x, ι', m', rfl, h1, h2, h3, h4⟩
  refine ⟨y, x, ι', m', rfl, h1, hE1.trans h2, fun c o hc ho => h3 c o ?_ ?_, h4⟩
  · simp only [Bool.and_eq_true] at hc; exact hc.1
  · simp only [Bool.and_eq_true, bne_iff_ne, ne_eq] at hc
    rw [List.getElem?_set_ne (Ne.symm hc.2)]; exact ho

/-- The closure's own blocks, between two yields to it. -/
def CJ (N : Nat) (Hd0 : Nat → Prop) (ι0 : Loc) (w0 : World) (ccaps : List AV) (cvs : List Value) (Live Stop : List (List AV) → List AB → Prop) (g : List (List AV) × Bool) (Hd : Nat → Prop) (ι : Loc) (w : World) : Prop :=
  (∀ r : Nat, some r ∈ ι → w0.heap.size ≤ r ∧ r < w.heap.size) ∧
  ∃ ιc m, (∀ r, Hd r ↔ (Hd0 r ∨ some r ∈ ιc)) ∧ Ext N ι0 w0 ιc w ∧ Rel (fun r => Hd0 r ∨ some r ∈ ι) 0 ιc ⟨ccaps, m⟩ ⟨cvs.toArray, []⟩ w ∧ ((g.2 = false ∧ Live g.1 m) ∨ (g.2 = true ∧ Stop g.1 m))

section
variable {N : Nat} {Hd0 : Nat → Prop} {ι0 : Loc} {w0 : World} {ccaps : List AV} {cvs : List Value} {Live Stop : List (List AV) → List AB → Prop} {g : List (List AV) × Bool} {ι ι' : Loc} {w w' : World}

theorem CJ.ext (h : CJ N Hd0 ι0 w0 ccaps cvs Live Stop g Hd ι w) (hH : ∀ r, Hd0 r → r < w0.heap.size) (e : Ext 0 ι w ι' w') (hl : ∀ r : Nat, some r ∈ ι' → r < w'.heap.size) : CJ N Hd0 ι0 w0 ccaps cvs Live Stop g Hd ι' w' := by
  obtain ⟨h1, ιc, m, h3, h4, h5, h6⟩ := h
  have hsz := h4.size
  have old : ∀ r, r < w0.heap.size → some r ∉ ι' ∧ w'.heap[r]? = w.heap[r]? := fun r hr =>
    e.imm r (by omega) (fun hh => by have := (h1 r hh).1; omega)
  refine ⟨fun r hr => ⟨?_, hl r hr⟩, ιc, m, h3, ?_, ?_, h6⟩
  · apply Nat.le_of_not_lt
    intro hlt'
    exact (old r hlt').1 hr
  · exact ⟨e.os.trans h4.os, e.tape.trans h4.tape, e.output.trans h4.output, Nat.le_trans h4.size e.size,
      fun r hr hn => ⟨(h4.imm r hr hn).1, (old r hr).2.trans (h4.imm r hr hn).2⟩, fun r hr => (e.shape r (by omega)).trans (h4.shape r hr), h4.keep⟩
  · refine h5.yld ⟨e.os, e.tape, e.output, e.size, ?_, ?_, e.shape⟩
    · intro r hr hn
      have hni : some r ∉ ι := fun hh => hn (.inr hh)
      refine ⟨?_, (e.imm r hr hni).2⟩
      rintro (hh | hh)
      · exact hn (.inl hh)
      · exact (e.imm r hr hni).1 hh
    · rintro r (hh | hh)
      · have := hH r hh; have := e.size; omega
      · exact hl r hh

theorem CJ.leave (h : CJ N Hd0 ι0 w0 ccaps cvs Live Stop g Hd ι w) (hs : Same w w') (hb : ∀ r, r < w0.heap.size → w'.heap[r]? = w.heap[r]?) (h1 : w'.os = w.os) (h2 : w'.tape = w.tape) (h3 : w'.output = w.output)
    (h4 : ∀ r, w'.shape? r = w.shape? r) : CJ N Hd0 ι0 w0 ccaps cvs Live Stop g Hd ι w' := by
  obtain ⟨k1, ιc, m, k3, k4, k5, k6⟩ := h
  refine ⟨fun r hr => ⟨(k1 r hr).1, by rw [hs.size]; exact (k1 r hr).2⟩, ιc, m, k3, ?_, k5.same hs, k6⟩
  exact ⟨h1.trans k4.os, h2.trans k4.tape, h3.trans k4.output, by rw [hs.size]; exact k4.size, fun r hr hn => ⟨(k4.imm r hr hn).1, (hb r hr).trans (k4.imm r hr hn).2⟩, fun r hr => (h4 r).trans (k4.shape r hr), k4.keep⟩
end

/-- An iterator that is called with a closure. -/
theorem acall_iter {N : Nat} {gf cl : FuncId} {caps ccaps : List AV} {full : List (List AV)} (hc : ICall P gf caps full) {m : List AB} {K : AV → List AB → Prop} {α : Type} (Inv : List (List AV) → α → Prop) (mem : α → List AB) (Stop : List (List AV) → List AB → Prop) (x0 : α)
    (h0 : m = mem x0) (hi : Inv [] x0) (hcp : pureAll caps = true) (hcN : (bksAll ccaps).all (fun b => decide (b < N)) = true)
    (hr : ∀ xs x a, (xs ++ [x]) <+: full → Inv xs a → ACallN P N cl (mem a) (x ++ ccaps) (fun r m' => (r = .v (.bool true) ∧ ∃ a', Inv (xs ++ [x]) a' ∧ m' = mem a') ∨ (r = .v (.bool false) ∧ Stop (xs ++ [x]) m')))
    (hd : ∀ a, Inv full a → K .any (mem a)) (hs : ∀ xs m', xs <+: full → Stop xs m' → K .any m') : ACallN P N gf m (.fn cl ccaps :: caps) K := by
  refine ⟨hc.1, fun Hd ι w vs hR => ?_⟩
  obtain ⟨y, vs', hvs, hy, hcr⟩ := hR.tmps
  obtain rfl : vs = y :: vs' := by simpa using hvs
  obtain ⟨cvs, rfl, hcc⟩ := hy
  have hcpu := pureAll_refs hcr hcp
  have hH0 : ∀ r, Hd r → r < w.heap.size := fun r hr => (hR.hid r hr).1
  let Live : List (List AV) → List AB → Prop := fun xs m => ∃ a', Inv xs a' ∧ m = mem a'
  let Yr : Yie P 0 (itAl full) itAn (.func (.func cl) #[] cvs.toArray) := {
    J := CJ N Hd ι w ccaps cvs Live Stop
    ext := fun h e hl => h.ext hH0 e hl
    B0 := w.heap.size
    leave := fun h hs hb h1 h2 h3 h4 => h.leave hs hb h1 h2 h3 h4
    ok := by
      intro g2 x2 Hd2 ι2 w2 vs2 hal hJ2 hx2 hid2 hlt2 o c f2 a2 n2 next2 Q2 hoc hcf hev hargs hnext
      obtain ⟨xs, st⟩ := g2
      obtain ⟨hst, hpre, hpu⟩ := hal
      simp only at hst hpre
      subst hst
      obtain ⟨j1, ιc, m2, j3, j4, j5, j6⟩ := hJ2
      obtain ⟨a', hia, rfl⟩ : Live xs m2 := by
        rcases j6 with ⟨_, h⟩ | ⟨h, _⟩
        · exact h
        · cases h
      obtain ⟨⟨cfn, hcf1, hcb, hcn⟩, hcall⟩ := hr xs x2 a' hpre hia
      have hxc : rels (fun r => Hd r ∨ some r ∈ ι2) ιc w2 x2 vs2 := rels_free (fun r hi => by
        refine ⟨hi.1, fun hh => hi.2.2 ((j3 r).2 (.inr hh)), ?_⟩
        rintro (hh | hh)
        · exact hi.2.2 ((j3 r).2 (.inl hh))
        · exact hi.2.1 hh) x2 vs2 hpu hx2
      have hcc2 : rels (fun r => Hd r ∨ some r ∈ ι2) ιc w2 ccaps cvs := by simpa using j5.tmps
      have hcall2 := hcall _ ιc w2 (vs2 ++ cvs) ⟨j5.len, j5.lt, j5.inj, by simpa using rels_append hxc hcc2, j5.mem, ⟨[], rfl, List.nodup_nil, fun r hr => by cases hr⟩, j5.hid, j5.glob⟩
      have hrun : (execOp a2.eval o).run P w2 = .ok (.enter cl (vs2 ++ cvs).toArray) w2 := by
        have harr : c.args.map a2.eval ++ cvs.toArray = (vs2 ++ cvs).toArray := by rw [← hargs]; apply Array.ext'; simp
        unfold execOp
        simp only [hoc, resolve, hcf, hev, Deferred.ofValue, Sem.run_bind, Sem.run_pure, Result.andThen_ok, invoke, Array.empty_append, callFunc, run_program, hcf1, hcn, hcb, Bool.false_eq_true, if_false, harr]
      refine ⟨fun _ _ => True.intro, ?_⟩
      rw [Oper.semAt_eq _ _ _ (by rw [hoc]; intro c; exact fun h => by cases h), hrun, Oper.uponIn_enter]
      refine ⟨(fun hd => by cases hd), (Wide.callsIn (F := Fence.wide) (.inl rfl) hcall2).mono ?_⟩
      rintro e w3 ⟨y3, r3, ι3, m3, rfl, hR3, hE3, hK3⟩
      obtain ⟨y4, z4, e1, hry, rfl⟩ := hR3.tmps
      simp only [List.cons.injEq] at e1
      obtain ⟨rfl, _⟩ := e1
      have hE0 := hE3
      have hJ3 : ∀ b, (b = true → Live (xs ++ [x2]) m3) → (b = false → Stop (xs ++ [x2]) m3) → CJ N Hd ι w ccaps cvs Live Stop (itAn (xs, false) x2 b) (fun r => Hd r ∨ some r ∈ ι3) ι2 w3 := by
        intro b hb1 hb2
        refine ⟨fun r hr => ⟨(j1 r hr).1, Nat.lt_of_lt_of_le (j1 r hr).2 hE0.size⟩, ι3, m3, fun r => Iff.rfl, j4.trans hE3, ⟨hR3.len, hR3.lt, hR3.inj, ?_, hR3.mem, ⟨[], rfl, List.nodup_nil, fun r hr => by cases hr⟩, hR3.hid, hR3.glob⟩, ?_⟩
        · have hk : ∀ b ∈ refsAll ccaps, ∀ o, ιc[b]? = some o → ι3[b]? = some o := fun b hb o ho => hE3.keep b o (by simpa using List.all_eq_true.1 hcN b (refsAll_bks _ _ hcc2 b hb)) ho
          simpa using rels_ext hE0 j5.lt _ _ hk hcc2
        · cases b with
          | true => exact .inl ⟨rfl, hb1 rfl⟩
          | false => exact .inr ⟨rfl, hb2 rfl⟩
      have hY : Yld Hd2 (fun r => Hd r ∨ some r ∈ ι3) w2 w3 := by
        refine ⟨hE0.os, hE0.tape, hE0.output, hE0.size, ?_, ?_, hE0.shape⟩
        · intro r h1 h2
          have n1 : some r ∉ ιc := fun hh => h2 ((j3 r).2 (.inr hh))
          refine ⟨?_, (hE0.imm r h1 n1).2⟩
          rintro (hh | hh)
          · exact h2 ((j3 r).2 (.inl hh))
          · exact (hE0.imm r h1 n1).1 hh
        · rintro r (hh | hh)
          · have := hH0 r hh; have := j4.size; have := hE0.size; omega
          · exact hR3.lt r hh
      rcases hK3 with ⟨rfl, hl⟩ | ⟨rfl, hs⟩
      · obtain rfl : y3 = .bool true := hry
        exact hnext true _ w3 hY (hJ3 true (fun _ => hl) (fun h => by cases h))
      · obtain rfl : y3 = .bool false := hry
        exact hnext false _ w3 hY (hJ3 false (fun h => by cases h) (fun _ => hs)) }
  have hJ1 : Yr.J ([], false) (fun r => Hd r ∨ some r ∈ ι) [] w := by
    show CJ N Hd ι w ccaps cvs Live Stop ([], false) _ [] w
    refine ⟨(fun r hr => by cases hr), ι, mem x0, fun r => Iff.rfl, Ext.refl _ _, ?_, .inl ⟨rfl, ⟨x0, hi, rfl⟩⟩⟩
    have hR0 : Rel Hd 0 ι ⟨ccaps, mem x0⟩ ⟨cvs.toArray, []⟩ w := ⟨by rw [← h0]; exact hR.len, hR.lt, hR.inj, by simpa using hcc, by rw [← h0]; exact hR.mem, hR.marks, hR.hid, hR.glob⟩
    refine hR0.yld ⟨rfl, rfl, rfl, Nat.le_refl _, fun r _ hn => ⟨?_, rfl⟩, ?_, fun _ _ => rfl⟩
    · rintro (hh | hh)
      · exact hn hh
      · cases hh
    · rintro r (hh | hh)
      · exact hH0 r hh
      · cases hh
  have hcaps : rels (fun r => Hd r ∨ some r ∈ ι) [] w caps vs' := rels_free (fun r hi2 => ⟨hi2.1, by simp, fun hh => hh.elim hi2.2.2 hi2.2.1⟩) caps vs' hcpu hcr
  have hcall1 := hc.2 _ Yr _ w vs' (Nat.le_refl _) (fun r hh => hh.elim (hH0 r) (hR.lt r)) (hR.glob.free fun r hi2 => ⟨hi2.1, by simp, fun hh => hh.elim hi2.2.2 hi2.2.1⟩) hcaps hJ1
  refine hcall1.mono ?_
  rintro e w' ⟨v, g', Hd', ι', rfl, hJ', hpre, hfull⟩
  obtain ⟨k1, ιc, m2, k3, k4, k5, k6⟩ := hJ'
  have hR5 := k5.unhide (H0 := Hd) (fun r hr => .inl hr)
  have hR6 : Rel Hd 0 ιc ⟨[.any], m2⟩ ⟨#[v], []⟩ w' := ⟨hR5.len, hR5.lt, hR5.inj, ⟨v, [], rfl, True.intro, rfl⟩, hR5.mem, ⟨[], rfl, List.nodup_nil, fun r hr => by cases hr⟩, hR5.hid, hR5.glob⟩
  refine ⟨v, .any, ιc, m2, rfl, hR6, k4, ?_⟩
  rcases k6 with ⟨q1, a', q2, rfl⟩ | ⟨q1, q2⟩
  · rw [hfull q1] at q2
    exact hd a' q2
  · exact hs _ _ hpre q2
end Go.Proofs.Ytfkpjdcjjfpigaa.Sym
