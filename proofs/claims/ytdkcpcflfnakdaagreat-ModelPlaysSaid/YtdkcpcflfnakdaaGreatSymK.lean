/- A text of the walk that proves a law of this seat; joined by a program. -/
import Derived.Test.YtdkcpcflfnakdaaGreatSymJ
set_option linter.unusedSimpArgs false
set_option linter.unusedVariables false
namespace Go.Proofs.YtdkcpcflfnakdaaGreat.Sym
open Go Go.RowKit
variable {L : Nat} {Hd : Nat → Prop}
variable {Hd' : Nat → Prop} {K : AV → List AB → Prop} {N : Nat} {P : Program} {T : TypeId → Option TI} {args : List AV} {c : Code} {fn : Func} {g : FuncId} {m : List AB} {w w' : World} {ι ι' : Loc}
theorem Same.refl (w : World) : Same w w := ⟨rfl, fun _ _ _ _ h => h⟩
theorem Same.cell (h : Same w w') {r o : Nat} {v : Value} (hc : w.cell? ⟨r, o, none⟩ = some v) : w'.cell? ⟨r, o, none⟩ = some v := by
  simp only [World.cell?] at hc ⊢
  cases hr : w.heap[r]? with
  | none => simp [hr] at hc
  | some ob =>
    cases ob with
    | cells c t f => rw [h.cells r c t f hr]; rw [hr] at hc; exact hc
    | _ => rw [hr] at hc; cases hc
mutual
theorem rel_same (e : Same w w') : ∀ (x : AV) (y : Value), rel Hd ι w x y → rel Hd ι w' x y
  | .v _, _, h => h
  | .agg xs, _, h => by obtain ⟨vs, rfl, h⟩ := h; exact ⟨vs, rfl, q46 e xs vs h⟩
  | .tup xs, _, h => by obtain ⟨vs, rfl, h⟩ := h; exact ⟨vs, rfl, q46 e xs vs h⟩
  | .sl sz xs, _, h => by
    obtain ⟨hp, a, cap, vs, rfl, hc, h, hm⟩ := h
    refine ⟨hp, a, cap, vs, rfl, hc, q46 e xs vs h, hm.imp id ?_⟩
    rintro ⟨r, off, rfl, hi, hr⟩
    exact ⟨r, off, rfl, ⟨by rw [e.size]; exact hi.1, hi.2⟩, hr.1, fun i hl => e.cell (hr.2.1 i hl), hr.2.2⟩
  | .rp cs, _, h => by
    obtain ⟨hp, r, off, vs, rfl, hi, h, hc⟩ := h
    exact ⟨hp, r, off, vs, rfl, ⟨by rw [e.size]; exact hi.1, hi.2⟩, q46 e cs vs h, fun i hl => e.cell (hc i hl)⟩
  | .own b sz off len, _, h => by
    rcases h with ⟨r, cap, n, t, rfl, hc, hm, hb, hs, hn⟩ | ⟨a0, rfl, h1, h2, h3⟩
    · refine .inl ⟨r, cap, n, t, rfl, hc, hm, hb, ?_, hn⟩
      simp only [World.shape?] at hs ⊢
      cases hr : w.heap[r]? with
      | none => simp [hr] at hs
      | some ob =>
        cases ob with
        | cells c t f => rw [e.cells r c t f hr]; rw [hr] at hs; exact hs
        | _ => rw [hr] at hs; cases hs
    · exact .inr ⟨a0, rfl, h1, h2, h3⟩
  | .ptr b c, _, h => h
  | .ep b sz i c, _, h => h
  | .fn f caps, _, h => by obtain ⟨vs, rfl, h⟩ := h; exact ⟨vs, rfl, q46 e caps vs h⟩
  | .any, _, _ => True.intro
theorem q46 (e : Same w w') : ∀ (xs : List AV) (ys : List Value), rels Hd ι w xs ys → rels Hd ι w' xs ys
  | [], _, h => h
  | x :: xs, _, h => by
    obtain ⟨y, zs, rfl, h1, h2⟩ := h
    exact ⟨y, zs, rfl, rel_same e x y h1, q46 e xs zs h2⟩
end
theorem GlobOk.same (h : GlobOk Hd ι w) (e : Same w w') : GlobOk Hd ι w' :=
  ⟨fun g vs hg => ⟨⟨by rw [e.size]; exact (h.plain g vs hg).1.1, (h.plain g vs hg).1.2⟩, fun i hl => e.cell ((h.plain g vs hg).2 i hl)⟩,
    fun g vs hg => by
      obtain ⟨h1, R, o, c, h2, h3, h4⟩ := h.tab g vs hg
      exact ⟨⟨by rw [e.size]; exact h1.1, h1.2⟩, R, o, c, e.cell h2, ⟨by rw [e.size]; exact h3.1, h3.2⟩, fun i hl => e.cell (h4 i hl)⟩,
    fun g vs hg => by
      obtain ⟨h1, t, f, h2⟩ := h.whole g vs hg
      exact ⟨⟨by rw [e.size]; exact h1.1, h1.2⟩, t, f, e.cells g _ t f h2⟩⟩
theorem qa9.same {i sz : Nat} (h : qa9 ι w i sz N) (e : Same w w') : qa9 ι w' i sz N := by
  rcases h with ⟨r, t, h1, h2⟩ | h
  · refine .inl ⟨r, t, h1, ?_⟩
    unfold World.shape? at h2 ⊢
    split at h2
    · rename_i vs t' f hh
      rw [e.cells _ _ _ _ hh]
      exact h2
    · cases h2
  · exact .inr h
theorem Rel.same {B : Nat} {s : St} {a : Act} (h : Rel Hd B ι s a w) (e : Same w w') : Rel Hd 0 ι s { a with defers := [] } w' := by
  refine ⟨h.len, fun r hr => by rw [e.size]; exact h.lt r hr, h.inj, q46 e _ _ h.tmps, ?_, ⟨[], rfl, z24, fun r hr => by cases hr⟩, fun r hr => by rw [e.size]; exact h.hid r hr, h.glob.same e⟩
  intro i blk hi
  have h0 := h.mem i blk hi
  cases blk with
  | box cs =>
    obtain ⟨r, t, vs, h1, h2, h3⟩ := h0
    exact ⟨r, t, vs, h1, e.cells _ _ _ _ h2, q46 e _ _ h3⟩
  | row t sz xs =>
    obtain ⟨hp, h0⟩ := h0
    refine ⟨hp, ?_⟩
    rcases h0 with ⟨r, cells, vs, h1, h2, h3, h4⟩ | ⟨h1, h2⟩
    · exact .inl ⟨r, cells, vs, h1, e.cells _ _ _ _ h2, q46 e _ _ h3, h4.1, fun i hl => e.cell (h4.2.1 i hl), h4.2.2⟩
    · exact .inr ⟨h1, h2⟩
  | rowc t sz xs N =>
    obtain ⟨⟨hp, h0⟩, hcap⟩ := h0
    refine ⟨⟨hp, ?_⟩, hcap.same e⟩
    rcases h0 with ⟨r, cells, vs, h1, h2, h3, h4⟩ | ⟨h1, h2⟩
    · exact .inl ⟨r, cells, vs, h1, e.cells _ _ _ _ h2, q46 e _ _ h3, h4.1, fun i hl => e.cell (h4.2.1 i hl), h4.2.2⟩
    · exact .inr ⟨h1, h2⟩
  | gone => exact True.intro
  | tr _ _ => exact True.intro
theorem qkm {F : Fence} {n : Nat} {P : Program} {fn : Func} {tmps : Array Value} {R : Ending → World → Prop} {B : Nat} {ι : Loc} : ∀ (rs : List Nat) (w : World), rs.Nodup →
    (∀ r ∈ rs, B ≤ r ∧ Imm Hd ι w r ∧ w.heap[r]? = some (.deferred (some []))) →
    (∀ w', Same w w' → (∀ r, r < B → w'.heap[r]? = w.heap[r]?) → w'.os = w.os → w'.tape = w.tape → w'.output = w.output → (∀ r, w'.shape? r = w.shape? r) → ∃ v, (results fn tmps).run P w' = .ok v w' ∧ R (.returned v) w') →
    LeavesInM F n P fn tmps R (rs.map (fun r => { target := .collected r, args := #[] })) .returning w
  | [], w, _, _, h => h w (Same.refl w) (fun _ _ => rfl) rfl rfl rfl (fun _ => rfl)
  | r :: rs, w, hnd, hrs, h => by
    obtain ⟨h1, h2, h3⟩ := hrs r (by simp)
    refine ⟨(by intro hh; cases hh), .inl ⟨r, q0m w r (.deferred none), rfl, ?_, ?_⟩⟩
    · simp [Instr.takeDeferred, z0s, getObj, setObj, Sem.run, h3, Result.andThen, q0m]
    · have hlt := q26 h3
      have hs : Same w (q0m w r (.deferred none)) := ⟨by simp [q0m], fun r' c t f hc => by
        rw [q1c (by rintro rfl; rw [h3] at hc; cases hc)]; exact hc⟩
      have hsh : ∀ r', (q0m w r (.deferred none)).shape? r' = w.shape? r' := fun r' => by
        by_cases e : r = r'
        · subst e; simp only [World.shape?, q1i hlt, h3]
        · simp only [World.shape?, q1c e]
      refine qkm (B := B) (ι := ι) rs _ (z3h.1 hnd).2 ?_ ?_
      · intro r' hr'
        obtain ⟨k1, k2, k3⟩ := hrs r' (by simp [hr'])
        have hne : r ≠ r' := by rintro rfl; exact (z3h.1 hnd).1 hr'
        exact ⟨k1, ⟨by rw [hs.size]; exact k2.1, k2.2⟩, by rw [q1c hne]; exact k3⟩
      · intro w' e1 e2 e3 e4 e5 e6
        exact h w' ⟨e1.size.trans hs.size, fun r' c t f hc => e1.cells _ _ _ _ (hs.cells _ _ _ _ hc)⟩ (fun r' hr' => (e2 r' hr').trans (q1c (by omega))) e3 e4 e5 (fun r' => (e6 r').trans (hsh r'))
def qf8 (tmps : Array Value) : ResultVar → Sem Value
  | .tmp t => pure (tmps.getD t undef)
  | .cell a t => do loadVar t (← asAddr (tmps.getD a undef))
theorem qbr (hT : TyOk P T) {s : St} {a : Act} (h : Rel Hd 0 ι s a w) : ∀ (rs : List ResultVar) (K : List AV → Prop), ares P T s rs K →
    ∃ xs vs, (rs.mapM (qf8 a.tmps)).run P w = .ok vs w ∧ rels Hd ι w xs vs ∧ K xs
  | [], K, hK => ⟨[], [], by simp, rfl, hK⟩
  | .tmp t :: rest, K, hK => by
    obtain ⟨xs, vs, h1, h2, h3⟩ := qbr hT h rest _ hK
    have := qaz t h.tmps
    refine ⟨s.tmps.getD t .any :: xs, a.tmps.getD t undef :: vs, ?_, ⟨_, _, rfl, ?_, h2⟩, h3⟩
    · simp only [z5x, qf8, z0s, z15, z0b, h1]
    · simpa using this
  | .cell b t :: rest, K, hK => by
    have hb := qaz b h.tmps
    have hb' : rel Hd ι w (s.tmps.getD b .any) (a.tmps.getD b undef) := by simpa using hb
    obtain ⟨x, y, k1, k2, k3⟩ := qi4 hT h hb' hK
    obtain ⟨xs, vs, h1, h2, h3⟩ := qbr hT h rest _ k3
    refine ⟨x :: xs, y :: vs, ?_, ⟨y, vs, rfl, k2, h2⟩, h3⟩
    have hadr : ∃ ad, a.tmps.getD b undef = .pointer (some ad) := by
      generalize a.tmps.getD b undef = pv at k1
      cases pv with
      | pointer o =>
        cases o with
        | some ad => exact ⟨ad, rfl⟩
        | none => simp [Instr.loadAt, Instr.sureAddr] at k1
      | _ => simp [Instr.loadAt, Instr.sureAddr] at k1
    obtain ⟨ad, had⟩ := hadr
    rw [had] at k1
    have k1' : (loadVar t ad).run P w = .ok y w := by simpa [Instr.loadAt, Instr.sureAddr] using k1
    simp only [z5x, qf8, z0s, z15, z0b, had, asAddr, k1', h1]
def qa7 (P : Program) (L : Nat) (c : Code) (s : St) (K : AExit → St → Prop) : Prop :=
  ∀ (n : Nat) (Hd : Nat → Prop) (B : Nat) (ι : Loc) (a : Act) (w : World), B ≤ w.heap.size → Rel Hd B ι s a w → ∀ Q : Exit → Act → World → Prop,
    (∀ e s' ι' a' w', K e s' → Rel Hd B ι' s' a' w' → Ext L ι w ι' w' → Q e.to a' w') → c.wpIn Fence.wide n P Q a w
theorem q9z (hT : TyOk P T) (hf : P.funcs[g]? = some fn) (hb : fn.body = some c) (hname : (fn.name == "runtime.NumGoroutine") = false) (h : qa7 P m.length c ⟨args ++ List.replicate (fn.ntmps - args.length) .any, m⟩ (retK P T fn m.length K)) : ACall P g m args K := by
  refine ⟨⟨fn, hf, by rw [hb]; rfl, hname⟩, fun Hd ι w vs hR => ?_⟩
  have hlen := q0h hR.tmps
  have hlen' : args.length = vs.length := by simpa using hlen
  have hR0 : Rel Hd w.heap.size ι ⟨args ++ List.replicate (fn.ntmps - args.length) .any, m⟩ { tmps := vs.toArray ++ Array.replicate (fn.ntmps - vs.toArray.size) undef, defers := [] } w := by
    refine ⟨hR.len, hR.lt, hR.inj, ?_, hR.mem, ⟨[], rfl, z24, fun r hr => by cases hr⟩, hR.hid, hR.glob⟩
    have h1 : rels Hd ι w args vs := by simpa using hR.tmps
    have h2 := q2x (Hd := Hd) (ι := ι) (w := w) (ys := List.replicate (fn.ntmps - args.length) undef)
    rw [z29] at h2
    have := q13 h1 h2
    simpa [hlen'] using this
  refine callsIn_wide.1 (callsIn_of_wp_marks (F := Fence.wide) (n := 0) hf hb True.intro ?_ rfl)
  refine h 0 Hd w.heap.size ι _ w (z09 _) hR0 _ ?_
  intro e s' ι' a' w' hK hR' hE
  have way : ∀ (hK' : ares P T s' fn.results.toList fun xs => ∃ m', (St.trunc ⟨[AV.ofResults xs], s'.mem⟩ m.length).mem = m' ∧ ∃ x, (St.trunc ⟨[AV.ofResults xs], s'.mem⟩ m.length).tmps = [x] ∧ K x m'),
      LeavesInM Fence.wide 0 P fn a'.tmps (fun e w' => ∃ y x ι' m', e = .returned y ∧ Rel Hd 0 ι' ⟨[x], m'⟩ ⟨#[y], []⟩ w' ∧ (∀ L, Ext L ι w ι' w') ∧ K x m') a'.defers .returning w' := by
    intro hK'
    obtain ⟨rs, hd, hnd, hrs⟩ := hR'.marks
    rw [hd]
    refine qkm rs w' hnd hrs ?_
    intro w2 e1 e2 e3 e4 e5 e6
    have hR2 := hR'.same e1
    obtain ⟨xs, ys, k1, k2, m', hm', x, hx, hK2⟩ := qbr hT hR2 fn.results.toList _ hK'
    have hres : ∃ y, (results fn a'.tmps).run P w2 = .ok y w2 ∧ rel Hd ι' w2 (AV.ofResults xs) y := by
      have hm : (fn.results.mapM (qf8 a'.tmps)).run P w2 = .ok ys.toArray w2 := by
        rw [← z1s (xs := fn.results), z5l]
        simp only [Sem.run_map]
        rw [k1]; rfl
      have hr : (results fn a'.tmps).run P w2 = .ok (if h : ys.toArray.size = 1 then ys.toArray[0] else .tuple ys.toArray) w2 := by
        have e0 : results fn a'.tmps = (fn.results.mapM (qf8 a'.tmps)) >>= fun vs => pure (if h : vs.size = 1 then vs[0] else .tuple vs) := by
          unfold results
          congr 1
        rw [e0, z0s, hm]
        rfl
      refine ⟨_, hr, ?_⟩
      cases xs with
      | nil => cases k2; exact ⟨[], rfl, rfl⟩
      | cons x1 xs =>
        obtain ⟨y1, zs, rfl, q1, q2⟩ := k2
        cases xs with
        | nil => cases q2; exact q1
        | cons x2 xs =>
          have hz := q0h q2
          rw [dif_neg (by simp only [z2d, z02] at hz ⊢; omega)]
          exact ⟨_, rfl, y1, zs, rfl, q1, q2⟩
    obtain ⟨y, hr, hy⟩ := hres
    refine ⟨y, hr, y, x, ι'.take m.length, m', rfl, ?_, ?_, hK2⟩
    · have hR3 : Rel Hd 0 ι' ⟨[AV.ofResults xs], s'.mem⟩ ⟨#[y], []⟩ w2 := ⟨hR2.len, hR2.lt, hR2.inj, ⟨y, [], rfl, hy, rfl⟩, hR2.mem, ⟨[], rfl, z24, fun r hr => by cases hr⟩, hR2.hid, hR2.glob⟩
      have hR4 := (hR3.trunc (L := 0) m.length (z00 _)).1
      have e7 : St.trunc ⟨[AV.ofResults xs], s'.mem⟩ m.length = ⟨[x], m'⟩ := by
        rw [← hm', ← hx]
      rw [e7] at hR4
      exact hR4
    · intro L'
      have hι : ∀ (b : Nat) (o : Option Nat), ι[b]? = some o → (ι'.take m.length)[b]? = some o := by
        intro b o ho
        have hbl : b < m.length := by rw [← hR.len]; exact (z08.1 ho).1
        rw [q2f hbl]
        exact hE.keep b o hbl ho
      refine ⟨e3.trans hE.os, e4.trans hE.tape, e5.trans hE.output, by rw [e1.size]; exact hE.size, fun r hr hn => ⟨fun hh => (hE.imm r hr hn).1 (z1c hh), (e2 r hr).trans (hE.imm r hr hn).2⟩, fun r hr => (e6 r).trans (hE.shape r hr), fun b o _ ho => hι b o ho⟩
  cases e with
  | normal => exact way hK
  | exit id => exact hK.elim
  | ret => exact way hK
theorem qcr (hT : TyOk P T) (hf : P.funcs[g]? = some fn) (hb : fn.body = some c) (hname : (fn.name == "runtime.NumGoroutine") = false) {M : Nat} (hN : N ≤ m.length) (hM : m.length ≤ M) (h : qa7 P N c ⟨args ++ List.replicate (fn.ntmps - args.length) .any, m⟩ (retK P T fn M K)) : q0j P N g m args K := by
  refine ⟨⟨fn, hf, by rw [hb]; rfl, hname⟩, fun Hd ι w vs hR => ?_⟩
  have hlen := q0h hR.tmps
  have hlen' : args.length = vs.length := by simpa using hlen
  have hR0 : Rel Hd w.heap.size ι ⟨args ++ List.replicate (fn.ntmps - args.length) .any, m⟩ { tmps := vs.toArray ++ Array.replicate (fn.ntmps - vs.toArray.size) undef, defers := [] } w := by
    refine ⟨hR.len, hR.lt, hR.inj, ?_, hR.mem, ⟨[], rfl, z24, fun r hr => by cases hr⟩, hR.hid, hR.glob⟩
    have h1 : rels Hd ι w args vs := by simpa using hR.tmps
    have h2 := q2x (Hd := Hd) (ι := ι) (w := w) (ys := List.replicate (fn.ntmps - args.length) undef)
    rw [z29] at h2
    have := q13 h1 h2
    simpa [hlen'] using this
  refine callsIn_wide.1 (callsIn_of_wp_marks (F := Fence.wide) (n := 0) hf hb True.intro ?_ rfl)
  refine h 0 Hd w.heap.size ι _ w (z09 _) hR0 _ ?_
  intro e s' ι' a' w' hK hR' hE
  have way : ∀ (hK' : ares P T s' fn.results.toList fun xs => ∃ m', (St.trunc ⟨[AV.ofResults xs], s'.mem⟩ M).mem = m' ∧ ∃ x, (St.trunc ⟨[AV.ofResults xs], s'.mem⟩ M).tmps = [x] ∧ K x m'),
      LeavesInM Fence.wide 0 P fn a'.tmps (fun e w' => ∃ y x ι' m', e = .returned y ∧ Rel Hd 0 ι' ⟨[x], m'⟩ ⟨#[y], []⟩ w' ∧ Ext N ι w ι' w' ∧ K x m') a'.defers .returning w' := by
    intro hK'
    obtain ⟨rs, hd, hnd, hrs⟩ := hR'.marks
    rw [hd]
    refine qkm rs w' hnd hrs ?_
    intro w2 e1 e2 e3 e4 e5 e6
    have hR2 := hR'.same e1
    obtain ⟨xs, ys, k1, k2, m', hm', x, hx, hK2⟩ := qbr hT hR2 fn.results.toList _ hK'
    have hres : ∃ y, (results fn a'.tmps).run P w2 = .ok y w2 ∧ rel Hd ι' w2 (AV.ofResults xs) y := by
      have hm : (fn.results.mapM (qf8 a'.tmps)).run P w2 = .ok ys.toArray w2 := by
        rw [← z1s (xs := fn.results), z5l]
        simp only [Sem.run_map]
        rw [k1]; rfl
      have hr : (results fn a'.tmps).run P w2 = .ok (if h : ys.toArray.size = 1 then ys.toArray[0] else .tuple ys.toArray) w2 := by
        have e0 : results fn a'.tmps = (fn.results.mapM (qf8 a'.tmps)) >>= fun vs => pure (if h : vs.size = 1 then vs[0] else .tuple vs) := by
          unfold results
          congr 1
        rw [e0, z0s, hm]
        rfl
      refine ⟨_, hr, ?_⟩
      cases xs with
      | nil => cases k2; exact ⟨[], rfl, rfl⟩
      | cons x1 xs =>
        obtain ⟨y1, zs, rfl, q1, q2⟩ := k2
        cases xs with
        | nil => cases q2; exact q1
        | cons x2 xs =>
          have hz := q0h q2
          rw [dif_neg (by simp only [z2d, z02] at hz ⊢; omega)]
          exact ⟨_, rfl, y1, zs, rfl, q1, q2⟩
    obtain ⟨y, hr, hy⟩ := hres
    refine ⟨y, hr, y, x, ι'.take M, m', rfl, ?_, ?_, hK2⟩
    · have hR3 : Rel Hd 0 ι' ⟨[AV.ofResults xs], s'.mem⟩ ⟨#[y], []⟩ w2 := ⟨hR2.len, hR2.lt, hR2.inj, ⟨y, [], rfl, hy, rfl⟩, hR2.mem, ⟨[], rfl, z24, fun r hr => by cases hr⟩, hR2.hid, hR2.glob⟩
      have hR4 := (hR3.trunc (L := 0) M (z00 _)).1
      have e7 : St.trunc ⟨[AV.ofResults xs], s'.mem⟩ M = ⟨[x], m'⟩ := by
        rw [← hm', ← hx]
      rw [e7] at hR4
      exact hR4
    · have hι : ∀ (b : Nat) (o : Option Nat), b < N → ι[b]? = some o → (ι'.take M)[b]? = some o := by
        intro b o hb ho
        rw [q2f (z10 (z10 hb hN) hM)]
        exact hE.keep b o hb ho
      exact ⟨e3.trans hE.os, e4.trans hE.tape, e5.trans hE.output, by rw [e1.size]; exact hE.size, fun r hr hn => ⟨fun hh => (hE.imm r hr hn).1 (z1c hh), (e2 r hr).trans (hE.imm r hr hn).2⟩, fun r hr => (e6 r).trans (hE.shape r hr), hι⟩
  cases e with
  | normal => exact way hK
  | exit id => exact hK.elim
  | ret => exact way hK
theorem qk9 (hT : TyOk P T) (hf : P.funcs[g]? = some fn) (hb : fn.body = some c) (hname : (fn.name == "runtime.NumGoroutine") = false) (hN : N ≤ m.length) (h : qa7 P N c ⟨args ++ List.replicate (fn.ntmps - args.length) .any, m⟩ (retK P T fn m.length K)) : q0j P N g m args K :=
  qcr hT hf hb hname hN (z09 _) h
theorem qfg (hT : TyOk P T) (hf : P.funcs[g]? = some fn) (hb : fn.body = some c) (hname : (fn.name == "runtime.NumGoroutine") = false) (h : ASem P m.length c ⟨args ++ List.replicate (fn.ntmps - args.length) .any, m⟩ (retK P T fn m.length K)) : ACall P g m args K :=
  q9z hT hf hb hname fun n => h Fence.wide n (.inl rfl)
theorem ACall.mono {K' : AV → List AB → Prop} (h : ACall P g m args K) (hk : ∀ x m', K x m' → K' x m') : ACall P g m args K' :=
  ⟨h.1, fun Hd ι w vs hR => (h.2 Hd ι w vs hR).mono fun e w' ⟨y, x, ι', m', h1, h2, h3, h4⟩ => ⟨y, x, ι', m', h1, h2, h3, hk x m' h4⟩⟩
def q08 (P : Program) (g : FuncId) (args : List AV) (R : AV → Prop) : Prop := ACall P g [] args fun x m' => m' = [] ∧ R x
mutual
theorem q9u {Hd : Nat → Prop} (hI : ∀ r, Imm Hd ι w r → Imm Hd' ι' w r) : ∀ (x : AV) (y : Value), x.refs = [] → rel Hd ι w x y → rel Hd' ι' w x y
  | .v _, _, _, h => h
  | .agg xs, _, hp, h => by obtain ⟨vs, rfl, h⟩ := h; exact ⟨vs, rfl, q28 hI xs vs hp h⟩
  | .tup xs, _, hp, h => by obtain ⟨vs, rfl, h⟩ := h; exact ⟨vs, rfl, q28 hI xs vs hp h⟩
  | .sl sz xs, _, hp, h => by
    obtain ⟨hq, a, cap, vs, rfl, hc, h, hm⟩ := h
    exact ⟨hq, a, cap, vs, rfl, hc, q28 hI xs vs hq h, hm.imp id fun ⟨r, off, e, hi, hr⟩ => ⟨r, off, e, hI r hi, hr⟩⟩
  | .rp cs, _, hp, h => by
    obtain ⟨hq, r, off, vs, rfl, hi, h, hc⟩ := h
    exact ⟨hq, r, off, vs, rfl, hI r hi, q28 hI cs vs hq h, hc⟩
  | .own _ _ _ _, _, hp, _ => by simp [AV.refs] at hp
  | .ptr _ _, _, hp, _ => by simp [AV.refs] at hp
  | .ep _ _ _ _, _, hp, _ => by simp [AV.refs] at hp
  | .fn f caps, _, hp, h => by obtain ⟨vs, rfl, h⟩ := h; exact ⟨vs, rfl, q28 hI caps vs hp h⟩
  | .any, _, _, _ => True.intro
theorem q28 {Hd : Nat → Prop} (hI : ∀ r, Imm Hd ι w r → Imm Hd' ι' w r) : ∀ (xs : List AV) (ys : List Value), q05 xs = [] → rels Hd ι w xs ys → rels Hd' ι' w xs ys
  | [], _, _, h => h
  | x :: xs, _, hp, h => by
    obtain ⟨y, zs, rfl, h1, h2⟩ := h
    simp only [q05, z2u] at hp
    exact ⟨y, zs, rfl, q9u hI x y hp.1 h1, q28 hI xs zs hp.2 h2⟩
end
mutual
theorem qni : ∀ (x : AV) (y : Value), rel Hd [] w x y → x.refs = []
  | .v _, _, _ => rfl
  | .agg xs, _, h => by obtain ⟨vs, rfl, h⟩ := h; exact q9c xs vs h
  | .tup xs, _, h => by obtain ⟨vs, rfl, h⟩ := h; exact q9c xs vs h
  | .sl sz xs, _, h => h.1
  | .rp cs, _, h => h.1
  | .own _ _ _ _, _, h => by rcases h with ⟨r, cap, n, t, _, _, _, h, _⟩ | ⟨_, _, _, h⟩ <;> simp at h
  | .ptr _ _, _, h => by obtain ⟨r, _, h⟩ := h; simp at h
  | .ep _ _ _ _, _, h => by obtain ⟨r, _, h⟩ := h; simp at h
  | .fn f caps, _, h => by obtain ⟨vs, rfl, h⟩ := h; exact q9c caps vs h
  | .any, _, _ => rfl
theorem q9c : ∀ (xs : List AV) (ys : List Value), rels Hd [] w xs ys → q05 xs = []
  | [], _, _ => rfl
  | x :: xs, _, h => by
    obtain ⟨y, zs, rfl, h1, h2⟩ := h
    simp only [q05, qni x y h1, q9c xs zs h2, z0i]
end
theorem q08.use {R : AV → Prop} (h : q08 P g args R) (hp : q18 args = true) (hk : ∀ x, R x → K x m) : ACall P g m args K := by
  refine ⟨h.1, fun Hd ι w vs hR => ?_⟩
  have hr : rels Hd ι w args vs := by simpa using hR.tmps
  have hpu := q2o hr hp
  have hr0 : rels (fun r => Hd r ∨ some r ∈ ι) [] w args vs :=
    q28 (fun r hi => ⟨hi.1, by simp, fun hh => hh.elim hi.2.2 hi.2.1⟩) args vs hpu hr
  refine (h.2 (fun r => Hd r ∨ some r ∈ ι) [] w vs ⟨rfl, (fun r hh => by cases hh), (fun i j r hi => by simp at hi), by simpa using hr0, (fun i blk hi => by simp at hi), ⟨[], rfl, z24, fun r hr => by cases hr⟩,
    (fun r hh => ⟨hh.elim (fun h => (hR.hid r h).1) (fun h => hR.lt r h), by simp⟩), hR.glob.free (fun r hi => ⟨hi.1, by simp, fun hh => hh.elim hi.2.2 hi.2.1⟩)⟩).mono ?_
  rintro e w' ⟨y, x, ι', m', rfl, hR', hE', rfl, hx⟩
  have hι : ι' = [] := z1a (by simpa using hR'.len)
  subst hι
  obtain ⟨y', z', e1, hxy, rfl⟩ := hR'.tmps
  simp only [z0h] at e1
  obtain ⟨rfl, _⟩ := e1
  have hE0 := hE' 0
  have hxr := qni x y hxy
  have hx' : rel Hd ι w' x y := q9u (fun r hi => ⟨hi.1, fun hh => hi.2.2 (.inr hh), fun hh => hi.2.2 (.inl hh)⟩) x y hxr hxy
  have hEE : ∀ L, Ext L ι w ι w' := fun L => ⟨hE0.os, hE0.tape, hE0.output, hE0.size, fun r hr hn => ⟨hn, (hE0.imm r hr (by simp)).2⟩, hE0.shape, fun _ _ _ h => h⟩
  have hmem : ∀ r : Nat, some r ∈ ι → w'.heap[r]? = w.heap[r]? := fun r hr => (hE0.imm r (hR.lt r hr) (by simp)).2
  refine ⟨y, x, ι, m, rfl, ⟨hR.len, fun r hr => z10 (hR.lt r hr) hE0.size, hR.inj, ⟨y, [], rfl, hx', rfl⟩, ?_, ⟨[], rfl, z24, fun r hr => by cases hr⟩, hR.hidExt (hEE 0), hR.glob.ext (hEE 0)⟩, hEE, hk x hx⟩
  intro i blk hi
  exact q3o (hEE 0) hR.lt (fun _ _ x => x) (fun r hr => hmem r (z06 hr)) (hR.mem i blk hi)
mutual
def AV.plain : AV → Bool
  | .v _ => true
  | .agg xs => qci xs
  | .tup xs => qci xs
  | .any => true
  | _ => false
def qci : List AV → Bool
  | [] => true
  | x :: xs => x.plain && qci xs
end
mutual
theorem qns {Hd : Nat → Prop} : ∀ (x : AV) (y : Value), x.plain = true → rel Hd ι w x y → rel Hd' ι' w' x y
  | .v _, _, _, h => h
  | .agg xs, _, hp, h => by obtain ⟨vs, rfl, h⟩ := h; exact ⟨vs, rfl, qfa xs vs hp h⟩
  | .tup xs, _, hp, h => by obtain ⟨vs, rfl, h⟩ := h; exact ⟨vs, rfl, qfa xs vs hp h⟩
  | .any, _, _, _ => True.intro
  | .sl _ _, _, hp, _ => by simp [AV.plain] at hp
  | .rp _, _, hp, _ => by simp [AV.plain] at hp
  | .own _ _ _ _, _, hp, _ => by simp [AV.plain] at hp
  | .ptr _ _, _, hp, _ => by simp [AV.plain] at hp
  | .ep _ _ _ _, _, hp, _ => by simp [AV.plain] at hp
  | .fn _ _, _, hp, _ => by simp [AV.plain] at hp
theorem qfa {Hd : Nat → Prop} : ∀ (xs : List AV) (ys : List Value), qci xs = true → rels Hd ι w xs ys → rels Hd' ι' w' xs ys
  | [], _, _, h => h
  | x :: xs, _, hp, h => by
    obtain ⟨y, zs, rfl, h1, h2⟩ := h
    simp only [qci, z0d] at hp
    exact ⟨y, zs, rfl, qns x y hp.1 h1, qfa xs zs hp.2 h2⟩
end
theorem q08.borrow {R : AV → Prop} (h : q08 P g (q06 m 0 args) R) (hp : ∀ x, R x → x.plain = true) (hk : ∀ x, R x → K x m) : ACall P g m args K := by
  refine ⟨h.1, fun Hd ι w vs hR => ?_⟩
  have hT := (hR.trunc (L := 0) 0 (z09 _)).1
  simp only [z13] at hT
  have hr0 : rels Hd [] w (q06 m 0 args) vs := by simpa [St.trunc] using hT.tmps
  refine (h.2 Hd [] w vs ⟨rfl, (fun r hh => by cases hh), (fun i j r hi => by simp at hi), by simpa using hr0, (fun i blk hi => by simp at hi), ⟨[], rfl, z24, fun r hr => by cases hr⟩,
    (fun r hh => ⟨(hR.hid r hh).1, by simp⟩), hT.glob⟩).mono ?_
  rintro e w' ⟨y, x, ι', m', rfl, hR', hE', rfl, hx⟩
  obtain ⟨y', z', e1, hxy, rfl⟩ := hR'.tmps
  simp only [z0h] at e1
  obtain ⟨rfl, _⟩ := e1
  have hE0 := hE' 0
  have hEE : ∀ L, Ext L ι w ι w' := fun L => ⟨hE0.os, hE0.tape, hE0.output, hE0.size, fun r hr hn => ⟨hn, (hE0.imm r hr (by simp)).2⟩, hE0.shape, fun _ _ _ h => h⟩
  have hmem : ∀ r : Nat, some r ∈ ι → w'.heap[r]? = w.heap[r]? := fun r hr => (hE0.imm r (hR.lt r hr) (by simp)).2
  refine ⟨y, x, ι, m, rfl, ⟨hR.len, fun r hr => z10 (hR.lt r hr) hE0.size, hR.inj, ⟨y, [], rfl, qns x y (hp x hx) hxy, rfl⟩, ?_, ⟨[], rfl, z24, fun r hr => by cases hr⟩, hR.hidExt (hEE 0), hR.glob.ext (hEE 0)⟩, hEE, hk x hx⟩
  intro i blk hi
  exact q3o (hEE 0) hR.lt (fun _ _ x => x) (fun r hr => hmem r (z06 hr)) (hR.mem i blk hi)
mutual
theorem qot {m' : List AB} : ∀ x : AV, (∀ b ∈ bks x, m'[b]? = m[b]?) → q0e m' N x = q0e m N x
  | .v _, _ => rfl
  | .agg xs, h => by simp only [q0e]; rw [q5w xs h]
  | .tup xs, h => by simp only [q0e]; rw [q5w xs h]
  | .sl _ _, _ => rfl
  | .rp _, _ => rfl
  | .own b _ _ _, h => by simp only [q0e]; rw [h b (by simp [bks])]
  | .ptr b _, h => by simp only [q0e]; rw [h b (by simp [bks])]
  | .ep _ _ _ _, _ => rfl
  | .fn _ caps, h => by simp only [q0e]; rw [q5w caps h]
  | .any, _ => rfl
theorem q5w {m' : List AB} : ∀ xs : List AV, (∀ b ∈ q03 xs, m'[b]? = m[b]?) → q06 m' N xs = q06 m N xs
  | [], _ => rfl
  | x :: xs, h => by
    simp only [q06]
    rw [qot x (fun b hb => h b (by simp [q03, hb])), q5w xs (fun b hb => h b (by simp [q03, hb]))]
end
