/- A text of the walk that proves a law of this seat; joined by a program. -/
import Derived.Test.YtdkcpcflfnakdaaGreatSymHa
set_option linter.unusedSimpArgs false
set_option linter.unusedVariables false
namespace Go.Proofs.YtdkcpcflfnakdaaGreat.Sym
open Go Go.RowKit
variable {L : Nat} {Hd : Nat → Prop}
variable {B b off sz : Nat} {C : Prop} {K : AV → St → Prop} {P : Program} {T : TypeId → Option TI} {a : Act} {hi lo : Option Operand} {s s' : St} {t : TypeId} {te : TI} {w : World} {x z : AV} {xv : Value} {ι : Loc}
def qkb (T : TypeId → Option TI) (t : TypeId) (x : AV) (s : St) : Step :=
 match T t with
 | some ti => match ti.desc with
  | .slice e => match T e with
   | some te => match x with
    | .own b sz off len => match s.mem[b]? with
     | some (.row t' sz' xs) => some (sz = te.size ∧ sz' = te.size ∧ te.zeroOk = true ∧ 0 < len ∧ off + len ≤ xs.length, .tup [], { s with mem := s.mem.set b (.row t' sz' (q2w xs off (List.replicate len te.zav))) })
     | some (.rowc t' sz' xs N) => some (sz = te.size ∧ sz' = te.size ∧ te.zeroOk = true ∧ 0 < len ∧ off + len ≤ xs.length, .tup [], { s with mem := s.mem.set b (.rowc t' sz' (q2w xs off (List.replicate len te.zav)) N) })
     | _ => none
    | _ => none
   | none => none
  | _ => none
 | none => none
theorem qba : ∀ n : Nat, rels Hd ι w (List.replicate n te.zav) (List.replicate n te.zval)
 | 0 => rfl
 | n + 1 => ⟨_, _, rfl, qmd, qba n⟩
theorem qeq (n : Nat) : q05 (List.replicate n te.zav) = [] := by
 rw [q0x]; intro x hx; rw [z1h hx]; exact qjk
theorem q7r (h : te.zeroOk = true) : te.zval.cells.size = te.size ∧ 0 < te.size := by
 have h2 := h
 simp only [TI.zeroOk, z0d, decide_eq_true_eq] at h2
 refine ⟨?_, h2.1.1.2⟩
 rw [← h2.1.1.1, ← q4u h]; simp
theorem q8p (h : te.zeroOk = true) (n : Nat) : ∀ v ∈ List.replicate n te.zval, v.cells.size = te.size := by
 intro v hv; rw [z1h hv]; exact (q7r h).1
theorem qas (h : te.zeroOk = true) (n : Nat) : ∀ u ∈ q04 (List.replicate n te.zval), u.oneCell' = true := by
 intro u hu
 obtain ⟨v, hv, hu'⟩ := z27.1 hu
 rw [z1h hv, q4u h] at hu'
 simp only [TI.zeroOk, z0d, z0l] at h
 exact h.1.2 u hu'
theorem q9p (hz : te.zeroOk = true) {z : Value} (hzc : z.cells.toList = te.zero) (n : Nat) : Builtin.zeroCells z.cells n = (q04 (List.replicate n te.zval)).toArray := by
 have hzs : z.cells.size = te.size := by
  have := hz
  simp only [TI.zeroOk, z0d, decide_eq_true_eq] at this
  rw [← this.1.1.1, ← hzc]; simp
 rw [← q8y hz hzc n, Builtin.zeroCells, hzs]
theorem qow (hT : TyOk P T) (h : Rel Hd B ι s a w) {ty : TypeId} (hx : rel Hd ι w x xv) (e : qkb T t x s = some (C, z, s')) (hC : C) (hK : K z s') : Out P Hd L B ι a w (Builtin.clear_ #[t] ty #[xv]) isV K := by
 unfold qkb at e
 split at e <;> try (cases e; done)
 rename_i ti ht
 split at e <;> try (cases e; done)
 rename_i el hd
 split at e <;> try (cases e; done)
 rename_i te hte
 split at e <;> try (cases e; done)
 rename_i b sz off len
 obtain ⟨zv, hz, hzc⟩ := q3x hT hte w
 have key : ∀ {blk : AB} {t' : TypeId} {sz' : Nat} {xs : List AV}, s.mem[b]? = some blk → blk.rowOf = some (t', sz', xs) → (sz = te.size ∧ sz' = te.size ∧ te.zeroOk = true ∧ 0 < len ∧ off + len ≤ xs.length) →
  z = .tup [] → s' = { s with mem := s.mem.set b (blk.rowSet (q2w xs off (List.replicate len te.zav))) } → Out P Hd L B ι a w (Builtin.clear_ #[t] ty #[xv]) isV K := by
  intro blk t' sz' xs hm hro hc hz' hs'
  subst hz'; subst hs'
  obtain ⟨rfl, rfl, hzo, hlen, hle⟩ := hc
  obtain ⟨hpx, hmr⟩ := q6o hro (h.mem b _ hm)
  rcases hx with ⟨r, cap, n, t3, rfl, hcap, hmx, hbr, hs, hn⟩ | ⟨a0, rfl, _, hx0, _⟩
  · rcases hmr with ⟨r', cells, us, k1, k2, k3, k4⟩ | ⟨k1, _⟩
    · obtain rfl : r = r' := by rw [hbr] at k1; simpa using k1
      have hsz : cells.size = (off + cap) * te.size := by
       simp only [World.shape?, k2, z1d, z34] at hs
       rw [hs.2, ← hn]
      have hfit : (off + (List.replicate len te.zav).length) * te.size ≤ cells.size := by
       rw [hsz, z29]
       exact z1w _ (Nat.add_le_add_left hcap _)
      obtain ⟨hR, hE⟩ := h.writeSeg (L := L) hm hro hbr k2 k3 k4 hpx (off := off) (qba len) (qeq len) (q8p hzo len) (qas hzo len) (by omega) hfit
      have hfv := q0k _ (q8p hzo len)
      rw [z29] at hfv hfit
      have hst := run_storeCells_at P r (off * te.size) t' (q04 (List.replicate len te.zval)) 0 cells w k2 (by rw [hfv, z1y, ← z25]; exact hfit) (qas hzo len)
      simp only [z1y] at hst
      refine ⟨.tuple #[], _, _, ι, .tup [], _, ?_, rfl, ⟨[], rfl, rfl⟩, hR, hE, hK⟩
      obtain ⟨k, rfl⟩ : ∃ k, len = k + 1 := ⟨len - 1, by omega⟩
      simp only [Builtin.clear_, z0k, z01, run_underlying hT ht, z0s, z0b, hd, z15, hz, q9p hzo hzc]
      first | rfl | simp [hz, q9p hzo hzc, hst]
    · rw [hbr] at k1; cases k1
  · subst hx0; omega
 split at e <;> try (cases e; done)
 · rename_i hm; cases e; exact key hm rfl hC rfl rfl
 · rename_i hm; cases e; exact key hm rfl hC rfl rfl
def gcap (T : TypeId → Option TI) (t : TypeId) (x : AV) (s : St) : Step :=
 match T t with
 | some ti => match ti.desc with
  | .slice _ => match x with
   | .own b sz off _ => match s.mem[b]? with
    | some (.rowc _ sz' _ N) => some (sz = sz' ∧ 0 < sz, .v (.int .i64 ((N - off : Nat) : Int)), s)
    | _ => none
   | _ => none
  | _ => none
 | none => none
theorem qa9.cap {r N cap n : Nat} (h : qa9 ι w b sz N) (hbr : ι[b]? = some (some r)) (hs : w.shape? r = some (t, n)) (hn : (off + cap) * sz = n) (hp : 0 < sz) : off + cap = N := by
 rcases h with ⟨r', t', h1, h2⟩ | ⟨h1, _⟩
 · rw [hbr] at h1
   simp only [z1d] at h1
   subst h1
   rw [hs] at h2
   simp only [z1d, z34] at h2
   rw [← hn] at h2
   exact Nat.eq_of_mul_eq_mul_right hp h2.2
 · rw [hbr] at h1; cases h1
theorem quk (hT : TyOk P T) (h : Rel Hd B ι s a w) {ty : TypeId} (hx : rel Hd ι w x xv) (e : gcap T t x s = some (C, z, s')) (hC : C) (hK : K z s') : Out P Hd L B ι a w (Builtin.cap_ #[t] ty #[xv]) isV K := by
 unfold gcap at e
 split at e <;> try (cases e; done)
 rename_i ti ht
 split at e <;> try (cases e; done)
 rename_i el hd
 split at e <;> try (cases e; done)
 rename_i b sz off len
 split at e <;> try (cases e; done)
 rename_i t' sz' xs N hm
 cases e
 obtain ⟨rfl, hp⟩ := hC
 have hmr := (h.mem b _ hm).2
 rcases hx with ⟨r, cap, n, t3, rfl, hcap, hmx, hbr, hs, hn⟩ | ⟨a0, rfl, h0, hx0, hb0⟩
 · have hN := hmr.cap hbr hs hn hp
   have hc : cap = N - off := by omega
   subst hc
   exact Out.mk' h hK (by simp [Builtin.cap_, run_underlying hT ht, hd, goInt]) q1n
 · have hN : N = 0 := by
    rcases hmr with ⟨r', t', h1, _⟩ | ⟨_, h2⟩
    · rw [hb0] at h1; cases h1
    · exact h2
   subst hN; subst h0
   exact Out.mk' h hK (by simp [Builtin.cap_, run_underlying hT ht, hd, goInt]) q1n
def q5y (x : Option AV) (d : Nat) : Option (Prop × Nat) :=
 match x with
 | none => some (True, d)
 | some (.v (.int _ n)) => some (0 ≤ n, n.toNat)
 | _ => none
theorem q8l (h : Rel Hd B ι s a w) {o : Option Operand} {d n : Nat} (e : q5y (o.map s.ev) d = some (C, n)) (hC : C) (y : Nat) (code : BoundsCode) :
 (o = none → n = d) ∧ (n ≤ y → ∀ v, o.map a.eval = some v → (Instr.sliceBound v y code).run P w = .ok n w) := by
 cases o with
 | none => cases e; exact ⟨fun _ => rfl, fun _ v hv => by cases hv⟩
 | some op =>
  refine ⟨fun e => (by cases e), fun hy v hv => ?_⟩
  cases hv
  simp only [z19, q5y] at e
  have h1 := h.ev op
  cases hq : s.ev op with
  | v x =>
   cases x with
   | int k m =>
    rw [hq] at e h1
    cases e
    have h1 : a.eval op = .int k m := h1
    rw [h1]
    have h2 : 0 ≤ m ∧ m ≤ (y : Int) := ⟨hC, by have : m.toNat ≤ y := hy; have h0 : 0 ≤ m := hC; omega⟩
    simp [Instr.sliceBound, asIntOf, h2]
   | _ => rw [hq] at e; cases e
  | _ => rw [hq] at e; cases e
def qf3 (te : TI) (b sz off len room : Nat) (lo hi : Option AV) (s : St) : Step :=
 match q5y hi len with
 | some (c1, h) => match lo with
  | none => some (te.size = sz ∧ c1 ∧ h ≤ room, .own b sz off h, s)
  | some l => match q5y (some l) 0 with
   | some (c2, l) => some (te.size = sz ∧ c1 ∧ c2 ∧ l ≤ h ∧ h ≤ room, if l = h then .sl sz [] else .own b sz (off + l) (h - l), s)
   | none => none
 | none => none
theorem qi3 (hT : TyOk P T) (h : Rel Hd B ι s a w) {el : TypeId} {ti : TI} {len room : Nat} (ht : T t = some ti) (hd : ti.desc = .slice el) (hte : T el = some te) (hx : rel Hd ι w (.own b sz off len) xv) (hroom : ∀ ad cap, xv = .slice ad len cap → room ≤ cap) (e : qf3 te b sz off len room (lo.map s.ev) (hi.map s.ev) s = some (C, z, s')) (hC : C) (hK : K z s') : Out P Hd L B ι a w (Instr.slice t xv (lo.map a.eval) (hi.map a.eval) none) isV K := by
 unfold qf3 at e
 split at e <;> try (cases e; done)
 rename_i c1 hh hb1
 have key : ∀ (ll : Nat), te.size = sz → c1 → (lo = none → ll = 0) → (ll ≤ hh → ∀ v, lo.map a.eval = some v → (Instr.sliceBound v hh .sliceB).run P w = .ok ll w) → ll ≤ hh → hh ≤ room → s' = s →
  (z = .own b sz (off + ll) (hh - ll) ∧ (ll = 0 ∨ ll < hh) ∨ z = .sl sz [] ∧ ll = hh) → Out P Hd L B ι a w (Instr.slice t xv (lo.map a.eval) (hi.map a.eval) none) isV K := by
  intro ll hsz hc1 hl0 hlr hle1 hle2 hs' hz
  subst hs'; subst hsz
  have hrun : ∀ (ad : Option Addr) (cap : Nat), xv = .slice ad len cap → (Instr.slice t xv (lo.map a.eval) (hi.map a.eval) none).run P w = .ok (.slice (if cap = ll then ad else ad.map (·.add (ll * te.size))) (hh - ll) (cap - ll)) w := by
   intro ad cap hxv
   have hrc := hroom ad cap hxv
   obtain ⟨hh0, hhr⟩ := q8l (P := P) h hb1 hc1 cap .sliceAcap
   subst hxv
   simp only [z0s, run_underlying hT ht, z0b, hd, Instr.slice, Instr.sliceBounds, z15, z33, z0n, if_false]
   cases hi with
   | none =>
    obtain rfl := hh0 rfl
    cases lo with
    | none => obtain rfl := hl0 rfl; simp [q10 hT hte]
    | some l => simp [hlr hle1 _ rfl, q10 hT hte]
   | some hx' =>
    have h1 := hhr (by omega) _ rfl
    cases lo with
    | none => obtain rfl := hl0 rfl; simp [h1, q10 hT hte]
    | some l => simp [h1, hlr hle1 _ rfl, q10 hT hte]
  rcases hx with ⟨r, cap, n, t3, rfl, hcap, hmx, hbr, hs, hn⟩ | ⟨a0, rfl, h0, hx0, hb0⟩
  · have hrc := hroom _ _ rfl
    rcases hz with ⟨rfl, hlt⟩ | ⟨rfl, rfl⟩
    · refine Out.mk' h hK (hrun _ _ rfl) (.inl ⟨r, cap - ll, n, t3, ?_, by omega, by omega, hbr, hs, ?_⟩)
      · congr 1
        rcases hlt with rfl | hlt
        · by_cases hc : cap = 0
          · rw [if_pos hc, z1y]
          · rw [if_neg hc]; simp [q6s]
        · rw [if_neg (by omega)]
          simp [q6s, z25]
      · rw [← hn]; congr 1; omega
    · refine Out.mk' h hK (hrun _ _ rfl) ⟨rfl, _, cap - ll, [], by rw [Nat.sub_self]; rfl, z00 _, rfl, .inl rfl⟩
  · subst hx0
    have hrc := hroom _ _ rfl
    have e1 : hh = 0 := by omega
    have e2 : ll = 0 := by omega
    subst e1; subst e2
    rcases hz with ⟨rfl, hlt⟩ | ⟨rfl, _⟩
    · exact Out.mk' h hK (hrun _ _ rfl) (.inr ⟨a0, by simp, by omega, rfl, hb0⟩)
    · exact Out.mk' h hK (hrun _ _ rfl) ⟨rfl, _, 0, [], rfl, z00 _, rfl, .inl rfl⟩
 split at e
 · rename_i hlo
   cases e
   refine key 0 hC.1 hC.2.1 (fun _ => rfl) (fun _ v hv => ?_) (z00 _) hC.2.2 rfl (.inl ⟨by rw [z1y, z3s], .inl rfl⟩)
   cases lo with
   | none => cases hv
   | some l => cases hlo
 · rename_i l hlo
   split at e <;> try (cases e; done)
   rename_i c2 ll hb2
   cases e
   obtain ⟨q1, q2, q3, q4, q5⟩ := hC
   have hb2' : q5y (lo.map s.ev) 0 = some (c2, ll) := by rw [hlo]; exact hb2
   obtain ⟨g1, g2⟩ := q8l (P := P) h hb2' q3 hh .sliceB
   refine key ll q1 q2 g1 g2 q4 q5 rfl ?_
   by_cases hc : ll = hh
   · exact .inr ⟨if_pos hc, hc⟩
   · exact .inl ⟨if_neg hc, .inr (by omega)⟩
def q63 (T : TypeId → Option TI) (t : TypeId) (x : AV) (lo hi mx : Option AV) (s : St) : Step :=
 match T t with
 | some ti => match ti.desc with
  | .slice e => match T e with
   | some te => match x with
    | .own b sz off len => match mx with
     | none => qf3 te b sz off len len lo hi s
     | some m => match q5y (some m) 0, q5y hi len, q5y lo 0 with
      | some (c1, m), some (c2, h), some (c3, l) => some (c1 ∧ c2 ∧ c3 ∧ hi.isSome = true ∧ l ≤ h ∧ h ≤ m ∧ m ≤ len, .any, s)
      | _, _, _ => none
    | _ => none
   | none => none
  | _ => none
 | none => none
theorem qt9 {len : Nat} (hx : rel Hd ι w (.own b sz off len) xv) : ∃ ad cap, xv = .slice ad len cap ∧ len ≤ cap := by
 rcases hx with ⟨r, cap, n, t3, rfl, hcap, _⟩ | ⟨a0, rfl, _, rfl, _⟩
 · exact ⟨_, cap, rfl, hcap⟩
 · exact ⟨a0, 0, rfl, z09 _⟩
theorem qnv (hT : TyOk P T) (h : Rel Hd B ι s a w) {mx : Option Operand} (hx : rel Hd ι w x xv) (e : q63 T t x (lo.map s.ev) (hi.map s.ev) (mx.map s.ev) s = some (C, z, s')) (hC : C) (hK : K z s') : Out P Hd L B ι a w (Instr.slice t xv (lo.map a.eval) (hi.map a.eval) (mx.map a.eval)) isV K := by
 unfold q63 at e
 split at e <;> try (cases e; done)
 rename_i ti ht
 split at e <;> try (cases e; done)
 rename_i el hd
 split at e <;> try (cases e; done)
 rename_i te hte
 split at e <;> try (cases e; done)
 rename_i b sz off len
 cases mx with
 | none =>
  simp only [z5u] at e ⊢
  refine qi3 hT h ht hd hte hx (fun ad cap hq => ?_) e hC hK
  obtain ⟨ad', cap', h1, h2⟩ := qt9 hx
  rw [h1] at hq
  simp only [Value.slice.injEq] at hq
  omega
 | some m =>
  simp only [z19] at e
  split at e <;> try (cases e; done)
  rename_i c1 mm c2 hh c3 ll hb1 hb2 hb3
  cases e
  obtain ⟨q1, q2, q3, q4, q5, q6, q7⟩ := hC
  obtain ⟨ad, cap, rfl, hcap⟩ := qt9 hx
  have hb1' : q5y ((some m : Option Operand).map s.ev) 0 = some (c1, mm) := hb1
  obtain ⟨_, gm⟩ := q8l (P := P) h hb1' q1 cap .slice3Acap
  obtain ⟨_, gh⟩ := q8l (P := P) h hb2 q2 mm .slice3B
  obtain ⟨gl0, gl⟩ := q8l (P := P) h hb3 q3 hh .slice3C
  have g1 := gm (by omega) (a.eval m) rfl
  cases hi with
  | none => cases q4
  | some hx' =>
   have g2 := gh q6 (a.eval hx') rfl
   refine Out.mk' h hK (y := .slice (if mm = ll then ad else ad.map (·.add (ll * te.size))) (hh - ll) (mm - ll)) ?_ True.intro
   simp only [z0s, run_underlying hT ht, z0b, hd, Instr.slice, Instr.sliceBounds, z15, z19, Option.isSome_some, if_true, g1, g2]
   cases lo with
   | none => obtain rfl := gl0 rfl; simp [q10 hT hte]
   | some l => simp [gl q5 _ rfl, q10 hT hte]
def qbu (T : TypeId → Option TI) (t : TypeId) (x : AV) (lo hi mx : Option AV) (s : St) : Step :=
 match mx with
 | none => match T t with
  | some ti => match ti.desc with
   | .slice e => match T e with
    | some te => match x with
     | .own b sz off len => match s.mem[b]? with
      | some (.rowc _ sz' _ N) => match qf3 te b sz off len (N - off) lo hi s with
       | some (c, y, s') => some (sz = sz' ∧ 0 < sz ∧ c, y, s')
       | none => none
      | _ => none
     | _ => none
    | none => none
   | _ => none
  | none => none
 | _ => none
theorem qnz (hT : TyOk P T) (h : Rel Hd B ι s a w) {mx : Option Operand} (hx : rel Hd ι w x xv) (e : qbu T t x (lo.map s.ev) (hi.map s.ev) (mx.map s.ev) s = some (C, z, s')) (hC : C) (hK : K z s') : Out P Hd L B ι a w (Instr.slice t xv (lo.map a.eval) (hi.map a.eval) (mx.map a.eval)) isV K := by
 unfold qbu at e
 split at e <;> try (cases e; done)
 rename_i hmx
 cases mx with
 | some m => cases hmx
 | none =>
  split at e <;> try (cases e; done)
  rename_i ti ht
  split at e <;> try (cases e; done)
  rename_i el hd
  split at e <;> try (cases e; done)
  rename_i te hte
  split at e <;> try (cases e; done)
  rename_i b sz off len
  split at e <;> try (cases e; done)
  rename_i t' sz' xs N hm
  split at e <;> try (cases e; done)
  rename_i c y s1 hg
  cases e
  obtain ⟨rfl, hp, hc⟩ := hC
  have hmr := (h.mem b _ hm).2
  refine qi3 hT h ht hd hte hx (fun ad cap hq => ?_) hg hc hK
  rcases hx with ⟨r, cap', n, t3, rfl, hcap, hmx, hbr, hs, hn⟩ | ⟨a0, rfl, h0, hx0, hb0⟩
  · have hN := hmr.cap hbr hs hn hp
    simp only [Value.slice.injEq] at hq
    omega
  · have hN : N = 0 := by
     rcases hmr with ⟨r', t', h1, _⟩ | ⟨_, h2⟩
     · rw [hb0] at h1; cases h1
     · exact h2
    omega
