/- A text of the walk that proves a law of this seat; joined by a program. -/
import Derived.Test.YtdkcpcflfnakdaaGreatSymH
import Derived.Lib.AppendZerosOnto
set_option linter.unusedSimpArgs false
set_option linter.unusedVariables false
namespace Go.Proofs.YtdkcpcflfnakdaaGreat.Sym
open Go Go.RowKit
variable {L : Nat} {Hd : Nat → Prop}
variable {B sz : Nat} {C : Prop} {a : Act} {blk : AB} {s : St} {t : TypeId} {w : World} {xs ys : List AV} {y : AV} {yv : Value} {ι : Loc}
abbrev Step := Option (Prop × AV × St)
def qhi (r : Step) (K : AV → St → Prop) : Prop := ∃ C x s', r = some (C, x, s') ∧ C ∧ K x s'
def AB.rowOf : AB → Option (TypeId × Nat × List AV)
 | .row t sz xs => some (t, sz, xs)
 | .rowc t sz xs _ => some (t, sz, xs)
 | _ => none
def AB.rowSet : AB → List AV → AB
 | .row t sz _, ys => .row t sz ys
 | .rowc t sz _ N, ys => .rowc t sz ys N
 | b, _ => b
def q2w (xs : List AV) (off : Nat) (zs : List AV) : List AV := xs.take off ++ zs ++ xs.drop (off + zs.length)
theorem q6o {i : Nat} (e : blk.rowOf = some (t, sz, xs)) (h : q2j Hd ι w i blk) :
 q05 xs = [] ∧ ((∃ r cells vs, ι[i]? = some (some r) ∧ w.heap[r]? = some (.cells cells t (0, 0)) ∧ rels Hd ι w xs vs ∧ q20 w r 0 sz vs) ∨ (ι[i]? = some none ∧ xs = [])) := by
 unfold AB.rowOf at e
 split at e
 · cases e; exact h
 · cases e; exact h.1
 · cases e
theorem qo7 {ι' : Loc} {w' : World} {i : Nat} (e : blk.rowOf = some (t, sz, xs)) (h : q2j Hd ι w i blk) (hk : ∀ o : Option Nat, ι[i]? = some o → ι'[i]? = some o) (hs : ∀ r : Nat, ι[i]? = some (some r) → w'.shape? r = w.shape? r) (hp : q05 ys = []) (hm : (∃ r cells vs, ι'[i]? = some (some r) ∧ w'.heap[r]? = some (.cells cells t (0, 0)) ∧ rels Hd ι' w' ys vs ∧ q20 w' r 0 sz vs) ∨ (ι'[i]? = some none ∧ ys = [])) : q2j Hd ι' w' i (blk.rowSet ys) := by
 unfold AB.rowOf at e
 split at e
 · cases e; exact ⟨hp, hm⟩
 · cases e; exact ⟨⟨hp, hm⟩, h.2.move hk hs⟩
 · cases e
theorem qkd (vs : List Value) (k : Nat) (h : ∀ v ∈ vs, v.cells.size = sz) : q04 (vs.take k) = (q04 vs).take (k * sz) := by
 by_cases hk : k ≤ vs.length
 · have h1 : q04 vs = q04 (vs.take k) ++ q04 (vs.drop k) := by rw [← q37, z1o]
   have h2 : (q04 (vs.take k)).length = k * sz := by
    rw [q0k _ (fun v hv => h v (z1c hv)), z1l, z3z hk]
   rw [h1, ← h2, z4e]
 · rw [z07 (by omega), z07]
   rw [q0k _ h]
   exact z1w _ (by omega)
theorem qh2 {r t : Nat} {cells : Array Value} {f : Nat × Nat} {us : List Value} (k2 : w.heap[r]? = some (.cells cells t f)) (k4 : q22 w r 0 us) : ∃ rest, cells.toList = us ++ rest := by
 have hlen := q6t k2 k4
 refine ⟨cells.toList.drop us.length, ?_⟩
 have e : cells.toList.take us.length = us := by
  apply z4g
  · simp; omega
  · intro j h1 h2
    have hj := k4 j h2
    simp only [World.cell?, k2, z33, z0n, if_false, z16] at hj
    obtain ⟨hjl, hj⟩ := z1t.1 hj
    rw [z48, Array.getElem_toList, hj]
 conv => lhs; rw [← z1o us.length cells.toList, e]
theorem qmo {zs : List AV} {off : Nat} (h : q05 xs = []) (k : q05 zs = []) : q05 (q2w xs off zs) = [] :=
 q2h (q2h (q2e h _) k) (q25 h _)
theorem Rel.writeSeg (h : Rel Hd B ι s a w) {b r : Nat} {cells : Array Value} (hb : s.mem[b]? = some blk) (hro : blk.rowOf = some (t, sz, xs)) {us : List Value} (hbr : ι[b]? = some (some r)) (k2 : w.heap[r]? = some (.cells cells t (0, 0))) (k3 : rels Hd ι w xs us) (k4 : q20 w r 0 sz us) (hpx : q05 xs = []) {off : Nat} {zs : List AV} {vs : List Value} (hz : rels Hd ι w zs vs) (hpz : q05 zs = []) (h1 : ∀ v ∈ vs, v.cells.size = sz) (h2 : ∀ u ∈ q04 vs, u.oneCell' = true) (hoff : off ≤ xs.length) (hfit : (off + zs.length) * sz ≤ cells.size) :
 Rel Hd B ι { s with mem := s.mem.set b (blk.rowSet (q2w xs off zs)) } a (w.setRow r (cells.toList.take (off * sz) ++ q04 vs ++ cells.toList.drop (off * sz + (q04 vs).length)).toArray) ∧
  Ext L ι w ι (w.setRow r (cells.toList.take (off * sz) ++ q04 vs ++ cells.toList.drop (off * sz + (q04 vs).length)).toArray) := by
 have hfl := q0k vs h1
 have hzl := q0h hz
 have hxl := q0h k3
 have hfx := q0k us k4.1
 rw [q5l k2]
 have hsz : off * sz + (q04 vs).length ≤ cells.size := by rw [hfl, ← hzl, ← z25]; exact hfit
 generalize hA : (cells.toList.take (off * sz) ++ q04 vs ++ cells.toList.drop (off * sz + (q04 vs).length)).toArray = A
 have hAs : A.size = cells.size := by
  rw [← hA]
  simp only [z2d, z0c, z1l, z31, z1g]
  omega
 refine h.update hbr k2 hAs fun ee => ?_
 refine qo7 hro (h.mem b _ hb) (fun _ ho => ho) (fun r' _ => ee.shape r' ?_) (qmo hpx hpz) (.inl ⟨r, A, us.take off ++ vs ++ us.drop (off + vs.length), hbr, q1i (q26 k2), ?_, ?_⟩)
 · rename_i hr'; exact h.lt r' (z06 hr')
 · have e1 : rels Hd ι (q0m w r (.cells A t (0, 0))) xs us := q0l ee h.lt _ _ (fun _ _ _ x => x) k3
   have e2 : rels Hd ι (q0m w r (.cells A t (0, 0))) zs vs := q0l ee h.lt _ _ (fun _ _ _ x => x) hz
   rw [← hzl]
   exact q13 (q13 (q2c _ e1) e2) (q1u _ e1)
 · have hall : ∀ v ∈ us.take off ++ vs ++ us.drop (off + vs.length), v.cells.size = sz := by
    intro v hv
    rcases z0q.1 hv with hv | hv
    · rcases z0q.1 hv with hv | hv
      · exact k4.1 v (z1c hv)
      · exact h1 v hv
    · exact k4.1 v (z3j hv)
   have hone : ∀ u ∈ q04 (us.take off ++ vs ++ us.drop (off + vs.length)), u.oneCell' = true := by
    intro u hu
    obtain ⟨v, hv, hu⟩ := z27.1 hu
    rcases z0q.1 hv with hv | hv
    · rcases z0q.1 hv with hv | hv
      · exact k4.2.2 u (z27.2 ⟨v, z1c hv, hu⟩)
      · exact h2 u (z27.2 ⟨v, hv, hu⟩)
    · exact k4.2.2 u (z27.2 ⟨v, z3j hv, hu⟩)
   obtain ⟨rest, hrest⟩ := qh2 k2 k4.2.1
   have hAl : ∃ rest', A.toList = q04 (us.take off ++ vs ++ us.drop (off + vs.length)) ++ rest' := by
    rw [← hA]
    simp only [q37, qkd us off k4.1, q9e us _ k4.1]
    refine ⟨rest.drop (off * sz + (q04 vs).length - (q04 us).length), ?_⟩
    rw [hrest, z0x (by rw [hfx, ← hxl]; exact z1w _ hoff), List.drop_append, hfl, ← z25]
    simp only [z1r]
   obtain ⟨rest', hAl⟩ := hAl
   exact q5e (q1i (q26 k2)) hAl hall hone
def q7j (s : St) (y : AV) (sz : Nat) : Option (Prop × List AV) :=
 match y with
 | .v (.slice _ 0 _) => some (True, [])
 | .sl sz' ys => some (sz' = sz, ys)
 | .own b sz' off len => match s.mem[b]? with
  | some (.row _ sz'' xs) => some (sz' = sz ∧ sz'' = sz ∧ off + len ≤ xs.length, (xs.drop off).take len)
  | some (.rowc _ sz'' xs _) => some (sz' = sz ∧ sz'' = sz ∧ off + len ≤ xs.length, (xs.drop off).take len)
  | _ => none
 | _ => none
theorem qpi (h : Rel Hd B ι s a w) (hy : rel Hd ι w y yv) (e : q7j s y sz = some (C, ys)) (hC : C) :
 ∃ (ad : Option Addr) (cap : Nat) (vs : List Value), yv = .slice ad ys.length cap ∧ q05 ys = [] ∧ rels Hd ι w ys vs ∧ (ys = [] ∨ ∃ r off, ad = some ⟨r, off, none⟩ ∧ q20 w r off sz vs) := by
 have own : ∀ {b sz' off len : Nat} {blk : AB} {t : TypeId} {sz'' : Nat} {xs : List AV}, s.mem[b]? = some blk → blk.rowOf = some (t, sz'', xs) → rel Hd ι w (.own b sz' off len) yv → (sz' = sz ∧ sz'' = sz ∧ off + len ≤ xs.length) → ys = (xs.drop off).take len →
  ∃ (ad : Option Addr) (cap : Nat) (vs : List Value), yv = .slice ad ys.length cap ∧ q05 ys = [] ∧ rels Hd ι w ys vs ∧ (ys = [] ∨ ∃ r off, ad = some ⟨r, off, none⟩ ∧ q20 w r off sz vs) := by
  intro b sz' off len blk t sz'' xs hm hro hy hc hys
  obtain ⟨rfl, rfl, hle⟩ := hc
  subst hys
  obtain ⟨hpu, hmr⟩ := q6o hro (h.mem b _ hm)
  have hpu' := q2e (q25 hpu off) len
  have hl : ((xs.drop off).take len).length = len := by simp; omega
  rcases hy with ⟨r, cap, n, t', rfl, hcap, hmx, hbr, hs, hn⟩ | ⟨a0, rfl, h1, h2, h3⟩
  · rcases hmr with ⟨r', cells, vs, k1, k2, k3, k4⟩ | ⟨k1, _⟩
    · obtain rfl : r = r' := by rw [hbr] at k1; simpa using k1
      have := q20.drop_take k4 off len
      rw [z16] at this
      exact ⟨_, cap, (vs.drop off).take len, by rw [hl], hpu', q2c _ (q1u _ k3), .inr ⟨r, _, rfl, this⟩⟩
    · rw [hbr] at k1; cases k1
  · subst h1; subst h2
    exact ⟨a0, 0, [], by rw [hl], hpu', by simp [rels], .inl (by simp)⟩
 unfold q7j at e
 split at e <;> try (cases e; done)
 · rename_i ad c
   cases e
   cases hy
   exact ⟨ad, c, [], rfl, rfl, rfl, .inl rfl⟩
 · rename_i sz' ys'
   cases e
   cases hC
   obtain ⟨hp, ad, cap, vs, rfl, hc, hr, hm⟩ := hy
   exact ⟨ad, cap, vs, rfl, hp, hr, hm.imp id fun ⟨r, off, e, _, hrow⟩ => ⟨r, off, e, hrow⟩⟩
 · split at e <;> try (cases e; done)
   · rename_i hm
     cases e
     exact own hm rfl hy hC rfl
   · rename_i hm
     cases e
     exact own hm rfl hy hC rfl
theorem q54 {P : Program} {w0 : World} {k n cap : Nat} {ad : Option Addr} {vs : List Value} (hw : w.heap = w0.heap) (hk : k ≤ vs.length) (h : vs = [] ∨ ∃ r off, ad = some ⟨r, off, none⟩ ∧ q20 w0 r off sz vs) :
 (Builtin.firstCells sz k (.slice ad n cap)).run P w = .ok (q04 (vs.take k)).toArray w := by
 rcases h with rfl | ⟨r, off, rfl, hrow⟩
 · obtain rfl : k = 0 := by simpa using hk
   cases ad with
   | none => simp [Builtin.firstCells, q04]
   | some ad => simp [Builtin.firstCells, q04, loadCells, loadCellsFrom]
 · refine run_firstCells_some w sz k ⟨r, off, none⟩ n cap _ ?_ ?_
   · rw [q0k _ (fun v hv => hrow.1 v (z1c hv)), z1l, z3z hk]
   · intro j u hu
     have h1 : (q04 vs)[j]? = some u := by
      rw [qkd vs k hrow.1, z5g] at hu
      split at hu
      · exact hu
      · cases hu
     have := q30 hrow.2.1 j u h1
     simpa only [World.cell?, hw] using this
def qag (s : St) (y : AV) (sz k : Nat) : Option (Prop × List AV) :=
 match y with
 | .v (.slice _ 0 _) => some (True, [])
 | .sl sz' ys => some (sz' = sz, ys.take k)
 | .own b sz' off len => match s.mem[b]? with
  | some (.row _ sz'' xs) => some (sz' = sz ∧ sz'' = sz ∧ off + min k len ≤ xs.length, (xs.drop off).take (min k len))
  | some (.rowc _ sz'' xs _) => some (sz' = sz ∧ sz'' = sz ∧ off + min k len ≤ xs.length, (xs.drop off).take (min k len))
  | _ => none
 | _ => none
theorem qry (h : Rel Hd B ι s a w) {k : Nat} (hy : rel Hd ι w y yv) (e : qag s y sz k = some (C, ys)) (hC : C) :
 ∃ (ad : Option Addr) (n cap : Nat) (vs : List Value), yv = .slice ad n cap ∧ ys.length = Nat.min n k ∧ q05 ys = [] ∧ rels Hd ι w ys vs ∧ (ys = [] ∨ ∃ r off, ad = some ⟨r, off, none⟩ ∧ q20 w r off sz vs) := by
 have own : ∀ {b sz' off len : Nat} {blk : AB} {t : TypeId} {sz'' : Nat} {xs : List AV}, s.mem[b]? = some blk → blk.rowOf = some (t, sz'', xs) → rel Hd ι w (.own b sz' off len) yv → (sz' = sz ∧ sz'' = sz ∧ off + min k len ≤ xs.length) → ys = (xs.drop off).take (min k len) →
  ∃ (ad : Option Addr) (n cap : Nat) (vs : List Value), yv = .slice ad n cap ∧ ys.length = Nat.min n k ∧ q05 ys = [] ∧ rels Hd ι w ys vs ∧ (ys = [] ∨ ∃ r off, ad = some ⟨r, off, none⟩ ∧ q20 w r off sz vs) := by
  intro b sz' off len blk t sz'' xs hm hro hy hc hys
  obtain ⟨rfl, rfl, hle⟩ := hc
  subst hys
  obtain ⟨hpu, hmr⟩ := q6o hro (h.mem b _ hm)
  have hpu' := q2e (q25 hpu off) (min k len)
  have hl : ((xs.drop off).take (min k len)).length = Nat.min len k := by
   simp only [z1l, z31]
   show _ = min len k
   omega
  rcases hy with ⟨r, cap, n, t', rfl, hcap, hmx, hbr, hs, hn⟩ | ⟨a0, rfl, h1, h2, h3⟩
  · rcases hmr with ⟨r', cells, vs, k1, k2, k3, k4⟩ | ⟨k1, _⟩
    · obtain rfl : r = r' := by rw [hbr] at k1; simpa using k1
      have := q20.drop_take k4 off (min k len)
      rw [z16] at this
      exact ⟨_, len, cap, (vs.drop off).take (min k len), rfl, hl, hpu', q2c _ (q1u _ k3), .inr ⟨r, _, rfl, this⟩⟩
    · rw [hbr] at k1; cases k1
  · subst h1; subst h2
    exact ⟨a0, 0, 0, [], rfl, hl, hpu', by simp [rels], .inl (by simp)⟩
 unfold qag at e
 split at e <;> try (cases e; done)
 · rename_i ad c
   cases e
   cases hy
   exact ⟨ad, 0, c, [], rfl, by simp, rfl, rfl, .inl rfl⟩
 · rename_i sz' ys'
   cases e
   cases hC
   obtain ⟨hp, ad, cap, vs, rfl, hc, hr, hm⟩ := hy
   refine ⟨ad, _, cap, vs.take k, rfl, ?_, q2e hp k, q2c k hr, ?_⟩
   · rw [z1l]; exact Nat.min_comm _ _
   · rcases hm with rfl | ⟨r, off, e, _, hrow⟩
     · exact .inl (by simp)
     · refine .inr ⟨r, off, e, ?_⟩
       have := q20.drop_take hrow 0 k
       simpa using this
 · split at e <;> try (cases e; done)
   · rename_i hm
     cases e
     exact own hm rfl hy hC rfl
   · rename_i hm
     cases e
     exact own hm rfl hy hC rfl
def qhm (T : TypeId → Option TI) (t : TypeId) (x y : AV) (s : St) : Step :=
 match T t with
 | some ti => match ti.desc with
  | .slice e => match T e with
   | some te => match x with
    | .own b sz off len => match qag s y te.size len with
     | some (c, ys) => match s.mem[b]? with
      | some (.row t' sz' xs) => some (sz = te.size ∧ sz' = te.size ∧ c ∧ 0 < len ∧ off ≤ xs.length, .v (.int .i64 ys.length), { s with mem := s.mem.set b (.row t' sz' (q2w xs off ys)) })
      | some (.rowc t' sz' xs N) => some (sz = te.size ∧ sz' = te.size ∧ c ∧ 0 < len ∧ off ≤ xs.length, .v (.int .i64 ys.length), { s with mem := s.mem.set b (.rowc t' sz' (q2w xs off ys) N) })
      | _ => none
     | none => none
    | _ => none
   | none => none
  | _ => none
 | none => none
theorem qrp {P : Program} {T : TypeId → Option TI} (hT : TyOk P T) {s' : St} {K : AV → St → Prop} (h : Rel Hd B ι s a w) {t2 ty : TypeId} {x z : AV} {xv : Value} (hx : rel Hd ι w x xv) (hy : rel Hd ι w y yv) (e : qhm T t x y s = some (C, z, s')) (hC : C) (hK : K z s') : Out P Hd L B ι a w (Builtin.copy_ #[t, t2] ty #[xv, yv]) isV K := by
 unfold qhm at e
 split at e <;> try (cases e; done)
 rename_i ti ht
 split at e <;> try (cases e; done)
 rename_i el hd
 split at e <;> try (cases e; done)
 rename_i te hte
 split at e <;> try (cases e; done)
 rename_i b sz off len
 split at e <;> try (cases e; done)
 rename_i c ys hys
 obtain ⟨_, i, zv, hi, hisz, hiby, hiz, hzc⟩ := hT el te hte
 have hu : P.underlying t = some (.slice el) := by rw [(hT t ti ht).1, hd]
 have key : ∀ {blk : AB} {t' : TypeId} {sz' : Nat} {xs : List AV}, s.mem[b]? = some blk → blk.rowOf = some (t', sz', xs) → (sz = te.size ∧ sz' = te.size ∧ c ∧ 0 < len ∧ off ≤ xs.length) →
  z = .v (.int .i64 ys.length) → s' = { s with mem := s.mem.set b (blk.rowSet (q2w xs off ys)) } → Out P Hd L B ι a w (Builtin.copy_ #[t, t2] ty #[xv, yv]) isV K := by
  intro blk t' sz' xs hm hro hc hz hs'
  subst hz; subst hs'
  obtain ⟨rfl, rfl, hcc, hlen, hoff⟩ := hc
  obtain ⟨ad, yn, ycap, vs, rfl, hyn, hpy, hry, hrow⟩ := qry h hy hys hcc
  obtain ⟨hpx, hmr⟩ := q6o hro (h.mem b _ hm)
  have hyl := q0h hry
  rcases hx with ⟨r, cap, n, t3, rfl, hcap, hmx, hbr, hs, hn⟩ | ⟨a0, rfl, _, hx0, _⟩
  · rcases hmr with ⟨r', cells, us, k1, k2, k3, k4⟩ | ⟨k1, _⟩
    · obtain rfl : r = r' := by rw [hbr] at k1; simpa using k1
      have hsz : cells.size = (off + cap) * te.size := by
       simp only [World.shape?, k2, z1d, z34] at hs
       rw [hs.2, ← hn]
      have hsize : ∀ v ∈ vs, v.cells.size = te.size := by
       rcases hrow with rfl | ⟨_, _, _, hrow⟩
       · intro v hv
         have : vs = [] := by simpa using hyl.symm
         rw [this] at hv; cases hv
       · exact hrow.1
      have hflat : ∀ u ∈ q04 vs, u.oneCell' = true := by
       rcases hrow with rfl | ⟨_, _, _, hrow⟩
       · intro u hu
         have : vs = [] := by simpa using hyl.symm
         rw [this] at hu; cases hu
       · exact hrow.2.2
      have hfv := q0k vs hsize
      have hylen : ys.length ≤ len := by rw [hyn]; exact Nat.min_le_right _ _
      have hfit : (off + ys.length) * te.size ≤ cells.size := by
       rw [hsz]
       exact z1w _ (Nat.add_le_add_left (by omega) _)
      obtain ⟨hR, hE⟩ := h.writeSeg (L := L) hm hro hbr k2 k3 k4 hpx (off := off) hry hpy hsize hflat hoff hfit
      have hst := run_storeCells_at P r (off * te.size) t' (q04 vs) 0 cells w k2 (by rw [hfv, ← hyl, z1y, ← z25]; exact hfit) hflat
      simp only [z1y] at hst
      have hfc : (Builtin.firstCells i.size (Nat.min yn len) (.slice ad yn ycap)).run P w = .ok (q04 vs).toArray w := by
       have h1 := q54 (P := P) (w := w) (w0 := w) (sz := te.size) (k := ys.length) (n := yn) (cap := ycap) (ad := ad) (vs := vs) rfl (by rw [← hyl]; exact z09 _)
        (by rcases hrow with rfl | hrow
            · exact .inl (by simpa using hyl.symm)
            · exact .inr hrow)
       rw [← hyn, hisz, h1, z07 (by omega)]
      refine ⟨goInt ys.length, _, _, ι, _, _, ?_, rfl, q1n, hR, hE, hK⟩
      simp only [Builtin.copy_, z0k, z01, z03, run_underlying hT ht, z0s, z0b, hd, Builtin.lenOf, z15, sizeOf, typeInfo, run_program, hi, hfc, hst]
      first | rfl | simp [hi, hfc, hst, hyn]
    · rw [hbr] at k1; cases k1
  · subst hx0; omega
 split at e <;> try (cases e; done)
 · rename_i hm; cases e; exact key hm rfl hC rfl rfl
 · rename_i hm; cases e; exact key hm rfl hC rfl rfl
