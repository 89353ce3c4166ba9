/- A text of the walk that proves a law of this seat; joined by a program. -/
import Derived.Test.YtdkcpcflfnakdaaGreatSymH
import Derived.Lib.AppendZerosOnto
set_option linter.unusedSimpArgs false
set_option linter.unusedVariables false
namespace Go.Proofs.YtdkcpcflfnakdaaGreat.Sym
open Go Go.RowKit
variable {L : Nat} {Hd : Nat → Prop}
abbrev Step := Option (Prop × AV × St)
def stepP (r : Step) (K : AV → St → Prop) : Prop := ∃ C x s', r = some (C, x, s') ∧ C ∧ K x s'
def AB.rowOf : AB → Option (TypeId × Nat × List AV)
  | .row t sz xs => some (t, sz, xs)
  | .rowc t sz xs _ => some (t, sz, xs)
  | _ => none
def AB.rowSet : AB → List AV → AB
  | .row t sz _, ys => .row t sz ys
  | .rowc t sz _ N, ys => .rowc t sz ys N
  | b, _ => b
def q28 (xs : List AV) (off : Nat) (zs : List AV) : List AV := xs.take off ++ zs ++ xs.drop (off + zs.length)
theorem q4e {ι : Loc} {w : World} {i : Nat} {blk : AB} {t : TypeId} {sz : Nat} {xs : List AV} (e : blk.rowOf = some (t, sz, xs)) (h : q1w Hd ι w i blk) :
    q04 xs = [] ∧ ((∃ r cells vs, ι[i]? = some (some r) ∧ w.heap[r]? = some (.cells cells t (0, 0)) ∧ rels Hd ι w xs vs ∧ RowAt w r 0 sz vs) ∨ (ι[i]? = some none ∧ xs = [])) := by
  unfold AB.rowOf at e
  split at e
  · cases e; exact h
  · cases e; exact h.1
  · cases e
theorem memRel_rowSet {ι ι' : Loc} {w w' : World} {i : Nat} {blk : AB} {t : TypeId} {sz : Nat} {xs ys : List AV} (e : blk.rowOf = some (t, sz, xs)) (h : q1w Hd ι w i blk)
    (hk : ∀ o : Option Nat, ι[i]? = some o → ι'[i]? = some o) (hs : ∀ r : Nat, ι[i]? = some (some r) → w'.shape? r = w.shape? r)
    (hp : q04 ys = []) (hm : (∃ r cells vs, ι'[i]? = some (some r) ∧ w'.heap[r]? = some (.cells cells t (0, 0)) ∧ rels Hd ι' w' ys vs ∧ RowAt w' r 0 sz vs) ∨ (ι'[i]? = some none ∧ ys = [])) : q1w Hd ι' w' i (blk.rowSet ys) := by
  unfold AB.rowOf at e
  split at e
  · cases e; exact ⟨hp, hm⟩
  · cases e; exact ⟨⟨hp, hm⟩, h.2.move hk hs⟩
  · cases e
theorem flatV_take {sz : Nat} (vs : List Value) (k : Nat) (h : ∀ v ∈ vs, v.cells.size = sz) : flatV (vs.take k) = (flatV vs).take (k * sz) := by
  by_cases hk : k ≤ vs.length
  · have h1 : flatV vs = flatV (vs.take k) ++ flatV (vs.drop k) := by rw [← q2k, List.take_append_drop]
    have h2 : (flatV (vs.take k)).length = k * sz := by
      rw [q0i _ (fun v hv => h v (List.mem_of_mem_take hv)), List.length_take, Nat.min_eq_left hk]
    rw [h1, ← h2, List.take_left]
  · rw [List.take_of_length_le (by omega), List.take_of_length_le]
    rw [q0i _ h]
    exact Nat.mul_le_mul_right _ (by omega)
theorem cells_prefix {w : World} {r t : Nat} {cells : Array Value} {f : Nat × Nat} {us : List Value} (k2 : w.heap[r]? = some (.cells cells t f)) (k4 : q1l w r 0 us) : ∃ rest, cells.toList = us ++ rest := by
  have hlen := q4j k2 k4
  refine ⟨cells.toList.drop us.length, ?_⟩
  have e : cells.toList.take us.length = us := by
    apply List.ext_getElem
    · simp; omega
    · intro j h1 h2
      have hj := k4 j h2
      simp only [World.cell?, k2, Option.isSome_none, Bool.false_eq_true, if_false, Nat.zero_add] at hj
      obtain ⟨hjl, hj⟩ := Array.getElem?_eq_some_iff.1 hj
      rw [List.getElem_take, Array.getElem_toList, hj]
  conv => lhs; rw [← List.take_append_drop us.length cells.toList, e]
theorem refsAll_putSeg {xs zs : List AV} {off : Nat} (h : q04 xs = []) (k : q04 zs = []) : q04 (q28 xs off zs) = [] :=
  q1v (q1v (q1s h _) k) (q1m h _)
theorem Rel.writeSeg {B : Nat} {ι : Loc} {s : St} {a : Act} {w : World} (h : Rel Hd B ι s a w) {b r : Nat} {cells : Array Value} {t : TypeId} {sz : Nat} {blk : AB} {xs : List AV} (hb : s.mem[b]? = some blk) (hro : blk.rowOf = some (t, sz, xs))
    {us : List Value} (hbr : ι[b]? = some (some r)) (k2 : w.heap[r]? = some (.cells cells t (0, 0))) (k3 : rels Hd ι w xs us) (k4 : RowAt w r 0 sz us) (hpx : q04 xs = [])
    {off : Nat} {zs : List AV} {vs : List Value} (hz : rels Hd ι w zs vs) (hpz : q04 zs = []) (h1 : ∀ v ∈ vs, v.cells.size = sz) (h2 : ∀ u ∈ flatV vs, u.oneCell' = true) (hoff : off ≤ xs.length)
    (hfit : (off + zs.length) * sz ≤ cells.size) :
    Rel Hd B ι { s with mem := s.mem.set b (blk.rowSet (q28 xs off zs)) } a (w.setRow r (cells.toList.take (off * sz) ++ flatV vs ++ cells.toList.drop (off * sz + (flatV vs).length)).toArray) ∧
      Ext L ι w ι (w.setRow r (cells.toList.take (off * sz) ++ flatV vs ++ cells.toList.drop (off * sz + (flatV vs).length)).toArray) := by
  have hfl := q0i vs h1
  have hzl := q0b hz
  have hxl := q0b k3
  have hfx := q0i us k4.1
  rw [q40 k2]
  have hsz : off * sz + (flatV vs).length ≤ cells.size := by rw [hfl, ← hzl, ← Nat.add_mul]; exact hfit
  generalize hA : (cells.toList.take (off * sz) ++ flatV vs ++ cells.toList.drop (off * sz + (flatV vs).length)).toArray = A
  have hAs : A.size = cells.size := by
    rw [← hA]
    simp only [List.size_toArray, List.length_append, List.length_take, List.length_drop, Array.length_toList]
    omega
  refine h.update hbr k2 hAs fun ee => ?_
  refine memRel_rowSet hro (h.mem b _ hb) (fun _ ho => ho) (fun r' _ => ee.shape r' ?_) (refsAll_putSeg hpx hpz) (.inl ⟨r, A, us.take off ++ vs ++ us.drop (off + vs.length), hbr, q19 (q1n k2), ?_, ?_⟩)
  · rename_i hr'; exact h.lt r' (List.mem_of_getElem? hr')
  · have e1 : rels Hd ι (q0m w r (.cells A t (0, 0))) xs us := q0l ee h.lt _ _ (fun _ _ _ x => x) k3
    have e2 : rels Hd ι (q0m w r (.cells A t (0, 0))) zs vs := q0l ee h.lt _ _ (fun _ _ _ x => x) hz
    rw [← hzl]
    exact q10 (q10 (q1t _ e1) e2) (q1i _ e1)
  · have hall : ∀ v ∈ us.take off ++ vs ++ us.drop (off + vs.length), v.cells.size = sz := by
      intro v hv
      rcases List.mem_append.1 hv with hv | hv
      · rcases List.mem_append.1 hv with hv | hv
        · exact k4.1 v (List.mem_of_mem_take hv)
        · exact h1 v hv
      · exact k4.1 v (List.mem_of_mem_drop hv)
    have hone : ∀ u ∈ flatV (us.take off ++ vs ++ us.drop (off + vs.length)), u.oneCell' = true := by
      intro u hu
      obtain ⟨v, hv, hu⟩ := List.mem_flatMap.1 hu
      rcases List.mem_append.1 hv with hv | hv
      · rcases List.mem_append.1 hv with hv | hv
        · exact k4.2.2 u (List.mem_flatMap.2 ⟨v, List.mem_of_mem_take hv, hu⟩)
        · exact h2 u (List.mem_flatMap.2 ⟨v, hv, hu⟩)
      · exact k4.2.2 u (List.mem_flatMap.2 ⟨v, List.mem_of_mem_drop hv, hu⟩)
    obtain ⟨rest, hrest⟩ := cells_prefix k2 k4.2.1
    have hAl : ∃ rest', A.toList = flatV (us.take off ++ vs ++ us.drop (off + vs.length)) ++ rest' := by
      rw [← hA]
      simp only [q2k, flatV_take us off k4.1, flatV_drop us _ k4.1]
      refine ⟨rest.drop (off * sz + (flatV vs).length - (flatV us).length), ?_⟩
      rw [hrest, List.take_append_of_le_length (by rw [hfx, ← hxl]; exact Nat.mul_le_mul_right _ hoff), List.drop_append, hfl, ← Nat.add_mul]
      simp only [List.append_assoc]
    obtain ⟨rest', hAl⟩ := hAl
    exact q3m (q19 (q1n k2)) hAl hall hone
def gelems (s : St) (y : AV) (sz : Nat) : Option (Prop × List AV) :=
  match y with
  | .v (.slice _ 0 _) => some (True, [])
  | .sl sz' ys => some (sz' = sz, ys)
  | .own b sz' off len => match s.mem[b]? with
    | some (.row _ sz'' xs) => some (sz' = sz ∧ sz'' = sz ∧ off + len ≤ xs.length, (xs.drop off).take len)
    | some (.rowc _ sz'' xs _) => some (sz' = sz ∧ sz'' = sz ∧ off + len ≤ xs.length, (xs.drop off).take len)
    | _ => none
  | _ => none
theorem gelems_sound {B : Nat} {ι : Loc} {s : St} {a : Act} {w : World} (h : Rel Hd B ι s a w) {y : AV} {yv : Value} {sz : Nat} {C : Prop} {ys : List AV} (hy : rel Hd ι w y yv) (e : gelems s y sz = some (C, ys)) (hC : C) :
    ∃ (ad : Option Addr) (cap : Nat) (vs : List Value), yv = .slice ad ys.length cap ∧ q04 ys = [] ∧ rels Hd ι w ys vs ∧ (ys = [] ∨ ∃ r off, ad = some ⟨r, off, none⟩ ∧ RowAt w r off sz vs) := by
  have own : ∀ {b sz' off len : Nat} {blk : AB} {t : TypeId} {sz'' : Nat} {xs : List AV}, s.mem[b]? = some blk → blk.rowOf = some (t, sz'', xs) → rel Hd ι w (.own b sz' off len) yv → (sz' = sz ∧ sz'' = sz ∧ off + len ≤ xs.length) → ys = (xs.drop off).take len →
      ∃ (ad : Option Addr) (cap : Nat) (vs : List Value), yv = .slice ad ys.length cap ∧ q04 ys = [] ∧ rels Hd ι w ys vs ∧ (ys = [] ∨ ∃ r off, ad = some ⟨r, off, none⟩ ∧ RowAt w r off sz vs) := by
    intro b sz' off len blk t sz'' xs hm hro hy hc hys
    obtain ⟨rfl, rfl, hle⟩ := hc
    subst hys
    obtain ⟨hpu, hmr⟩ := q4e hro (h.mem b _ hm)
    have hpu' := q1s (q1m hpu off) len
    have hl : ((xs.drop off).take len).length = len := by simp; omega
    rcases hy with ⟨r, cap, n, t', rfl, hcap, hmx, hbr, hs, hn⟩ | ⟨a0, rfl, h1, h2, h3⟩
    · rcases hmr with ⟨r', cells, vs, k1, k2, k3, k4⟩ | ⟨k1, _⟩
      · obtain rfl : r = r' := by rw [hbr] at k1; simpa using k1
        have := RowAt.drop_take k4 off len
        rw [Nat.zero_add] at this
        exact ⟨_, cap, (vs.drop off).take len, by rw [hl], hpu', q1t _ (q1i _ k3), .inr ⟨r, _, rfl, this⟩⟩
      · rw [hbr] at k1; cases k1
    · subst h1; subst h2
      exact ⟨a0, 0, [], by rw [hl], hpu', by simp [rels], .inl (by simp)⟩
  unfold gelems at e
  split at e <;> try (cases e; done)
  · rename_i ad c
    cases e
    cases hy
    exact ⟨ad, c, [], rfl, rfl, rfl, .inl rfl⟩
  · rename_i sz' ys'
    cases e
    cases hC
    obtain ⟨hp, ad, cap, vs, rfl, hc, hr, hm⟩ := hy
    exact ⟨ad, cap, vs, rfl, hp, hr, hm.imp id fun ⟨r, off, e, _, hrow⟩ => ⟨r, off, e, hrow⟩⟩
  · split at e <;> try (cases e; done)
    · rename_i hm
      cases e
      exact own hm rfl hy hC rfl
    · rename_i hm
      cases e
      exact own hm rfl hy hC rfl
theorem q3k {P : Program} {w w0 : World} {sz k n cap : Nat} {ad : Option Addr} {vs : List Value} (hw : w.heap = w0.heap) (hk : k ≤ vs.length) (h : vs = [] ∨ ∃ r off, ad = some ⟨r, off, none⟩ ∧ RowAt w0 r off sz vs) :
    (Builtin.firstCells sz k (.slice ad n cap)).run P w = .ok (flatV (vs.take k)).toArray w := by
  rcases h with rfl | ⟨r, off, rfl, hrow⟩
  · obtain rfl : k = 0 := by simpa using hk
    cases ad with
    | none => simp [Builtin.firstCells, flatV]
    | some ad => simp [Builtin.firstCells, flatV, loadCells, loadCellsFrom]
  · refine run_firstCells_some w sz k ⟨r, off, none⟩ n cap _ ?_ ?_
    · rw [q0i _ (fun v hv => hrow.1 v (List.mem_of_mem_take hv)), List.length_take, Nat.min_eq_left hk]
    · intro j u hu
      have h1 : (flatV vs)[j]? = some u := by
        rw [flatV_take vs k hrow.1, List.getElem?_take] at hu
        split at hu
        · exact hu
        · cases hu
      have := q2b hrow.2.1 j u h1
      simpa only [World.cell?, hw] using this
def gtake (s : St) (y : AV) (sz k : Nat) : Option (Prop × List AV) :=
  match y with
  | .v (.slice _ 0 _) => some (True, [])
  | .sl sz' ys => some (sz' = sz, ys.take k)
  | .own b sz' off len => match s.mem[b]? with
    | some (.row _ sz'' xs) => some (sz' = sz ∧ sz'' = sz ∧ off + min k len ≤ xs.length, (xs.drop off).take (min k len))
    | some (.rowc _ sz'' xs _) => some (sz' = sz ∧ sz'' = sz ∧ off + min k len ≤ xs.length, (xs.drop off).take (min k len))
    | _ => none
  | _ => none
theorem gtake_sound {B : Nat} {ι : Loc} {s : St} {a : Act} {w : World} (h : Rel Hd B ι s a w) {y : AV} {yv : Value} {sz k : Nat} {C : Prop} {ys : List AV} (hy : rel Hd ι w y yv) (e : gtake s y sz k = some (C, ys)) (hC : C) :
    ∃ (ad : Option Addr) (n cap : Nat) (vs : List Value), yv = .slice ad n cap ∧ ys.length = Nat.min n k ∧ q04 ys = [] ∧ rels Hd ι w ys vs ∧ (ys = [] ∨ ∃ r off, ad = some ⟨r, off, none⟩ ∧ RowAt w r off sz vs) := by
  have own : ∀ {b sz' off len : Nat} {blk : AB} {t : TypeId} {sz'' : Nat} {xs : List AV}, s.mem[b]? = some blk → blk.rowOf = some (t, sz'', xs) → rel Hd ι w (.own b sz' off len) yv → (sz' = sz ∧ sz'' = sz ∧ off + min k len ≤ xs.length) → ys = (xs.drop off).take (min k len) →
      ∃ (ad : Option Addr) (n cap : Nat) (vs : List Value), yv = .slice ad n cap ∧ ys.length = Nat.min n k ∧ q04 ys = [] ∧ rels Hd ι w ys vs ∧ (ys = [] ∨ ∃ r off, ad = some ⟨r, off, none⟩ ∧ RowAt w r off sz vs) := by
    intro b sz' off len blk t sz'' xs hm hro hy hc hys
    obtain ⟨rfl, rfl, hle⟩ := hc
    subst hys
    obtain ⟨hpu, hmr⟩ := q4e hro (h.mem b _ hm)
    have hpu' := q1s (q1m hpu off) (min k len)
    have hl : ((xs.drop off).take (min k len)).length = Nat.min len k := by
      simp only [List.length_take, List.length_drop]
      show _ = min len k
      omega
    rcases hy with ⟨r, cap, n, t', rfl, hcap, hmx, hbr, hs, hn⟩ | ⟨a0, rfl, h1, h2, h3⟩
    · rcases hmr with ⟨r', cells, vs, k1, k2, k3, k4⟩ | ⟨k1, _⟩
      · obtain rfl : r = r' := by rw [hbr] at k1; simpa using k1
        have := RowAt.drop_take k4 off (min k len)
        rw [Nat.zero_add] at this
        exact ⟨_, len, cap, (vs.drop off).take (min k len), rfl, hl, hpu', q1t _ (q1i _ k3), .inr ⟨r, _, rfl, this⟩⟩
      · rw [hbr] at k1; cases k1
    · subst h1; subst h2
      exact ⟨a0, 0, 0, [], rfl, hl, hpu', by simp [rels], .inl (by simp)⟩
  unfold gtake at e
  split at e <;> try (cases e; done)
  · rename_i ad c
    cases e
    cases hy
    exact ⟨ad, 0, c, [], rfl, by simp, rfl, rfl, .inl rfl⟩
  · rename_i sz' ys'
    cases e
    cases hC
    obtain ⟨hp, ad, cap, vs, rfl, hc, hr, hm⟩ := hy
    refine ⟨ad, _, cap, vs.take k, rfl, ?_, q1s hp k, q1t k hr, ?_⟩
    · rw [List.length_take]; exact Nat.min_comm _ _
    · rcases hm with rfl | ⟨r, off, e, _, hrow⟩
      · exact .inl (by simp)
      · refine .inr ⟨r, off, e, ?_⟩
        have := RowAt.drop_take hrow 0 k
        simpa using this
  · split at e <;> try (cases e; done)
    · rename_i hm
      cases e
      exact own hm rfl hy hC rfl
    · rename_i hm
      cases e
      exact own hm rfl hy hC rfl
def gcopy (T : TypeId → Option TI) (t : TypeId) (x y : AV) (s : St) : Step :=
  match T t with
  | some ti => match ti.desc with
    | .slice e => match T e with
      | some te => match x with
        | .own b sz off len => match gtake s y te.size len with
          | some (c, ys) => match s.mem[b]? with
            | some (.row t' sz' xs) => some (sz = te.size ∧ sz' = te.size ∧ c ∧ 0 < len ∧ off ≤ xs.length, .v (.int .i64 ys.length), { s with mem := s.mem.set b (.row t' sz' (q28 xs off ys)) })
            | some (.rowc t' sz' xs N) => some (sz = te.size ∧ sz' = te.size ∧ c ∧ 0 < len ∧ off ≤ xs.length, .v (.int .i64 ys.length), { s with mem := s.mem.set b (.rowc t' sz' (q28 xs off ys) N) })
            | _ => none
          | none => none
        | _ => none
      | none => none
    | _ => none
  | none => none
theorem gcopy_sound {P : Program} {T : TypeId → Option TI} (hT : TyOk P T) {B : Nat} {ι : Loc} {s s' : St} {a : Act} {w : World} {K : AV → St → Prop} (h : Rel Hd B ι s a w) {t t2 ty : TypeId} {x y z : AV} {xv yv : Value} {C : Prop}
    (hx : rel Hd ι w x xv) (hy : rel Hd ι w y yv) (e : gcopy T t x y s = some (C, z, s')) (hC : C) (hK : K z s') : Out P Hd L B ι a w (Builtin.copy_ #[t, t2] ty #[xv, yv]) isV K := by
  unfold gcopy at e
  split at e <;> try (cases e; done)
  rename_i ti ht
  split at e <;> try (cases e; done)
  rename_i el hd
  split at e <;> try (cases e; done)
  rename_i te hte
  split at e <;> try (cases e; done)
  rename_i b sz off len
  split at e <;> try (cases e; done)
  rename_i c ys hys
  obtain ⟨_, i, zv, hi, hisz, hiby, hiz, hzc⟩ := hT el te hte
  have hu : P.underlying t = some (.slice el) := by rw [(hT t ti ht).1, hd]
  have key : ∀ {blk : AB} {t' : TypeId} {sz' : Nat} {xs : List AV}, s.mem[b]? = some blk → blk.rowOf = some (t', sz', xs) → (sz = te.size ∧ sz' = te.size ∧ c ∧ 0 < len ∧ off ≤ xs.length) →
      z = .v (.int .i64 ys.length) → s' = { s with mem := s.mem.set b (blk.rowSet (q28 xs off ys)) } → Out P Hd L B ι a w (Builtin.copy_ #[t, t2] ty #[xv, yv]) isV K := by
    intro blk t' sz' xs hm hro hc hz hs'
    subst hz; subst hs'
    obtain ⟨rfl, rfl, hcc, hlen, hoff⟩ := hc
    obtain ⟨ad, yn, ycap, vs, rfl, hyn, hpy, hry, hrow⟩ := gtake_sound h hy hys hcc
    obtain ⟨hpx, hmr⟩ := q4e hro (h.mem b _ hm)
    have hyl := q0b hry
    rcases hx with ⟨r, cap, n, t3, rfl, hcap, hmx, hbr, hs, hn⟩ | ⟨a0, rfl, _, hx0, _⟩
    · rcases hmr with ⟨r', cells, us, k1, k2, k3, k4⟩ | ⟨k1, _⟩
      · obtain rfl : r = r' := by rw [hbr] at k1; simpa using k1
        have hsz : cells.size = (off + cap) * te.size := by
          simp only [World.shape?, k2, Option.some.injEq, Prod.mk.injEq] at hs
          rw [hs.2, ← hn]
        have hsize : ∀ v ∈ vs, v.cells.size = te.size := by
          rcases hrow with rfl | ⟨_, _, _, hrow⟩
          · intro v hv
            have : vs = [] := by simpa using hyl.symm
            rw [this] at hv; cases hv
          · exact hrow.1
        have hflat : ∀ u ∈ flatV vs, u.oneCell' = true := by
          rcases hrow with rfl | ⟨_, _, _, hrow⟩
          · intro u hu
            have : vs = [] := by simpa using hyl.symm
            rw [this] at hu; cases hu
          · exact hrow.2.2
        have hfv := q0i vs hsize
        have hylen : ys.length ≤ len := by rw [hyn]; exact Nat.min_le_right _ _
        have hfit : (off + ys.length) * te.size ≤ cells.size := by
          rw [hsz]
          exact Nat.mul_le_mul_right _ (Nat.add_le_add_left (by omega) _)
        obtain ⟨hR, hE⟩ := h.writeSeg (L := L) hm hro hbr k2 k3 k4 hpx (off := off) hry hpy hsize hflat hoff hfit
        have hst := run_storeCells_at P r (off * te.size) t' (flatV vs) 0 cells w k2 (by rw [hfv, ← hyl, Nat.add_zero, ← Nat.add_mul]; exact hfit) hflat
        simp only [Nat.add_zero] at hst
        have hfc : (Builtin.firstCells i.size (Nat.min yn len) (.slice ad yn ycap)).run P w = .ok (flatV vs).toArray w := by
          have h1 := q3k (P := P) (w := w) (w0 := w) (sz := te.size) (k := ys.length) (n := yn) (cap := ycap) (ad := ad) (vs := vs) rfl (by rw [← hyl]; exact Nat.le_refl _)
            (by rcases hrow with rfl | hrow
                · exact .inl (by simpa using hyl.symm)
                · exact .inr hrow)
          rw [← hyn, hisz, h1, List.take_of_length_le (by omega)]
        refine ⟨goInt ys.length, _, _, ι, _, _, ?_, rfl, rel_v, hR, hE, hK⟩
        simp only [Builtin.copy_, List.getElem?_toArray, List.getElem?_cons_zero, List.getElem?_cons_succ, run_underlying hT ht, Sem.run_bind, Result.andThen_ok, hd, Builtin.lenOf, Sem.run_pure, sizeOf, typeInfo, run_program, hi, hfc, hst]
        first | rfl | simp [hi, hfc, hst, hyn]
      · rw [hbr] at k1; cases k1
    · subst hx0; omega
  split at e <;> try (cases e; done)
  · rename_i hm; cases e; exact key hm rfl hC rfl rfl
  · rename_i hm; cases e; exact key hm rfl hC rfl rfl
end Go.Proofs.YtdkcpcflfnakdaaGreat.Sym
