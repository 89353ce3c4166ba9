/- A text of the walk that proves a law of this seat; joined by a program. -/
import Derived.Test.YtdkcpcflfnakdaaGreatSymE
set_option linter.unusedSimpArgs false
set_option linter.unusedVariables false
namespace Go.Proofs.YtdkcpcflfnakdaaGreat.Sym
open Go Go.RowKit
variable {L : Nat} {Hd : Nat → Prop}
variable {b sz : Nat} {ti : TI} {w : World} {ι : Loc}
mutual
def q5u (m : List AB) (b : Nat) : AV → AV
 | .agg xs => .agg (q6n m b xs)
 | .tup xs => .tup (q6n m b xs)
 | .own b' sz off len => if b' = b then (match m[b]? with
  | some (.row _ sz' xs) => if sz = sz' ∧ off + len ≤ xs.length then .sl sz ((xs.drop off).take len) else .any
  | _ => .any) else .own b' sz off len
 | .ptr b' c => if b' = b then .any else .ptr b' c
 | .ep b' sz i c => if b' = b then .any else .ep b' sz i c
 | .fn f caps => .fn f (q6n m b caps)
 | x => x
def q6n (m : List AB) (b : Nat) : List AV → List AV
 | [] => []
 | x :: xs => q5u m b x :: q6n m b xs
end
def AB.shut (m : List AB) (b : Nat) : AB → AB
 | .box cs => .box (q6n m b cs)
 | x => x
def St.shut (s : St) (b : Nat) : St := ⟨q6n s.mem b s.tmps, (s.mem.map (AB.shut s.mem b)).set b .gone⟩
theorem q1k {r : Nat} (h : some r ∈ ι.set b none) : some r ∈ ι := by
 rcases z1z h with h | h
 · exact h
 · cases h
theorem qc9 (ι : Loc) (w : World) (b : Nat) (hL : L ≤ b) : Ext L ι w (ι.set b none) w :=
 ⟨rfl, rfl, rfl, z09 _, fun r _ hn => ⟨fun h => hn (q1k h), rfl⟩, fun _ _ => rfl, fun b' o hb ho => by rw [z0e (by omega)]; exact ho⟩
theorem q2s {ι' : Loc} (hs : ∀ r : Nat, some r ∈ ι' → some r ∈ ι) (hlt : ∀ r : Nat, some r ∈ ι → r < w.heap.size) {xs : List AV} {ys : List Value} (hp : q05 xs = []) (h : rels Hd ι w xs ys) : rels Hd ι' w xs ys := by
 have e : Ext 0 ι w ι' w := ⟨rfl, rfl, rfl, z09 _, fun r _ hn => ⟨fun h => hn (hs r h), rfl⟩, fun _ _ => rfl, fun b o hb => absurd hb (z28 b)⟩
 exact q0l e hlt xs ys (fun b hb => by rw [hp] at hb; cases hb) h
theorem q20.drop_take {r o : Nat} {vs : List Value} (h : q20 w r o sz vs) (off len : Nat) : q20 w r (o + off * sz) sz ((vs.drop off).take len) := by
 refine ⟨fun v hv => h.1 v (z3j (z1c hv)), ?_, fun u hu => ?_⟩
 case refine_2 =>
  obtain ⟨v, hv, hu⟩ := z27.1 hu
  exact h.2.2 u (z27.2 ⟨v, z3j (z1c hv), hu⟩)
 have hd := h.2.1.drop (off * sz)
 rw [← q9e vs off h.1] at hd
 intro j hj
 have hle : q04 ((vs.drop off).take len) = (q04 (vs.drop off)).take (((vs.drop off).take len).length * sz) := by
  have h1 : q04 (vs.drop off) = q04 ((vs.drop off).take len) ++ q04 ((vs.drop off).drop len) := by
   conv => lhs; rw [← z1o len (vs.drop off)]
   simp only [q04, List.flatMap_append]
  have h2 : (q04 ((vs.drop off).take len)).length = ((vs.drop off).take len).length * sz := q0k _ (fun v hv => h.1 v (z3j (z1c hv)))
  rw [h1, ← h2, z4e]
 have hj' : j < (q04 (vs.drop off)).length := by
  rw [hle] at hj
  simp only [z1l] at hj
  omega
 have := hd j hj'
 rw [this]
 congr 1
 simp only [hle]
 rw [z48]
mutual
theorem qb1 {m : List AB} (hm : ∀ blk, m[b]? = some blk → q2j Hd ι w b blk) (hinj : ∀ i j r : Nat, ι[i]? = some (some r) → ι[j]? = some (some r) → i = j) (hlt : ∀ r : Nat, some r ∈ ι → r < w.heap.size) (hnh : ∀ r : Nat, some r ∈ ι → ¬ Hd r) :
 ∀ (x : AV) (y : Value), rel Hd ι w x y → rel Hd (ι.set b none) w (q5u m b x) y
 | .v _, _, h => h
 | .agg xs, _, h => by obtain ⟨vs, rfl, h⟩ := h; exact ⟨vs, rfl, q79 hm hinj hlt hnh xs vs h⟩
 | .tup xs, _, h => by obtain ⟨vs, rfl, h⟩ := h; exact ⟨vs, rfl, q79 hm hinj hlt hnh xs vs h⟩
 | .sl sz xs, _, h => by
  obtain ⟨hp, a, cap, vs, rfl, hc, h, hr⟩ := h
  refine ⟨hp, a, cap, vs, rfl, hc, q2s (fun r hh => q1k hh) hlt hp h, hr.imp id ?_⟩
  rintro ⟨r, off, rfl, hi, hrow⟩
  exact ⟨r, off, rfl, ⟨hi.1, fun hh => hi.2.1 (q1k hh), hi.2.2⟩, hrow⟩
 | .rp cs, _, h => by
  obtain ⟨hp, r, off, vs, rfl, hi, h, hc⟩ := h
  exact ⟨hp, r, off, vs, rfl, ⟨hi.1, fun hh => hi.2.1 (q1k hh), hi.2.2⟩, q2s (fun r hh => q1k hh) hlt hp h, hc⟩
 | .own b' sz off len, y, h => by
  simp only [q5u]
  by_cases e : b' = b
  · subst e
    rw [if_pos rfl]
    cases hb : m[b']? with
    | none => exact True.intro
    | some blk =>
     have hmr := hm blk hb
     cases blk with
     | box cs => exact True.intro
     | gone => exact True.intro
     | rowc _ _ _ _ => exact True.intro
     | tr _ _ => exact True.intro
     | row t sz' xs =>
      simp only
      by_cases hc : sz = sz' ∧ off + len ≤ xs.length
      · rw [if_pos hc]
        obtain ⟨rfl, hlen⟩ := hc
        obtain ⟨hpu, hmr⟩ := hmr
        have hpu' := q2e (q25 hpu off) len
        have hl : ((xs.drop off).take len).length = len := by simp; omega
        rcases h with ⟨r, cap, n, t', rfl, hcap, hmx, hbr, hs, hn⟩ | ⟨a0, rfl, h1, h2, h3⟩
        · rcases hmr with ⟨r', cells, vs, k1, k2, k3, k4⟩ | ⟨k1, _⟩
          · obtain rfl : r = r' := by rw [hbr] at k1; simpa using k1
            refine ⟨hpu', some ⟨r, off * sz, none⟩, cap, (vs.drop off).take len, by rw [hl], by rw [hl]; exact hcap, q2s (fun r hh => q1k hh) hlt hpu' (q2c _ (q1u _ k3)), .inr ⟨r, off * sz, rfl, ⟨hlt r (z06 hbr), ?_, hnh r (z06 hbr)⟩, ?_⟩⟩
            · intro hh
              obtain ⟨i, hi⟩ := z1m hh
              by_cases c : b' = i
              · subst c
                rw [z0m (z08.1 hbr).1] at hi
                cases hi
              · rw [z0e c] at hi
                exact c (hinj _ _ _ hbr hi)
            · have := q20.drop_take k4 off len
              rw [z16] at this
              exact this
          · rw [hbr] at k1; cases k1
        · subst h1; subst h2
          refine ⟨hpu', a0, 0, [], by rw [hl], by rw [hl]; exact z09 _, ?_, .inl ?_⟩
          · simp [rels]
          · simp
      · rw [if_neg hc]; exact True.intro
  · rw [if_neg e]
    rcases h with ⟨r, cap, n, t', rfl, hcap, hmx, hbr, hs, hn⟩ | ⟨a0, rfl, h1, h2, h3⟩
    · exact .inl ⟨r, cap, n, t', rfl, hcap, hmx, by rw [z0e (z37 e)]; exact hbr, hs, hn⟩
    · exact .inr ⟨a0, rfl, h1, h2, by rw [z0e (z37 e)]; exact h3⟩
 | .ptr b' c, _, h => by
  simp only [q5u]
  by_cases e : b' = b
  · rw [if_pos e]; exact True.intro
  · rw [if_neg e]
    obtain ⟨r, rfl, hb⟩ := h
    exact ⟨r, rfl, by rw [z0e (z37 e)]; exact hb⟩
 | .ep b' sz i c, _, h => by
  simp only [q5u]
  by_cases e : b' = b
  · rw [if_pos e]; exact True.intro
  · rw [if_neg e]
    obtain ⟨r, rfl, hb⟩ := h
    exact ⟨r, rfl, by rw [z0e (z37 e)]; exact hb⟩
 | .fn f caps, _, h => by obtain ⟨vs, rfl, h⟩ := h; exact ⟨vs, rfl, q79 hm hinj hlt hnh caps vs h⟩
 | .any, _, _ => True.intro
theorem q79 {m : List AB} (hm : ∀ blk, m[b]? = some blk → q2j Hd ι w b blk) (hinj : ∀ i j r : Nat, ι[i]? = some (some r) → ι[j]? = some (some r) → i = j) (hlt : ∀ r : Nat, some r ∈ ι → r < w.heap.size) (hnh : ∀ r : Nat, some r ∈ ι → ¬ Hd r) :
 ∀ (xs : List AV) (ys : List Value), rels Hd ι w xs ys → rels Hd (ι.set b none) w (q6n m b xs) ys
 | [], _, h => h
 | x :: xs, _, h => by
  obtain ⟨y, zs, rfl, h1, h2⟩ := h
  exact ⟨y, zs, rfl, qb1 hm hinj hlt hnh x y h1, q79 hm hinj hlt hnh xs zs h2⟩
end
theorem Rel.shut {B : Nat} {s : St} {a : Act} (h : Rel Hd B ι s a w) (b : Nat) (hL : L ≤ b) : Rel Hd B (ι.set b none) (s.shut b) a w ∧ Ext L ι w (ι.set b none) w := by
 have e := qc9 ι w b hL
 refine ⟨⟨by simp [St.shut, h.len], fun r hr => h.lt r (q1k hr), ?_, q79 (h.mem b) h.inj h.lt h.nhid _ _ h.tmps, ?_, h.marks.ext e, h.hidExt e, h.glob.ext e⟩, e⟩
 · intro i j r hi hj
   have key : ∀ k : Nat, (ι.set b none)[k]? = some (some r) → ι[k]? = some (some r) := by
    intro k hk
    by_cases c : b = k
    · subst c
      by_cases hl : b < ι.length
      · rw [z0m hl] at hk; cases hk
      · rw [z0p (by simp; omega)] at hk; cases hk
    · rw [z0e c] at hk; exact hk
   exact h.inj i j r (key i hi) (key j hj)
 · intro i blk hi
   simp only [St.shut] at hi
   by_cases c : b = i
   · subst c
     by_cases hl : b < s.mem.length
     · rw [z0m (by simpa using hl)] at hi
       cases hi; exact True.intro
     · rw [z0p (by simp; omega)] at hi; cases hi
   · rw [z0e c, z11] at hi
     cases hm : s.mem[i]? with
     | none => rw [hm] at hi; cases hi
     | some blk0 =>
      rw [hm] at hi
      cases hi
      have h0 := h.mem i blk0 hm
      cases blk0 with
      | box cs =>
       obtain ⟨r, t, vs, h1, h2, h3⟩ := h0
       exact ⟨r, t, vs, by rw [z0e c]; exact h1, h2, q79 (h.mem b) h.inj h.lt h.nhid _ _ h3⟩
      | row t sz xs =>
       obtain ⟨hp, h0⟩ := h0
       refine ⟨hp, ?_⟩
       rcases h0 with ⟨r, cells, vs, h1, h2, h3, h4⟩ | ⟨h1, h2⟩
       · exact .inl ⟨r, cells, vs, by rw [z0e c]; exact h1, h2, q2s (fun r hh => q1k hh) h.lt hp h3, h4⟩
       · exact .inr ⟨by rw [z0e c]; exact h1, h2⟩
      | rowc t sz xs N =>
       obtain ⟨⟨hp, h0⟩, hcap⟩ := h0
       refine ⟨⟨hp, ?_⟩, hcap.move (fun o ho => by rw [z0e c]; exact ho) (fun _ _ => rfl)⟩
       rcases h0 with ⟨r, cells, vs, h1, h2, h3, h4⟩ | ⟨h1, h2⟩
       · exact .inl ⟨r, cells, vs, by rw [z0e c]; exact h1, h2, q2s (fun r hh => q1k hh) h.lt hp h3, h4⟩
       · exact .inr ⟨by rw [z0e c]; exact h1, h2⟩
      | gone => exact True.intro
      | tr _ _ => exact True.intro
def St.shutAll (s : St) : List Nat → St
 | [] => s
 | b :: bs => (s.shut b).shutAll bs
theorem Rel.shutAll {B : Nat} : ∀ (bs : List Nat) {ι : Loc} {s : St} {a : Act} {w : World}, Rel Hd B ι s a w → (∀ b ∈ bs, L ≤ b) → ∃ ι', Rel Hd B ι' (s.shutAll bs) a w ∧ Ext L ι w ι' w
 | [], ι, _, _, w, h, _ => ⟨ι, h, Ext.refl _ _⟩
 | b :: bs, ι, s, a, w, h, hL => by
  obtain ⟨h1, e1⟩ := h.shut (L := L) b (hL b (by simp))
  obtain ⟨ι', h2, e2⟩ := Rel.shutAll bs h1 (fun b' hb' => hL b' (by simp [hb']))
  exact ⟨ι', h2, e1.trans e2⟩
mutual
def AV.owners : AV → List Nat
 | .agg xs => q0z xs
 | .tup xs => q0z xs
 | .own b _ _ _ => [b]
 | _ => []
def q0z : List AV → List Nat
 | [] => []
 | x :: xs => x.owners ++ q0z xs
end
def TI.zeroOk (ti : TI) : Bool := decide (ti.zero.length = ti.size) && decide (0 < ti.size) && ti.zero.all Value.oneCell' && (ti.isAgg || decide (ti.size = 1))
def TI.zval (ti : TI) : Value := if ti.isAgg then .agg ti.zero.toArray else ti.zero.headD undef
def TI.zav (ti : TI) : AV := if ti.isAgg then .agg (ti.zero.map .v) else .v (ti.zero.headD undef)
theorem q4u (h : ti.zeroOk = true) : ti.zval.cells.toList = ti.zero := by
 simp only [TI.zeroOk, z0d, decide_eq_true_eq, z1q] at h
 obtain ⟨⟨⟨h1, h2⟩, h3⟩, h4⟩ := h
 unfold TI.zval
 by_cases ha : ti.isAgg = true
 · rw [if_pos ha]; simp [Value.cells]
 · rw [if_neg ha]
   have hs : ti.size = 1 := h4.resolve_left ha
   rw [hs] at h1
   obtain ⟨u, hu⟩ := z4u.1 h1
   rw [hu] at h3 ⊢
   simp only [z35, z3t, z0t] at h3
   cases u <;> first | rfl | (simp [Value.oneCell'] at h3)
theorem qmd : rel Hd ι w ti.zav ti.zval := by
 unfold TI.zav TI.zval
 split
 · exact ⟨_, rfl, qar.2 rfl⟩
 · exact q1n
theorem qjk : ti.zav.refs = [] := by
 unfold TI.zav
 split
 · have : ∀ l : List Value, q05 (l.map .v) = [] := fun l => by rw [q0x]; intro x hx; obtain ⟨_, _, rfl⟩ := z1b.1 hx; rfl
   exact this _
 · rfl
def q3w (xs : List AV) : List (Nat × AV) → List AV
 | [] => xs
 | (i, x) :: rest => q3w (xs.set i x) rest
def q9i (len sz : Nat) : List (Nat × AV) → Prop
 | [] => True
 | (i, x) :: rest => i < len ∧ x.known = true ∧ x.pure = true ∧ x.cells.length = sz ∧ x.cells.all AV.flat = true ∧ q9i len sz rest
def q7h (T : TypeId → Option TI) (L : Nat) (t : TypeId) (len : Nat) (parts : List (Nat × Operand)) (s : St) (K : AV → St → Prop) : Prop :=
 match T t with
 | some ti => match ti.desc with
  | .slice e => match T e with
   | some te => (q0z (parts.map fun (_, x) => s.ev x)).all (fun b => decide (L ≤ b)) = true ∧ te.zeroOk = true ∧ len * te.size ≤ 16777216 ∧ q9i len te.size (parts.map fun (i, x) => (i, (s.shutAll (q0z (parts.map fun (_, x) => s.ev x))).ev x)) ∧
    K (.own (s.shutAll (q0z (parts.map fun (_, x) => s.ev x))).mem.length te.size 0 len)
     { (s.shutAll (q0z (parts.map fun (_, x) => s.ev x))) with mem := (s.shutAll (q0z (parts.map fun (_, x) => s.ev x))).mem ++
      [.row e te.size (q3w (List.replicate len te.zav) (parts.map fun (i, x) => (i, (s.shutAll (q0z (parts.map fun (_, x) => s.ev x))).ev x)))] }
   | none => False
  | _ => False
 | none => False
theorem qod (vs : List Value) (h : ∀ v ∈ vs, v.cells.size = sz) {i : Nat} (hi : i < vs.length) {v : Value} (hv : v.cells.size = sz) :
 q1h (q04 vs).toArray (i * sz) v.cells.toList = (q04 (vs.set i v)).toArray := by
 have hall : ∀ u ∈ vs.set i v, u.cells.size = sz := by
  intro u hu
  rcases z1z hu with hu | rfl
  · exact h u hu
  · exact hv
 have hl := q0k vs h
 have hl2 := q0k _ hall
 have hfit : (i + 1) * sz ≤ vs.length * sz := z1w _ hi
 rw [z25] at hfit
 apply z4o
 intro k
 rw [q68 _ _ _ _ (by simp only [z1g, hv, z2d, hl]; omega)]
 simp only [z0k, z1g, hv, z3d]
 by_cases hk : k < vs.length * sz
 · have hsz0 : 0 < sz := by
    rcases z5f sz with rfl | hp
    · simp at hk
    · exact hp
   have hq : k / sz < vs.length := z59 (by rw [z4d]; exact hk)
   have hj : k % sz < sz := Nat.mod_lt _ hsz0
   have hk2 : k / sz * sz + k % sz = k := by rw [z4d]; exact z5v k sz
   rw [← hk2, qb0 vs h hq hj, qb0 _ hall (by simpa using hq) hj]
   by_cases hqi : k / sz = i
   · rw [hqi, z0m hi, if_neg (by omega), if_pos (by omega)]
     simp only [z4i]
     congr 1; omega
   · rw [z0e (z37 hqi)]
     rcases z5e hqi with hlt | hgt
     · have : (k / sz + 1) * sz ≤ i * sz := z1w _ hlt
       rw [z25] at this
       rw [if_pos (by omega)]
     · have : (i + 1) * sz ≤ k / sz * sz := z1w _ hgt
       rw [z25] at this
       rw [if_neg (by omega), if_neg (by omega)]
 · rw [z0p (by rw [hl]; omega), z0p (by rw [hl2]; simp; omega), if_neg (by omega), if_neg (by omega)]
theorem qfm {len : Nat} : ∀ (parts : List (Nat × AV)) (vparts : List (Nat × Value)) (xs : List AV) (vs : List Value),
 rels Hd ι w xs vs → vs.length = len → (∀ v ∈ vs, v.cells.size = sz) → (∀ u ∈ q04 vs, u.oneCell' = true) → q05 xs = [] →
 parts.map Prod.fst = vparts.map Prod.fst → rels Hd ι w (parts.map Prod.snd) (vparts.map Prod.snd) → q9i len sz parts →
 ∃ vs', Instr.fill (fun i => some (i * sz, sz)) (q04 vs).toArray vparts = some (q04 vs').toArray ∧ rels Hd ι w (q3w xs parts) vs' ∧ vs'.length = len ∧ (∀ v ∈ vs', v.cells.size = sz) ∧
  (∀ u ∈ q04 vs', u.oneCell' = true) ∧ q05 (q3w xs parts) = []
 | [], vparts, xs, vs, h1, h2, h3, h4, h5, hf, _, _ => by
  cases vparts with
  | nil => exact ⟨vs, rfl, h1, h2, h3, h4, h5⟩
  | cons a b => simp at hf
 | (i, x) :: rest, vparts, xs, vs, h1, h2, h3, h4, h5, hf, hs, hok => by
  cases vparts with
  | nil => simp at hf
  | cons p vrest =>
   obtain ⟨i', v⟩ := p
   simp only [z0r, z0h] at hf hs
   obtain ⟨rfl, hf⟩ := hf
   obtain ⟨y, zs, e, k1, k2⟩ := hs
   simp only [z0h] at e
   obtain ⟨rfl, rfl⟩ := e
   obtain ⟨o1, o2, o3, o4, o5, o6⟩ := hok
   have hcx := q6h k1 (AV.known_ne o2)
   have hlx := q0h hcx
   simp only [z1g] at hlx
   have hvs : v.cells.size = sz := by omega
   have hset : ∀ u ∈ vs.set i v, u.cells.size = sz := by
    intro u hu
    rcases z1z hu with hu | rfl
    · exact h3 u hu
    · exact hvs
   have hfl : ∀ u ∈ q04 (vs.set i v), u.oneCell' = true := by
    intro u hu
    obtain ⟨z, hz, hu'⟩ := z27.1 hu
    clear hu
    rcases z1z hz with hz | rfl
    · exact h4 u (z27.2 ⟨z, hz, hu'⟩)
    · exact qb3 hcx o5 u hu'
   obtain ⟨vs', q1, q2, q3, q4, q5, q6⟩ := qfm rest vrest (xs.set i x) (vs.set i v) (qbw i h1 k1) (by simpa using h2) hset hfl (qi0 h5 i (qfn k1 o3)) hf k2 o6
   refine ⟨vs', ?_, q2, q3, q4, q5, q6⟩
   have hl := q0k vs h3
   have hfit : (i + 1) * sz ≤ vs.length * sz := z1w _ (by omega)
   rw [z25] at hfit
   have hcond' : ¬ (v.cells.size ≠ sz ∨ i * sz + v.cells.size > (q04 vs).toArray.size) := by simp only [z2d]; omega
   have hfold : ∀ (us : List Value) (k o : Nat) (arr : Array Value), (us.zipIdx k).foldl (fun cs (c, j) => cs.setIfInBounds (o + j) c) arr = q1h arr (o + k) us := by
    intro us
    induction us with
    | nil => intro k o arr; rfl
    | cons u us ih => intro k o arr; simp only [List.zipIdx_cons, z2o, q1h]; rw [ih]; rfl
   have hfold' : (v.cells.zipIdx.foldl (fun cs (c, j) => cs.setIfInBounds (i * sz + j) c) (q04 vs).toArray) = q1h (q04 vs).toArray (i * sz) v.cells.toList := by
    have := hfold v.cells.toList 0 (i * sz) (q04 vs).toArray
    rw [z1y] at this
    rw [← this, ← z4p]
    congr 1
    simp
   simp only [Instr.fill, z1q, decide_eq_true_eq, if_neg hcond']
   rw [hfold', qod vs h3 (by omega) hvs]
   exact q1
