/- A text of the walk that proves a law of this seat; joined by a program. -/
import Derived.Test.YtdkcpcflfnakdaaGreatSymN
import Derived.WalkKit
import Derived.ProofKit
import Derived.OpenShut
import Derived.ShutString
import Derived.ChangeOld
import Derived.Below
import Derived.SizedLaws
set_option linter.unusedSimpArgs false
set_option linter.unusedVariables false
namespace Go.Proofs.YtdkcpcflfnakdaaGreat.Sym
open Go Go.RowKit Go.ChangeShapes Go.WideShapes
def pack (agg : Bool) (zs : List AV) : AV := if agg then .agg zs else zs.headD .any
mutual
def Lf.fits : Lf → AV → Prop
 | .int k, x => ∃ n, x = .v (.int k n) ∧ (Lit.int k n).wf = true
 | .bool, x => ∃ b, x = .v (.bool b)
 | .str, x => ∃ s : ByteArray, x = .v (.string s) ∧ s.size ≤ maxLen
 | .sl sz agg cs, x => ∃ ys : List AV, x = .sl sz ys ∧ ys.length ≤ maxLen ∧ ∀ y ∈ ys, ∃ zs, q2y cs zs ∧ y = pack agg zs
def q2y : List Lf → List AV → Prop
 | [], xs => xs = []
 | l :: ls, xs => ∃ x rest, xs = x :: rest ∧ l.fits x ∧ q2y ls rest
end
theorem qee : ∀ {a b : List Lf} {xs ys : List AV}, q2y a xs → q2y b ys → q2y (a ++ b) (xs ++ ys)
 | [], b, xs, ys, h, k => by
  have : xs = [] := by simpa [q2y] using h
  subst this; exact k
 | l :: a, b, xs, ys, h, k => by
  simp only [q2y] at h
  obtain ⟨x, rest, rfl, h1, h2⟩ := h
  simp only [z1u, q2y]
  exact ⟨x, rest ++ ys, rfl, h1, qee h2 k⟩
theorem q93 : ∀ {xs ys : List AV}, q05 xs = [] → q05 ys = [] → q05 (xs ++ ys) = []
 | [], ys, _, k => k
 | x :: xs, ys, h, k => by
  simp only [q05, z2u] at h
  simp only [z1u, q05, h.1, z21]
  exact q93 h.2 k
section
variable {H : Type} {enc : TypeId × Value → H} {P : Program} {T : TypeId → Option TI} {w : World} {base : Nat} {spare : Nat → Bool} {held : Bool}
def Opens (w : World) (ls : List Lf) (cs : List Value) : Prop :=
 ∃ xs, q2y ls xs ∧ rels (fun _ => False) [] w xs cs ∧ q05 xs = [] ∧ ∀ c ∈ cs, c.oneCell' = true
theorem qf1 (hT : TyOk P T) {t : TypeId} {ti : TI} (h : T t = some ti) : P.cellsOf t = ti.size := by
 obtain ⟨_, i, z, h1, h2, _⟩ := hT t ti h
 simp [Program.cellsOf, h1, h2]
theorem qgk (hT : TyOk P T) {rec : TypeId → Option (List Lf)} {cs : List Value} {size : Nat} (hlen : cs.length = size)
 (hrec : ∀ t l cs', rec t = some l → (∃ fuel x, DataW.trod enc P w base spare held fuel t cs' = some x) → Opens w l cs') :
 ∀ (fs : List Field) (off : Nat) (ls : List Lf), lfsF T rec size fs off = some ls → (∀ f ∈ fs, ∃ fuel x, DataW.trod enc P w base spare held fuel f.type ((cs.drop f.offset).take (P.cellsOf f.type)) = some x) →
  Opens w ls (cs.drop off)
 | [], off, ls, h, _ => by
  simp only [lfsF] at h
  split at h
  · cases h
    rename_i ho
    rw [List.drop_eq_nil_of_le (by omega)]
    exact ⟨[], rfl, rfl, rfl, fun c hc => by cases hc⟩
  · cases h
 | f :: fs, off, ls, h, hf => by
  simp only [lfsF] at h
  split at h <;> try (cases h; done)
  rename_i ho
  split at h <;> try (cases h; done)
  rename_i tf htf
  split at h <;> try (cases h; done)
  rename_i a b ha hb
  cases h
  obtain ⟨xs, p1, p2, p3, p4⟩ := hrec _ _ _ ha (hf f (by simp))
  obtain ⟨ys, q1, q2, q3, q4⟩ := qgk hT hlen hrec fs _ _ hb (fun g hg => hf g (by simp [hg]))
  rw [qf1 hT htf, ho] at p2 p4
  have e : (cs.drop off).take tf.size ++ cs.drop (off + tf.size) = cs.drop off := by
   rw [← List.drop_drop, z1o]
  refine ⟨xs ++ ys, qee p1 q1, ?_, q93 p3 q3, ?_⟩
  · have := q13 p2 q2
    rwa [e] at this
  · intro c hc
    rw [← e] at hc
    rcases z0q.1 hc with hc | hc
    · exact p4 c hc
    · exact q4 c hc
theorem q8q (vs : List Value) (v : Value) : q04 (vs ++ [v]) = q04 vs ++ v.cells.toList := by simp [q04]
theorem qn6 {c : Value} (h : c.oneCell' = true) : c.cells = #[c] := by
 cases c <;> first | rfl | simp [Value.oneCell'] at h
theorem qru (hT : TyOk P T) : ∀ (n : Nat) (t : TypeId) (ls : List Lf) (cs : List Value), lfs T n t = some ls → (∃ fuel x, DataW.trod enc P w base spare held fuel t cs = some x) → Opens w ls cs := by
 intro n
 induction n with
 | zero => intro t ls cs h; simp [lfs] at h
 | succ n ih =>
  rintro t ls cs h ⟨fuel, x, hx⟩
  have h0 := h
  simp only [lfs] at h
  split at h <;> try (cases h; done)
  rename_i ti ht
  obtain ⟨hu, -⟩ := hT t ti ht
  split at h <;> rename_i hd
  · cases h
    rw [hd] at hu
    obtain ⟨m, rfl, _, hw⟩ := DataW.trod_int hu hx
    exact ⟨[.v (.int _ m)], ⟨_, [], rfl, ⟨m, rfl, hw⟩, rfl⟩, ⟨_, [], rfl, rfl, rfl⟩, rfl, fun c hc => by simp at hc; subst hc; rfl⟩
  · cases h
    rw [hd] at hu
    obtain ⟨b, rfl, _⟩ := DataW.trod_bool hu hx
    exact ⟨[.v (.bool b)], ⟨_, [], rfl, ⟨b, rfl⟩, rfl⟩, ⟨_, [], rfl, rfl, rfl⟩, rfl, fun c hc => by simp at hc; subst hc; rfl⟩
  · cases h
    rw [hd] at hu
    obtain ⟨s, rfl, _, hs⟩ := DataW.trod_string hu hx
    exact ⟨[.v (.string s)], ⟨_, [], rfl, ⟨s, rfl, hs⟩, rfl⟩, ⟨_, [], rfl, rfl, rfl⟩, rfl, fun c hc => by simp at hc; subst hc; rfl⟩
  · rename_i e
    rw [hd] at hu
    split at h <;> try (cases h; done)
    rename_i te hte
    split at h <;> try (cases h; done)
    rename_i hpos
    simp only [z46] at h
    obtain ⟨l, hl, rfl⟩ := h
    have hsz := qf1 hT hte
    rcases DataW.trod_slice hu hx with ⟨rfl, _⟩ | ⟨a, len, cap, elems, rest, m, rfl, rfl, _, hb, hlc, hcm, hel, hget, _⟩
    · exact ⟨[.sl te.size []], ⟨_, [], rfl, ⟨[], rfl, by simp [maxLen], fun y hy => by cases hy⟩, rfl⟩, ⟨_, [], rfl, ⟨rfl, none, 0, [], rfl, z09 _, rfl, .inl rfl⟩, rfl⟩, rfl, fun c hc => by simp at hc; subst hc; rfl⟩
    · rw [hsz] at hget
      have each : ∀ i, i < len → ∃ cs' zs, cs'.length = te.size ∧ (∀ j, j < te.size → w.cell? ((a.add (i * te.size)).add j) = cs'[j]?) ∧ q2y l zs ∧ rels (fun _ => False) [] w zs cs' ∧ q05 zs = [] ∧ ∀ c ∈ cs', c.oneCell' = true := by
       intro i hi
       have h1 := hget i hi
       have h2 : ∃ y, elems[i]? = some y := ⟨elems[i], by simp [hel, hi]⟩
       obtain ⟨y, hy⟩ := h2
       rw [hy, Option.bind_eq_some_iff] at h1
       obtain ⟨cs', hcs, hy'⟩ := h1
       obtain ⟨_, h3, h4⟩ := World.cells?_some hcs
       obtain ⟨zs, p1, p2, p3, p4⟩ := ih e l cs' hl ⟨m, y, hy'⟩
       exact ⟨cs', zs, h3, h4, p1, p2, p3, p4⟩
      by_cases h0l : len = 0
      · subst h0l
        exact ⟨[.sl te.size []], ⟨_, [], rfl, ⟨[], rfl, by simp [maxLen], fun y hy => by cases hy⟩, rfl⟩, ⟨_, [], rfl, ⟨rfl, some a, cap, [], rfl, z00 _, rfl, .inl rfl⟩, rfl⟩, rfl, fun c hc => by simp at hc; subst hc; rfl⟩
      · obtain ⟨c0, z0, hc0, hcell0, -⟩ := each 0 (by omega)
        have hfirst : w.cell? a = some c0[0] := by
         have := hcell0 0 hpos
         simpa [Addr.add, hc0, hpos] using this
        obtain ⟨r, off, sp⟩ := a
        have hsp : sp = none := by
         unfold World.cell? at hfirst
         split at hfirst
         · split at hfirst
           · cases hfirst
           · rename_i hn; simpa using hn
         · cases hfirst
        subst hsp
        have hr : r < w.heap.size := by
         unfold World.cell? at hfirst
         split at hfirst
         · rename_i hh
           exact (z1t.1 hh).1
         · cases hfirst
        have hadd : ∀ i j, ((⟨r, off, none⟩ : Addr).add i).add j = ⟨r, off + (i + j), none⟩ := by
         intro i j
         unfold Addr.add
         by_cases hi : i = 0 <;> by_cases hj : j = 0 <;> simp [hi, hj, z4j]
        have build : ∀ k, k ≤ len → ∃ ys vs, ys.length = k ∧ (∀ y ∈ ys, ∃ zs, q2y l zs ∧ y = pack te.isAgg zs) ∧ rels (fun _ => False) [] w ys vs ∧ q05 ys = [] ∧ q20 w r off te.size vs ∧ (q04 vs).length = k * te.size := by
         intro k
         induction k with
         | zero => intro _; exact ⟨[], [], rfl, (fun y hy => by cases hy), rfl, rfl, ⟨(fun v hv => by cases hv), (fun i hi => by simp [q04] at hi), (fun u hu => by simp [q04] at hu)⟩, by simp [q04]⟩
         | succ k ihk =>
          intro hk
          obtain ⟨ys, vs, g1, g2, g3, g4, g5, g6⟩ := ihk (by omega)
          obtain ⟨cs', zs, d1, d2, d3, d4, d5, d6⟩ := each k (by omega)
          have hv : ∃ v, rel (fun _ => False) [] w (pack te.isAgg zs) v ∧ v.cells.toList = cs' ∧ (pack te.isAgg zs).refs = [] := by
           unfold pack
           by_cases hag : te.isAgg = true
           · rw [if_pos hag]
             exact ⟨.agg cs'.toArray, ⟨cs', rfl, d4⟩, by simp [Value.cells], d5⟩
           · rw [if_neg hag]
             obtain ⟨lf, rfl⟩ := qm9 hte (by simpa using hag) hl
             obtain ⟨z, rest', rfl, _, hrest⟩ := d3
             have : rest' = [] := by simpa [q2y] using hrest
             subst this
             obtain ⟨c, cr, rfl, e1, e2⟩ := d4
             cases e2
             refine ⟨c, e1, ?_, ?_⟩
             · rw [qn6 (d6 c (by simp))]
             · simpa [q05] using d5
          obtain ⟨v, v1, v2, v3⟩ := hv
          refine ⟨ys ++ [pack te.isAgg zs], vs ++ [v], by simp [g1], ?_, q13 g3 ⟨v, [], rfl, v1, rfl⟩, q93 g4 (by simp [q05, v3]), ⟨?_, ?_, ?_⟩, ?_⟩
          · intro y hy
            rcases z0q.1 hy with hy | hy
            · exact g2 y hy
            · simp at hy; exact ⟨zs, d3, hy⟩
          · intro u hu
            rcases z0q.1 hu with hu | hu
            · exact g5.1 u hu
            · simp at hu; subst hu; rw [← d1, ← v2]; simp
          · intro i hi
            have hi' : i < k * te.size + te.size := by
             rw [q8q, z0c, v2, g6, d1] at hi; exact hi
            by_cases hlt : i < (q04 vs).length
            · have := g5.2.1 i hlt
              rw [this]
              congr 1
              simp only [q8q]
              rw [z32 hlt]
            · have hj : i - k * te.size < te.size := by omega
              have := d2 (i - k * te.size) hj
              rw [hadd] at this
              rw [show off + i = off + (k * te.size + (i - k * te.size)) by omega, this]
              rw [z05 (by omega)]
              congr 1
              simp only [q8q]
              rw [z5m (by omega)]
              simp only [v2, g6]
          · intro u hu
            rw [q8q] at hu
            rcases z0q.1 hu with hu | hu
            · exact g5.2.2 u hu
            · rw [v2] at hu; exact d6 u hu
          · rw [q8q, z0c, v2, g6, d1, Nat.succ_mul]
        obtain ⟨ys, vs, g1, g2, g3, g4, g5, g6⟩ := build len (z09 _)
        refine ⟨[.sl te.size ys], ⟨_, [], rfl, ⟨ys, rfl, by omega, g2⟩, rfl⟩, ⟨_, [], rfl, ⟨g4, some ⟨r, off, none⟩, cap, vs, by rw [g1], by omega, g3, .inr ⟨r, off, rfl, ⟨hr, by simp, fun hh => hh⟩, g5⟩⟩, rfl⟩, ?_, fun c hc => by simp at hc; subst hc; rfl⟩
        simp [q05, AV.refs, g4]
  · rename_i fs
    rw [hd] at hu
    obtain ⟨xs, m, rfl, _, hlen, hxl, hget⟩ := DataW.trod_struct hu hx
    have := qgk hT (enc := enc) (spare := spare) (held := held) (base := base) (w := w) (by rw [hlen, qf1 hT ht]) (fun t' l' cs' h1 h2 => ih t' l' cs' h1 h2) fs.toList 0 ls h ?_
    · simpa using this
    · intro f hf
      obtain ⟨i, hi⟩ := z1m hf
      have h1 := hget i f (by simpa using hi)
      have hil : i < xs.length := by
       rw [hxl]
       have := (z08.1 hi).1
       simpa using this
      exact ⟨m, xs[i], by rw [h1, z05 hil]⟩
  · cases h
def qb2 (T : TypeId → Option TI) (n : Nat) : List TypeId → Option (List (Bool × List Lf))
 | [] => some []
 | t :: ts => match T t, lfs T n t, qb2 T n ts with
  | some ti, some l, some r => some ((ti.isAgg, l) :: r)
  | _, _, _ => none
def qm6 : List (Bool × List Lf) → List AV → Prop
 | [], xs => xs = []
 | (agg, l) :: r, xs => ∃ zs rest, xs = pack agg zs :: rest ∧ q2y l zs ∧ qm6 r rest
theorem open_arg (hT : TyOk P T) {r : Reach} {b0 n : Nat} {t : TypeId} {ti : TI} {l : List Lf} {v : Value} {d : DataW H} {ps : List MemPlace} (ht : T t = some ti) (hl : lfs T n t = some l)
 (hval : Value.okWide P w r b0 t v) (hd : DataW.Trod enc P w base spare held t v d ps) : ∃ zs, q2y l zs ∧ rel (fun _ => False) [] w (pack ti.isAgg zs) v := by
 obtain ⟨fuel, hf⟩ := hd
 obtain ⟨zs, h1, h2, h3, h4⟩ := qru hT n t l _ hl ⟨fuel, _, hf⟩
 refine ⟨zs, h1, ?_⟩
 obtain ⟨hu, -⟩ := hT t ti ht
 have one : v.oneCell' = true → ti.isAgg = false → rel (fun _ => False) [] w (pack ti.isAgg zs) v := by
  intro ho ha
  obtain ⟨lf, rfl⟩ := qm9 ht ha hl
  obtain ⟨z, rest', rfl, _, hrest⟩ := h1
  have : rest' = [] := by simpa [q2y] using hrest
  subst this
  rw [qn6 ho] at h2
  obtain ⟨c, cr, e0, e1, e2⟩ := h2
  cases e2
  simp at e0
  subst e0
  unfold pack
  rw [if_neg (by simp [ha])]
  exact e1
 cases n with
 | zero => simp [lfs] at hl
 | succ n =>
  simp only [lfs, ht] at hl
  split at hl <;> rename_i hd
  · rw [hd] at hu
    obtain ⟨m, rfl⟩ := okWide_int hu hval
    exact one rfl (by simp [TI.isAgg, hd])
  · rw [hd] at hu
    obtain ⟨b, rfl⟩ := okWide_bool hu hval
    exact one rfl (by simp [TI.isAgg, hd])
  · rw [hd] at hu
    have := DataW.trod_string hu hf
    refine one ?_ (by simp [TI.isAgg, hd])
    obtain ⟨s, hs, _⟩ := this
    unfold Value.okWide at hval
    rw [hu] at hval
    simp only [Cell.okWide, hu, Cell.ok] at hval
    cases v <;> first | rfl | (simp at hval; done) | exact hval.elim
  · rw [hd] at hu
    obtain ⟨a, len, cap, rfl⟩ := okWide_slice hu hval
    exact one rfl (by simp [TI.isAgg, hd])
  · rw [hd] at hu
    unfold Value.okWide at hval
    rw [hu] at hval
    obtain ⟨cs, rfl, _, _⟩ := hval
    unfold pack
    rw [if_pos (by simp [TI.isAgg, hd])]
    exact ⟨cs.toList, by simp, h2⟩
  · cases hl
theorem qnk (hT : TyOk P T) {r : Reach} {b0 n : Nat} : ∀ (ts : List TypeId) (ls : List (Bool × List Lf)) (vs : List Value) (ds : List (DataW H)) (ps : List MemPlace), qb2 T n ts = some ls →
 (∀ (j : Nat) t v, ts[j]? = some t → vs[j]? = some v → Value.okWide P w r b0 t v) → DataW.TrodAll enc P w base spare held ts vs ds ps → ∃ xs, qm6 ls xs ∧ rels (fun _ => False) [] w xs vs
 | [], ls, vs, ds, ps, h, hval, hd => by
  obtain ⟨rfl, _, _⟩ := trodAll_nil hd
  simp only [qb2] at h
  cases h
  exact ⟨[], rfl, rfl⟩
 | t :: ts, ls, vs, ds, ps, h, hval, hd => by
  obtain ⟨v, vs', d, ds', p, q, rfl, rfl, rfl, hd1, hd2⟩ := trodAll_cons hd
  simp only [qb2] at h
  split at h <;> try (cases h; done)
  rename_i ti l r' ht hl hr
  cases h
  obtain ⟨zs, h1, h2⟩ := open_arg hT ht hl (hval 0 t v rfl rfl) hd1
  obtain ⟨xs, h3, h4⟩ := qnk hT ts r' vs' ds' q hr (fun j t' v' hj hv => hval (j + 1) t' v' (by simpa using hj) (by simpa using hv)) hd2
  exact ⟨pack ti.isAgg zs :: xs, ⟨zs, xs, rfl, h1, h3⟩, v, vs', rfl, h2, h4⟩
end
theorem q08.calls {P : Program} {g : FuncId} {args : List AV} {R : AV → Prop} (h : q08 P g args R) {w : World} {vs : List Value} (hv : rels (fun _ => False) [] w args vs) (hg : GlobOk (fun _ => False) [] w) :
 Calls P g vs.toArray w fun e w' => ∃ y x, e = .returned y ∧ R x ∧ (∀ u, x = .v u → y = u) ∧ Below w.heap.size w w' := by
 refine (h.2 (fun _ => False) [] w vs ⟨rfl, fun r hr => (by cases hr), fun i j r hi => (by simp at hi), by simpa using hv, fun i blk hi => (by simp at hi), ⟨[], rfl, z24, fun r hr => by cases hr⟩, fun r hr => hr.elim, hg⟩).mono ?_
 rintro e w' ⟨y, x, ι', m', rfl, hR, hE, rfl, hx⟩
 refine ⟨y, x, rfl, hx, ?_, ?_⟩
 · rintro u rfl
   obtain ⟨y', zs, e1, e2, e3⟩ := hR.tmps
   simp at e1
   have := e1.1
   subst this
   exact e2
 · have := hE 0
   exact ⟨this.os, this.tape, this.output, this.size, fun k hk => (this.imm k hk (by simp)).2⟩
