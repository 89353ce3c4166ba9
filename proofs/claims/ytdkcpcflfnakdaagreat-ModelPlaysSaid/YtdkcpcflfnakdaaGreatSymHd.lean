/- A text of the walk that proves a law of this seat; joined by a program. -/
import Derived.Test.YtdkcpcflfnakdaaGreatSymHc
set_option linter.unusedSimpArgs false
set_option linter.unusedVariables false
namespace Go.Proofs.YtdkcpcflfnakdaaGreat.Sym
open Go Go.RowKit
variable {L : Nat} {Hd : Nat → Prop}
variable {w : World} {ι : Loc}
def qhf (ti : TI) (cs : List AV) : Prop × AV := if ti.isAgg then (ti.size ≤ cs.length, .agg (cs.take ti.size)) else (0 < cs.length, cs.headD .any)
theorem qrd {ti : TI} {cs : List AV} {K : AV → Prop} (h : (qhf ti cs).1) (k : K (qhf ti cs).2) : q42 ti cs K := by
 unfold qhf at h k
 unfold q42
 split
 · rename_i c; rw [if_pos c] at h k; exact ⟨h, k⟩
 · rename_i c
   rw [if_neg c] at h k
   cases cs with
   | nil => simp at h
   | cons x xs => exact k
def q6j (T : TypeId → Option TI) (t : TypeId) (p : AV) (s : St) : Step :=
 match p with
 | .ep b sz i c => match s.mem[b]? with
  | some (.box cs) => match T t with
   | some ti => some ((qhf ti (cs.drop (i * sz + c))).1, (qhf ti (cs.drop (i * sz + c))).2, s)
   | none => none
  | _ => none
 | _ => none
theorem qok {P : Program} {T : TypeId → Option TI} (hT : TyOk P T) {B : Nat} {s s' : St} {a : Act} {K : AV → St → Prop} (h : Rel Hd B ι s a w) {t : TypeId} {p x : AV} {pv : Value} {C : Prop} (hp : rel Hd ι w p pv) (e : q6j T t p s = some (C, x, s')) (hC : C) (hK : K x s') : Out P Hd L B ι a w (Instr.loadAt t pv) isV K := by
 unfold q6j at e
 split at e <;> try (cases e; done)
 rename_i b sz i c
 split at e <;> try (cases e; done)
 rename_i cs hm
 split at e <;> try (cases e; done)
 rename_i ti ht
 cases e
 obtain ⟨r, rfl, hb⟩ := hp
 obtain ⟨r', t', vs, h1, h2, h3⟩ := h.mem b _ hm
 obtain rfl : r = r' := by rw [hb] at h1; simpa using h1
 have hc := (q1x h2).drop (i * sz + c)
 rw [z16] at hc
 obtain ⟨x, y, k1, k2, k3⟩ := qa4 (P := P) hT ht hc (q1u _ h3) (qrd (K := fun x => K x s) hC hK)
 exact Out.pure h k1 k2 k3
def qm4 (x : AV) : Option (List AV) → Option (List AV)
 | some xs => some (x :: xs)
 | none => none
def q9t : List (Nat × AV) → Nat → Option (List AV)
 | [], _ => some []
 | (i, x) :: rest, k => if i = k then qm4 x (q9t rest (k + 1)) else none
def qbf : List AV → Prop
 | [] => True
 | x :: xs => x.known = true ∧ x.flat = true ∧ qbf xs
def bkTop (n : Nat) : AV → Bool
 | .own _ _ _ _ => decide (2 ≤ n)
 | .ptr _ _ => true
 | _ => false
def qqz (n : Nat) : List (Nat × AV) → Bool
 | [] => false
 | (_, x) :: xs => bkTop n x || qqz n xs
def qe8 (s : St) : List (Nat × Operand) → List (Nat × AV)
 | [] => []
 | (i, x) :: rest => (i, s.ev x) :: qe8 s rest
theorem qng (s : St) : ∀ ps, qe8 s ps = ps.map fun (i, x) => (i, s.ev x)
 | [] => rfl
 | (i, x) :: rest => by rw [qe8, qng s rest]; rfl
def qho (T : TypeId → Option TI) (t : TypeId) (len : Nat) (parts : List (Nat × AV)) (s : St) : Step :=
 if qqz len parts = true then (match q9t parts 0 with
 | some xs => match T t with
  | some ti => match ti.desc with
   | .slice e => match T e with
    | some te => if te.size = 1 then some (len = xs.length ∧ len < 1000 ∧ te.zeroOk = true ∧ qbf xs, .own s.mem.length 1 0 len, { s with mem := s.mem ++ [.box xs] }) else none
    | none => none
   | _ => none
  | none => none
 | none => none) else none
theorem qgz : ∀ (ps : List (Nat × AV)) (k : Nat) (xs : List AV), q9t ps k = some xs → ps.map Prod.fst = List.range' k xs.length ∧ ps.map Prod.snd = xs
 | [], k, xs, h => by cases h; exact ⟨rfl, rfl⟩
 | (i, x) :: rest, k, xs, h => by
  simp only [q9t] at h
  split at h <;> try (cases h; done)
  rename_i hik
  cases hr : q9t rest (k + 1) with
  | none => rw [hr] at h; cases h
  | some ys =>
   rw [hr] at h
   simp only [qm4, z1d] at h
   subst h
   obtain ⟨h1, h2⟩ := qgz rest (k + 1) ys hr
   refine ⟨?_, ?_⟩
   · simp only [z0r, h1, hik, z02, List.range'_succ]
   · simp only [z0r, h2]
theorem qb6 {v : Value} (h : v.oneCell' = true) : v.cells = #[v] := by
 cases v <;> first | rfl | (simp [Value.oneCell'] at h)
theorem qpp : ∀ (vs : List Value) (k : Nat) (pre : List Value) (post : List Value), pre.length = k → post.length = vs.length → (∀ v ∈ vs, v.oneCell' = true) →
 Instr.fill (fun i => some (i * 1, 1)) (pre ++ post).toArray ((List.range' k vs.length).zip vs) = some (pre ++ vs).toArray
 | [], k, pre, post, h1, h2, h3 => by
  obtain rfl : post = [] := z1a h2
  rfl
 | v :: vs, k, pre, post, h1, h2, h3 => by
  cases post with
  | nil => simp at h2
  | cons p post =>
   have hv := qb6 (h3 v (by simp))
   simp only [z02, List.range'_succ, z5h, Instr.fill]
   have hcond : ¬ ((decide (v.cells.size ≠ 1) || decide (k * 1 + v.cells.size > (pre ++ p :: post).toArray.size)) = true) := by
    rw [hv]; simp; omega
   have hset : (v.cells.zipIdx.foldl (fun cs (c, j) => cs.setIfInBounds (k * 1 + j) c) (pre ++ p :: post).toArray) = ((pre ++ [v]) ++ post).toArray := by
    rw [hv, ← z4p]
    have hz : (#[v] : Array Value).zipIdx.toList = [(v, 0)] := by simp
    rw [hz]
    simp only [z4t, z2o, List.foldl_nil, z1y, List.setIfInBounds_toArray]
    congr 1
    rw [← h1, z4c _ _ (z09 _)]
    simp
   have hcond' : ¬ (v.cells.size ≠ 1 ∨ k * 1 + v.cells.size > (pre ++ p :: post).toArray.size) := by rw [hv]; simp; omega
   simp only [z1q, decide_eq_true_eq, if_neg hcond']
   rw [hset, qpp vs (k + 1) (pre ++ [v]) post (by simp [h1]) (by simpa using h2) (fun u hu => h3 u (by simp [hu]))]
   simp
theorem qet : ∀ {xs : List AV} {vs : List Value}, rels Hd ι w xs vs → qbf xs → ∀ v ∈ vs, v.oneCell' = true
 | [], _, h, _ => by cases h; simp
 | x :: xs, _, h, hk => by
  obtain ⟨y, zs, rfl, h1, h2⟩ := h
  intro v hv
  rcases z26.1 hv with rfl | hv
  · exact qj5 h1 hk.2.1
  · exact qet h2 hk.2.2 v hv
theorem qny {P : Program} {T : TypeId → Option TI} (hT : TyOk P T) {B : Nat} {s s' : St} {a : Act} {K : AV → St → Prop} (h : Rel Hd B ι s a w) {t : TypeId} {len : Nat} {parts : Array (Nat × Operand)} {z : AV} {C : Prop} (e : qho T t len (qe8 s parts.toList) s = some (C, z, s')) (hC : C) (hK : K z s') : Out P Hd L B ι a w (Instr.buildSlice t len (parts.map fun (i, x) => (i, a.eval x))) isV K := by
 unfold qho at e
 split at e <;> try (cases e; done)
 split at e <;> try (cases e; done)
 rename_i xs hxs
 split at e <;> try (cases e; done)
 rename_i ti ht
 split at e <;> try (cases e; done)
 rename_i el hd
 split at e <;> try (cases e; done)
 rename_i te hte
 split at e <;> try (cases e; done)
 rename_i hsz
 cases e
 obtain ⟨rfl, hlt, hzo, hok⟩ := hC
 obtain ⟨hf, hs⟩ := qgz _ _ _ hxs
 rw [qng] at hf hs
 have hev : ∀ l : List (Nat × Operand), rels Hd ι w ((l.map fun (i, x) => (i, s.ev x)).map Prod.snd) ((l.map fun (i, x) => (i, a.eval x)).map Prod.snd) := by
  intro l
  induction l with
  | nil => rfl
  | cons p l ih => exact ⟨_, _, rfl, h.ev _, ih⟩
 have hr := hev parts.toList
 rw [hs] at hr
 generalize hvs : (parts.toList.map fun (i, x) => (i, a.eval x)).map Prod.snd = vs at hr
 have hlen := q0h hr
 have hone := qet hr hok
 have hzip : (parts.map fun (i, x) => (i, a.eval x)).toList = (List.range' 0 vs.length).zip vs := by
  have hf' : (parts.toList.map fun (i, x) => (i, a.eval x)).map Prod.fst = List.range' 0 vs.length := by
   rw [← hlen, ← hf]; simp [z3m]
  have : ∀ l : List (Nat × Value), l = (l.map Prod.fst).zip (l.map Prod.snd) := by
   intro l; induction l with
   | nil => rfl
   | cons p l ih => simp only [z0r, z5h, ← ih]
  rw [z52, this (parts.toList.map _)]
  congr 1
 obtain ⟨zv, hz, hzc⟩ := q3x hT hte w
 have hvs1 : te.zval.cells.size = te.size := by
  have := hzo
  simp only [TI.zeroOk, z0d, decide_eq_true_eq] at this
  rw [← this.1.1.1, ← q4u hzo]; simp
 have hall : ∀ v ∈ List.replicate xs.length te.zval, v.cells.size = 1 := by
  intro v hv; rw [z1h hv, hvs1, hsz]
 have hfl := q0k _ hall
 rw [z29, z4t] at hfl
 have hrun : (Instr.buildSlice t xs.length (parts.map fun (i, x) => (i, a.eval x))).run P w = .ok (.slice (some ⟨w.heap.size, 0, none⟩) xs.length xs.length) (w.alloc (.cells vs.toArray el)) := by
  have hfill := qpp vs 0 [] (q04 (List.replicate xs.length te.zval)) rfl (by rw [hfl, hlen]) hone
  simp only [z21] at hfill
  simp only [Instr.buildSlice, z0s, run_underlying hT ht, z0b, hd, q10 hT hte]
  rw [if_neg (by rw [hsz]; omega)]
  by_cases h0 : xs.length * te.size = 0
  · rw [if_pos h0]
    simp only [z0s, z15, z0b]
    have hn : xs.length = 0 := by rw [hsz] at h0; omega
    have e0 : (Array.range (xs.length * te.size)).map ((#[] : Array Value)[· % (#[] : Array Value).size]!) = (q04 (List.replicate xs.length te.zval)).toArray := by
     rw [hn]; simp [q04]
    rw [e0, hzip, hsz, hfill]
    simp only [newRow, z0s, run_newObj, z0b, z15]
    rfl
  · rw [if_neg h0]
    simp only [z0s, hz, z15, z0b]
    rw [q8y hzo hzc, hzip, hsz, hfill]
    simp only [newRow, z0s, run_newObj, z0b, z15]
    rfl
 have hk : ∀ (b : Nat) (o : Option Nat), ι[b]? = some o → (ι ++ [some w.heap.size])[b]? = some o := fun b o hb => by
  rw [z0j (z08.1 hb).1]; exact hb
 obtain ⟨hR, hE⟩ := h.grow (o := .cells vs.toArray el) (blk := .box xs) (fun ee =>
  ⟨w.heap.size, el, vs.toArray, by rw [← h.len]; simp, heap_alloc_new w _, q0l ee h.lt _ _ (fun b _ o => hk b o) (by simpa using hr)⟩)
 refine ⟨_, _, _, _, .own s.mem.length 1 0 xs.length, _, hrun, rfl, .inl ⟨w.heap.size, xs.length, xs.length * 1, el, by simp, z09 _, by simp only [maxLen]; omega, by rw [← h.len]; simp, ?_, by simp⟩, hR, hE, hK⟩
 simp only [World.shape?, heap_alloc_new]
 simp [hlen]
def gpre (T : TypeId → Option TI) (o : Op) (s : St) : Step :=
 match o with
 | .buildSlice t len parts => qho T t len (qe8 s parts.toList) s
 | .load t x => q6j T t (s.ev x) s
 | _ => fpre T o s
