/- A text of the walk that proves a law of this seat; joined by a program. -/
import Derived.Test.YtdkcpcflfnakdaaGreatSymHc
set_option linter.unusedSimpArgs false
set_option linter.unusedVariables false
namespace Go.Proofs.YtdkcpcflfnakdaaGreat.Sym
open Go Go.RowKit
variable {L : Nat} {Hd : Nat → Prop}
def gcell (ti : TI) (cs : List AV) : Prop × AV := if ti.isAgg then (ti.size ≤ cs.length, .agg (cs.take ti.size)) else (0 < cs.length, cs.headD .any)
theorem gcell_sound {ti : TI} {cs : List AV} {K : AV → Prop} (h : (gcell ti cs).1) (k : K (gcell ti cs).2) : acell ti cs K := by
  unfold gcell at h k
  unfold acell
  split
  · rename_i c; rw [if_pos c] at h k; exact ⟨h, k⟩
  · rename_i c
    rw [if_neg c] at h k
    cases cs with
    | nil => simp at h
    | cons x xs => exact k
def gloadB (T : TypeId → Option TI) (t : TypeId) (p : AV) (s : St) : Step :=
  match p with
  | .ep b sz i c => match s.mem[b]? with
    | some (.box cs) => match T t with
      | some ti => some ((gcell ti (cs.drop (i * sz + c))).1, (gcell ti (cs.drop (i * sz + c))).2, s)
      | none => none
    | _ => none
  | _ => none
theorem gloadB_sound {P : Program} {T : TypeId → Option TI} (hT : TyOk P T) {B : Nat} {ι : Loc} {s s' : St} {a : Act} {w : World} {K : AV → St → Prop} (h : Rel Hd B ι s a w) {t : TypeId} {p x : AV} {pv : Value} {C : Prop}
    (hp : rel Hd ι w p pv) (e : gloadB T t p s = some (C, x, s')) (hC : C) (hK : K x s') : Out P Hd L B ι a w (Instr.loadAt t pv) isV K := by
  unfold gloadB at e
  split at e <;> try (cases e; done)
  rename_i b sz i c
  split at e <;> try (cases e; done)
  rename_i cs hm
  split at e <;> try (cases e; done)
  rename_i ti ht
  cases e
  obtain ⟨r, rfl, hb⟩ := hp
  obtain ⟨r', t', vs, h1, h2, h3⟩ := h.mem b _ hm
  obtain rfl : r = r' := by rw [hb] at h1; simpa using h1
  have hc := (q1k h2).drop (i * sz + c)
  rw [Nat.zero_add] at hc
  obtain ⟨x, y, k1, k2, k3⟩ := acell_sound (P := P) hT ht hc (q1i _ h3) (gcell_sound (K := fun x => K x s) hC hK)
  exact Out.pure h k1 k2 k3
def boxCons (x : AV) : Option (List AV) → Option (List AV)
  | some xs => some (x :: xs)
  | none => none
def boxParts : List (Nat × AV) → Nat → Option (List AV)
  | [], _ => some []
  | (i, x) :: rest, k => if i = k then boxCons x (boxParts rest (k + 1)) else none
def boxOk : List AV → Prop
  | [] => True
  | x :: xs => x.known = true ∧ x.flat = true ∧ boxOk xs
def bkTop (n : Nat) : AV → Bool
  | .own _ _ _ _ => decide (2 ≤ n)
  | .ptr _ _ => true
  | _ => false
def hasBks (n : Nat) : List (Nat × AV) → Bool
  | [] => false
  | (_, x) :: xs => bkTop n x || hasBks n xs
def gparts (s : St) : List (Nat × Operand) → List (Nat × AV)
  | [] => []
  | (i, x) :: rest => (i, s.ev x) :: gparts s rest
theorem gparts_eq (s : St) : ∀ ps, gparts s ps = ps.map fun (i, x) => (i, s.ev x)
  | [] => rfl
  | (i, x) :: rest => by rw [gparts, gparts_eq s rest]; rfl
def gbuildB (T : TypeId → Option TI) (t : TypeId) (len : Nat) (parts : List (Nat × AV)) (s : St) : Step :=
  if hasBks len parts = true then (match boxParts parts 0 with
  | some xs => match T t with
    | some ti => match ti.desc with
      | .slice e => match T e with
        | some te => if te.size = 1 then some (len = xs.length ∧ len < 1000 ∧ te.zeroOk = true ∧ boxOk xs, .own s.mem.length 1 0 len, { s with mem := s.mem ++ [.box xs] }) else none
        | none => none
      | _ => none
    | none => none
  | none => none) else none
theorem boxParts_fst : ∀ (ps : List (Nat × AV)) (k : Nat) (xs : List AV), boxParts ps k = some xs → ps.map Prod.fst = List.range' k xs.length ∧ ps.map Prod.snd = xs
  | [], k, xs, h => by cases h; exact ⟨rfl, rfl⟩
  | (i, x) :: rest, k, xs, h => by
    simp only [boxParts] at h
    split at h <;> try (cases h; done)
    rename_i hik
    cases hr : boxParts rest (k + 1) with
    | none => rw [hr] at h; cases h
    | some ys =>
      rw [hr] at h
      simp only [boxCons, Option.some.injEq] at h
      subst h
      obtain ⟨h1, h2⟩ := boxParts_fst rest (k + 1) ys hr
      refine ⟨?_, ?_⟩
      · simp only [List.map_cons, h1, hik, List.length_cons, List.range'_succ]
      · simp only [List.map_cons, h2]
theorem oneCell_cells {v : Value} (h : v.oneCell' = true) : v.cells = #[v] := by
  cases v <;> first | rfl | (simp [Value.oneCell'] at h)
theorem fill_box : ∀ (vs : List Value) (k : Nat) (pre : List Value) (post : List Value), pre.length = k → post.length = vs.length → (∀ v ∈ vs, v.oneCell' = true) →
    Instr.fill (fun i => some (i * 1, 1)) (pre ++ post).toArray ((List.range' k vs.length).zip vs) = some (pre ++ vs).toArray
  | [], k, pre, post, h1, h2, h3 => by
    obtain rfl : post = [] := List.eq_nil_of_length_eq_zero h2
    rfl
  | v :: vs, k, pre, post, h1, h2, h3 => by
    cases post with
    | nil => simp at h2
    | cons p post =>
      have hv := oneCell_cells (h3 v (by simp))
      simp only [List.length_cons, List.range'_succ, List.zip_cons_cons, Instr.fill]
      have hcond : ¬ ((decide (v.cells.size ≠ 1) || decide (k * 1 + v.cells.size > (pre ++ p :: post).toArray.size)) = true) := by
        rw [hv]; simp; omega
      have hset : (v.cells.zipIdx.foldl (fun cs (c, j) => cs.setIfInBounds (k * 1 + j) c) (pre ++ p :: post).toArray) = ((pre ++ [v]) ++ post).toArray := by
        rw [hv, ← Array.foldl_toList]
        have hz : (#[v] : Array Value).zipIdx.toList = [(v, 0)] := by simp
        rw [hz]
        simp only [Nat.mul_one, List.foldl_cons, List.foldl_nil, Nat.add_zero, List.setIfInBounds_toArray]
        congr 1
        rw [← h1, List.set_append_right _ _ (Nat.le_refl _)]
        simp
      have hcond' : ¬ (v.cells.size ≠ 1 ∨ k * 1 + v.cells.size > (pre ++ p :: post).toArray.size) := by rw [hv]; simp; omega
      simp only [Bool.or_eq_true, decide_eq_true_eq, if_neg hcond']
      rw [hset, fill_box vs (k + 1) (pre ++ [v]) post (by simp [h1]) (by simpa using h2) (fun u hu => h3 u (by simp [hu]))]
      simp
theorem boxOk_flat {ι : Loc} {w : World} : ∀ {xs : List AV} {vs : List Value}, rels Hd ι w xs vs → boxOk xs → ∀ v ∈ vs, v.oneCell' = true
  | [], _, h, _ => by cases h; simp
  | x :: xs, _, h, hk => by
    obtain ⟨y, zs, rfl, h1, h2⟩ := h
    intro v hv
    rcases List.mem_cons.1 hv with rfl | hv
    · exact rel_flat h1 hk.2.1
    · exact boxOk_flat h2 hk.2.2 v hv
theorem gbuildB_sound {P : Program} {T : TypeId → Option TI} (hT : TyOk P T) {B : Nat} {ι : Loc} {s s' : St} {a : Act} {w : World} {K : AV → St → Prop} (h : Rel Hd B ι s a w) {t : TypeId} {len : Nat} {parts : Array (Nat × Operand)} {z : AV} {C : Prop}
    (e : gbuildB T t len (gparts s parts.toList) s = some (C, z, s')) (hC : C) (hK : K z s') : Out P Hd L B ι a w (Instr.buildSlice t len (parts.map fun (i, x) => (i, a.eval x))) isV K := by
  unfold gbuildB at e
  split at e <;> try (cases e; done)
  split at e <;> try (cases e; done)
  rename_i xs hxs
  split at e <;> try (cases e; done)
  rename_i ti ht
  split at e <;> try (cases e; done)
  rename_i el hd
  split at e <;> try (cases e; done)
  rename_i te hte
  split at e <;> try (cases e; done)
  rename_i hsz
  cases e
  obtain ⟨rfl, hlt, hzo, hok⟩ := hC
  obtain ⟨hf, hs⟩ := boxParts_fst _ _ _ hxs
  rw [gparts_eq] at hf hs
  have hev : ∀ l : List (Nat × Operand), rels Hd ι w ((l.map fun (i, x) => (i, s.ev x)).map Prod.snd) ((l.map fun (i, x) => (i, a.eval x)).map Prod.snd) := by
    intro l
    induction l with
    | nil => rfl
    | cons p l ih => exact ⟨_, _, rfl, h.ev _, ih⟩
  have hr := hev parts.toList
  rw [hs] at hr
  generalize hvs : (parts.toList.map fun (i, x) => (i, a.eval x)).map Prod.snd = vs at hr
  have hlen := q0b hr
  have hone := boxOk_flat hr hok
  have hzip : (parts.map fun (i, x) => (i, a.eval x)).toList = (List.range' 0 vs.length).zip vs := by
    have hf' : (parts.toList.map fun (i, x) => (i, a.eval x)).map Prod.fst = List.range' 0 vs.length := by
      rw [← hlen, ← hf]; simp [Function.comp_def]
    have : ∀ l : List (Nat × Value), l = (l.map Prod.fst).zip (l.map Prod.snd) := by
      intro l; induction l with
      | nil => rfl
      | cons p l ih => simp only [List.map_cons, List.zip_cons_cons, ← ih]
    rw [Array.toList_map, this (parts.toList.map _)]
    congr 1
  obtain ⟨zv, hz, hzc⟩ := q2y hT hte w
  have hvs1 : te.zval.cells.size = te.size := by
    have := hzo
    simp only [TI.zeroOk, Bool.and_eq_true, decide_eq_true_eq] at this
    rw [← this.1.1.1, ← q3d hzo]; simp
  have hall : ∀ v ∈ List.replicate xs.length te.zval, v.cells.size = 1 := by
    intro v hv; rw [List.eq_of_mem_replicate hv, hvs1, hsz]
  have hfl := q0i _ hall
  rw [List.length_replicate, Nat.mul_one] at hfl
  have hrun : (Instr.buildSlice t xs.length (parts.map fun (i, x) => (i, a.eval x))).run P w = .ok (.slice (some ⟨w.heap.size, 0, none⟩) xs.length xs.length) (w.alloc (.cells vs.toArray el)) := by
    have hfill := fill_box vs 0 [] (flatV (List.replicate xs.length te.zval)) rfl (by rw [hfl, hlen]) hone
    simp only [List.nil_append] at hfill
    simp only [Instr.buildSlice, Sem.run_bind, run_underlying hT ht, Result.andThen_ok, hd, q0x hT hte]
    rw [if_neg (by rw [hsz]; omega)]
    by_cases h0 : xs.length * te.size = 0
    · rw [if_pos h0]
      simp only [Sem.run_bind, Sem.run_pure, Result.andThen_ok]
      have hn : xs.length = 0 := by rw [hsz] at h0; omega
      have e0 : (Array.range (xs.length * te.size)).map ((#[] : Array Value)[· % (#[] : Array Value).size]!) = (flatV (List.replicate xs.length te.zval)).toArray := by
        rw [hn]; simp [flatV]
      rw [e0, hzip, hsz, hfill]
      simp only [newRow, Sem.run_bind, run_newObj, Result.andThen_ok, Sem.run_pure]
      rfl
    · rw [if_neg h0]
      simp only [Sem.run_bind, hz, Sem.run_pure, Result.andThen_ok]
      rw [zeros_flat hzo hzc, hzip, hsz, hfill]
      simp only [newRow, Sem.run_bind, run_newObj, Result.andThen_ok, Sem.run_pure]
      rfl
  have hk : ∀ (b : Nat) (o : Option Nat), ι[b]? = some o → (ι ++ [some w.heap.size])[b]? = some o := fun b o hb => by
    rw [List.getElem?_append_left (List.getElem?_eq_some_iff.1 hb).1]; exact hb
  obtain ⟨hR, hE⟩ := h.grow (o := .cells vs.toArray el) (blk := .box xs) (fun ee =>
    ⟨w.heap.size, el, vs.toArray, by rw [← h.len]; simp, heap_alloc_new w _, q0l ee h.lt _ _ (fun b _ o => hk b o) (by simpa using hr)⟩)
  refine ⟨_, _, _, _, .own s.mem.length 1 0 xs.length, _, hrun, rfl, .inl ⟨w.heap.size, xs.length, xs.length * 1, el, by simp, Nat.le_refl _, by simp only [maxLen]; omega, by rw [← h.len]; simp, ?_, by simp⟩, hR, hE, hK⟩
  simp only [World.shape?, heap_alloc_new]
  simp [hlen]
def gpre (T : TypeId → Option TI) (o : Op) (s : St) : Step :=
  match o with
  | .buildSlice t len parts => gbuildB T t len (gparts s parts.toList) s
  | .load t x => gloadB T t (s.ev x) s
  | _ => fpre T o s
end Go.Proofs.YtdkcpcflfnakdaaGreat.Sym
