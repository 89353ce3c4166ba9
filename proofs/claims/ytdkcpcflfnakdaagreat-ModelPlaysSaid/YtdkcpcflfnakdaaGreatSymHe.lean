/- A text of the walk that proves a law of this seat; joined by a program. -/
import Derived.Test.YtdkcpcflfnakdaaGreatSymHd
set_option linter.unusedSimpArgs false
set_option linter.unusedVariables false
namespace Go.Proofs.YtdkcpcflfnakdaaGreat.Sym
open Go Go.RowKit
variable {L : Nat} {Hd : Nat → Prop}
variable {w : World}
theorem qav : ∀ {l : List Value}, (∀ v ∈ l, v.oneCell' = true) → q04 l = l
 | [], _ => rfl
 | v :: l, h => by
  have ih := qav (l := l) (fun u hu => h u (by simp [hu]))
  unfold q04 at ih ⊢
  rw [z3l, ih, qb6 (h v (by simp))]
  rfl
theorem qmx {r off : Nat} {l : List Value} (h : ∀ v ∈ l, v.oneCell' = true) (hc : q22 w r off l) : q20 w r off 1 l :=
 ⟨fun v hv => by rw [qb6 (h v hv)]; rfl, by rw [qav h]; exact hc, by rw [qav h]; exact h⟩
theorem qj6 {P : Program} (t ty e ct : TypeId) (i : TypeInfo) (ht : P.underlying t = some (.slice e)) (hi : P.info? e = some i) (g sLen sCap : Nat) (cur : Array Value) (hg : w.heap[g]? = some (.cells cur ct (0, 0))) (a : Addr) (m c : Nat) (news : List Value) (hl : news.length = m * i.size) (hnews : ∀ j u, news[j]? = some u → w.cell? (a.add j) = some u) (h1 : ∀ u ∈ news, u.oneCell' = true) (hroom : sLen + m ≤ sCap) (hfit : sLen * i.size + news.length ≤ cur.size) :
 (Builtin.append_ #[t, t] ty #[.slice (some ⟨g, 0, none⟩) sLen sCap, .slice (some a) m c]).run P w =
  .ok (.slice (some ⟨g, 0, none⟩) (sLen + m) sCap) (w.setRow g (cur.toList.take (sLen * i.size) ++ news ++ cur.toList.drop (sLen * i.size + news.length)).toArray) := by
 have hf := run_firstCells_some (P := P) w i.size m a m c news hl hnews
 have hst := run_storeCells_at P g (sLen * i.size) ct news 0 cur w hg (by simpa using hfit) h1
 simp only [z1y] at hst
 simp [Builtin.append_, z2h ht, sizeOf, typeInfo, hi, Builtin.lenOf, hroom, hf, Addr.add_lit, hst]
theorem Rel.movedB {B : Nat} {ι : Loc} {s : St} {a : Act} (h : Rel Hd B ι s a w) {b : Nat} {e : TypeId} {zs : List AV} {arr : Array Value} (hb : b < ι.length) (hz : rels Hd ι w zs arr.toList) (hp : ∀ c ∈ q05 zs, c ≠ b) (hL : L ≤ b) :
 Rel Hd B (ι.set b (some w.heap.size)) (s.rehome b (.box zs)) a (w.drew.alloc (.cells arr e)) ∧ Ext L ι w (ι.set b (some w.heap.size)) (w.drew.alloc (.cells arr e)) := by
 have hold : ∀ r, r < w.heap.size → (w.drew.alloc (.cells arr e)).heap[r]? = w.heap[r]? := fun r hr => z3a w.drew _ r hr
 have hnew : (w.drew.alloc (.cells arr e)).heap[w.heap.size]? = some (.cells arr e (0, 0)) := heap_alloc_new w.drew _
 have hmem : ∀ r : Nat, some r ∈ ι.set b (some w.heap.size) → some r ∈ ι ∨ r = w.heap.size := fun r hr => by
  rcases z1z hr with hr | hr
  · exact .inl hr
  · exact .inr (by simpa using hr)
 have ee : Ext L ι w (ι.set b (some w.heap.size)) (w.drew.alloc (.cells arr e)) := by
  refine ⟨rfl, rfl, rfl, by simp, fun r hr hn => ⟨fun hh => ?_, hold r hr⟩, (fun r hr => by simp only [World.shape?, hold r hr]), (fun b' o hb' ho => by rw [z0e (by omega)]; exact ho)⟩
  rcases hmem r hh with hh | hh
  · exact hn hh
  · omega
 have hk : ∀ (b' : Nat) (o : Option Nat), b' ≠ b → ι[b']? = some o → (ι.set b (some w.heap.size))[b']? = some o := fun b' o hne ho => by
  rw [z0e (z37 hne)]; exact ho
 refine ⟨h.rehome ee (by simp) hk ?_ ?_ (fun i r _ hi => hold r (h.lt r (z06 hi))) ?_, ee⟩
 · intro r hr
   rcases hmem r hr with hr | rfl
   · exact z10 (h.lt r hr) ee.size
   · simp
 · intro i j r hi hj
   have key : ∀ k : Nat, (ι.set b (some w.heap.size))[k]? = some (some r) → (k = b ∧ r = w.heap.size) ∨ (k ≠ b ∧ ι[k]? = some (some r) ∧ r < w.heap.size) := by
    intro k hk
    by_cases c : b = k
    · subst c
      rw [z0m hb] at hk
      simp at hk
      exact .inl ⟨rfl, hk.symm⟩
    · rw [z0e c] at hk
      exact .inr ⟨fun hh => c hh.symm, hk, h.lt r (z06 hk)⟩
   rcases key i hi with ⟨h1, h2⟩ | ⟨h1, h2, h3⟩ <;> rcases key j hj with ⟨h4, h5⟩ | ⟨h4, h5, h6⟩
   · omega
   · omega
   · omega
   · exact h.inj i j r h2 h5
 · exact ⟨w.heap.size, e, arr, by rw [z0m hb], hnew, q0l ee h.lt _ _ (fun c hc o ho => hk c o (hp c hc) ho) hz⟩
def aappBx (T : TypeId → Option TI) (L : Nat) (ts : List TypeId) (x y : AV) (s : St) (K : AV → St → Prop) : Prop :=
 ∃ (t e : TypeId) (ti te : TI) (b len b2 : Nat) (cs tl : List AV) (p : AV), ts = [t, t] ∧ T t = some ti ∧ ti.desc = .slice e ∧ T e = some te ∧ te.size = 1 ∧ te.zeroOk = true ∧ te.bytes ≤ 1000 ∧ x = .own b 1 0 len ∧ y = .own b2 1 0 1 ∧ L ≤ b ∧
  (s.mem[b]? = some (.box cs) ∨ (s.mem[b]? = some (.row e 1 []) ∧ cs = [])) ∧ len ≤ cs.length ∧ s.mem[b2]? = some (.box (p :: tl)) ∧ qbf (cs.take len) ∧ p.flat = true ∧ (∀ c ∈ q05 (cs.take len ++ [p]), c ≠ b) ∧ len ≤ 1000 ∧
  ∀ k, K (.own b 1 0 (len + 1)) (s.rehome b (.box (cs.take len ++ [p] ++ List.replicate k .any)))
def qki (T : TypeId → Option TI) (L : Nat) (o : Op) (s : St) (K : AV → St → Prop) : Prop :=
 match o with
 | .call { callee := .builtin .append, args := args, argTypes := ts } => match args.toList with
  | [x, y] => aappBx T L ts.toList (s.ev x) (s.ev y) s K
  | _ => False
 | _ => False
theorem qp3 {P : Program} {T : TypeId → Option TI} (hT : TyOk P T) {B : Nat} {ι : Loc} {s : St} {a : Act} {K : AV → St → Prop} (h : Rel Hd B ι s a w) {ts : Array TypeId} {ty : TypeId} {x y : AV} {xv yv : Value} (hx : rel Hd ι w x xv) (hy : rel Hd ι w y yv) (hK : aappBx T L ts.toList x y s K) : Out P Hd L B ι a w (Builtin.append_ ts ty #[xv, yv]) isV K := by
 obtain ⟨t, e, ti, te, b, len, b2, cs, tl, p, hts, ht, hd, hte, hsz, hzo, hby, rfl, rfl, hLb, hmb, hlc, hm2, hbo, hpf, hnb, hlen, hK⟩ := hK
 obtain rfl : ts = #[t, t] := by rw [← z1s (xs := ts), hts]
 obtain ⟨_, i, zv, hi, hisz, hiby, hiz, hzc⟩ := hT e te hte
 have hu : P.underlying t = some (.slice e) := by rw [(hT t ti ht).1, hd]
 rcases hy with ⟨r2, cap2, n2, t2, rfl, hcap2, hmx2, hb2, hs2, hn2⟩ | ⟨a0, _, _, h10, _⟩
 rotate_left
 · cases h10
 obtain ⟨r2', bt2, vs2, q1, q2, q3⟩ := h.mem b2 _ hm2
 obtain rfl : r2 = r2' := by rw [hb2] at q1; simpa using q1
 obtain ⟨pv, zs, hvs2, hpv, hzs⟩ := q3
 have hpone : pv.oneCell' = true := qj5 hpv hpf
 have hc2 : q22 w r2 (0 * 1) [pv] := by
  have := q1x q2
  intro j hj
  have hj0 : j = 0 := by simpa using hj
  subst hj0
  have h0 := this 0 (by rw [hvs2]; simp)
  simpa [hvs2] using h0
 have hrow2 := qmx (by simpa using hpone) hc2
 have hA := qg3 (P := P) (w := w) (ty := ty) hu hi hiz (ad := some ⟨r2, 0 * 1, none⟩) (n := 1) (cap := cap2) (vs := [pv]) rfl (.inr ⟨r2, 0 * 1, rfl, by rw [hisz, hsz]; exact hrow2⟩)
 rw [qav (by simpa using hpone)] at hA
 have hbl : b < ι.length := by
  rw [h.len]
  rcases hmb with hm | ⟨hm, _⟩ <;> exact (z08.1 hm).1
 have hge : ∀ c, len + 1 ≤ grownCap w (len + 1) c e := fun c => grownCap_ge w (len + 1) c e
 have hle : ∀ c, grownCap w (len + 1) c e ≤ maxLen := fun c => grownCap_le_maxLen w (len + 1) c e (by simp only [maxLen]; omega)
 have hzs1 : zv.cells.size = 1 := by
  have := hzo
  simp only [TI.zeroOk, z0d, decide_eq_true_eq] at this
  rw [← hsz, ← this.1.1.1, ← hzc]; simp
 have q1z : ∀ (base : Option Addr) (sCap : Nat) (us : List Value), us.length = len → rels Hd ι w (cs.take len) us → (Builtin.firstCells i.size len (.slice base len sCap)).run P w.drew = .ok us.toArray w.drew → sCap < len + 1 →
  xv = .slice base len sCap → Out P Hd L B ι a w (Builtin.append_ #[t, t] ty #[xv, .slice (some ⟨r2, 0 * 1, none⟩) 1 cap2]) isV K := by
  rintro base sCap us hul hru hold hg rfl
  have hrun := hA.grow (by omega) base len sCap us hold hg (by omega) (by rw [hiby]; have := z5w (show len + 1 ≤ 1001 by omega) hby; omega)
  generalize hk0 : grownCap w (len + 1) sCap e - (len + 1) = k0 at hrun
  generalize hA' : (us.toArray ++ [pv].toArray ++ Builtin.zeroCells zv.cells k0) = A at hrun
  have hAl : A.toList = us ++ [pv] ++ (Builtin.zeroCells zv.cells k0).toList := by rw [← hA']; simp
  have hzl : (Builtin.zeroCells zv.cells k0).toList.length = k0 := by rw [z1g, q3s, hzs1, z4t]
  have hany : rels Hd ι w (List.replicate k0 .any) (Builtin.zeroCells zv.cells k0).toList := by
   have := q2x (Hd := Hd) (ι := ι) (w := w) (ys := (Builtin.zeroCells zv.cells k0).toList)
   rwa [hzl] at this
  have hra : rels Hd ι w (cs.take len ++ [p] ++ List.replicate k0 .any) A.toList := by
   rw [hAl]
   exact q13 (q13 hru ⟨pv, [], rfl, hpv, rfl⟩) hany
  have hnb' : ∀ c ∈ q05 (cs.take len ++ [p] ++ List.replicate k0 .any), c ≠ b := by
   have hsplit : ∀ (l m : List AV) (c : Nat), c ∈ q05 (l ++ m) → c ∈ q05 l ∨ c ∈ q05 m := by
    intro l m c
    induction l with
    | nil => exact .inr
    | cons x l ih =>
     simp only [z1u, q05, z0q]
     rintro (h | h)
     · exact .inl (.inl h)
     · exact (ih h).imp .inr _root_.id
   intro c hc
   rcases hsplit _ _ c hc with hc | hc
   · exact hnb c hc
   · have : q05 (List.replicate k0 AV.any) = [] := by
      rw [q0x]; intro x hx; rw [z1h hx]; rfl
     rw [this] at hc; cases hc
  obtain ⟨hR, hE⟩ := h.movedB (L := L) (e := e) (arr := A) hbl hra hnb' hLb
  refine ⟨_, _, _, _, .own b 1 0 (len + 1), _, hrun, rfl, .inl ⟨w.heap.size, _, grownCap w (len + 1) sCap e, e, by simp, hge sCap, by have := hle sCap; omega, by rw [z0m hbl], ?_, by simp⟩, hR, hE, hK k0⟩
  have : (w.drew.alloc (.cells A e)).heap[w.heap.size]? = _ := heap_alloc_new w.drew _
  simp only [World.shape?, this]
  have hsA : A.size = grownCap w (len + 1) sCap e := by
   have := congrArg List.length hAl
   simp only [z1g, z0c, z20, hul] at this
   rw [z1g] at hzl
   have := hge sCap
   omega
  rw [hsA]
 rcases hx with ⟨r, cap, n, t', rfl, hcap, hmx, hbr, hs, hn⟩ | ⟨a0, rfl, _, hx0, hb0⟩
 · have hblk : ∃ (bt : TypeId) (cells : Array Value) (us rest : List Value), w.heap[r]? = some (.cells cells bt (0, 0)) ∧ rels Hd ι w cs us ∧ cells.toList = us ++ rest := by
    rcases hmb with hm | ⟨hm, rfl⟩
    · obtain ⟨r', bt, vs, k1, k2, k3⟩ := h.mem b _ hm
      obtain rfl : r = r' := by rw [hbr] at k1; simpa using k1
      exact ⟨bt, vs, vs.toList, [], k2, k3, by simp⟩
    · rcases (h.mem b _ hm).2 with ⟨r', cells, vs, k1, k2, k3, k4⟩ | ⟨k1, _⟩
      · obtain rfl : r = r' := by rw [hbr] at k1; simpa using k1
        exact ⟨e, cells, [], cells.toList, k2, rfl, rfl⟩
      · rw [hbr] at k1; cases k1
   obtain ⟨bt, cells, us, rest, k2, k3, k4⟩ := hblk
   have hsc : cells.size = cap := by
    simp only [World.shape?, k2, z1d, z34] at hs
    rw [hs.2, ← hn]; simp
   have hul := q0h k3
   have hrt := q2c len k3
   have hutl : (us.take len).length = len := by rw [z1l]; omega
   have huone : ∀ v ∈ us.take len, v.oneCell' = true := qet hrt hbo
   have hct : cells.toList.take len = us.take len := by rw [k4, z0x (by omega)]
   by_cases hroom : len + 1 ≤ cap
   · have hrun := qj6 (P := P) (w := w) t ty e bt i hu hi r len cap cells k2 ⟨r2, 0 * 1, none⟩ 1 cap2 [pv] (by rw [hisz, hsz]; rfl) (by
      intro j u hj
      have := q30 hc2 j u hj
      simpa [Addr.add] using this) (by simpa using hpone) hroom (by rw [hisz, hsz, hsc]; simpa using hroom)
     rw [q5l k2, hisz, hsz, z4t] at hrun
     simp only [z20] at hrun
     generalize hnew : (cells.toList.take len ++ [pv] ++ cells.toList.drop (len + 1)).toArray = cells' at hrun
     have hcl' : cells'.toList = us.take len ++ [pv] ++ cells.toList.drop (len + 1) := by rw [← hnew, ← hct]
     have hcs' : cells'.size = cells.size := by
      have := congrArg List.length hcl'
      simp only [z1g, z0c, z20, z31, hutl] at this
      omega
     have hmemr : some r ∈ ι := z06 hbr
     have ee : Ext L ι w ι (q0m w r (.cells cells' bt (0, 0))) := by
      refine ⟨rfl, rfl, rfl, by simp [q0m], fun r' _ hne => ⟨hne, q1c ?_⟩, fun r' _ => q35 k2 hcs' r', fun _ _ _ h => h⟩
      rintro rfl; exact hne hmemr
     have hdl : (cells.toList.drop (len + 1)).length = cap - (len + 1) := by simp [hsc]
     have hany : rels Hd ι w (List.replicate (cap - (len + 1)) .any) (cells.toList.drop (len + 1)) := by
      have := q2x (Hd := Hd) (ι := ι) (w := w) (ys := cells.toList.drop (len + 1))
      rwa [hdl] at this
     have hra : rels Hd ι w (cs.take len ++ [p] ++ List.replicate (cap - (len + 1)) .any) cells'.toList := by
      rw [hcl']
      exact q13 (q13 hrt ⟨pv, [], rfl, hpv, rfl⟩) hany
     have hR := h.rehome (blk := .box (cs.take len ++ [p] ++ List.replicate (cap - (len + 1)) .any)) ee rfl (fun _ _ _ x => x) (fun r' hr' => z10 (h.lt r' hr') ee.size) h.inj (fun j r' hj hr' => q1c (by
      rintro rfl; exact hj (h.inj _ _ _ hr' hbr)))
      ⟨r, bt, cells', hbr, q1i (q26 k2), q0l ee h.lt _ _ (fun _ _ _ x => x) hra⟩
     refine ⟨.slice (some ⟨r, 0, none⟩) (len + 1) cap, _, _, ι, .own b 1 0 (len + 1), _, ?_, rfl, .inl ⟨r, cap, n, t', by simp, hroom, hmx, hbr, ?_, hn⟩, hR, ee, hK _⟩
     · rw [← hnew]; simpa using hrun
     · rw [q35 k2 hcs']; exact hs
   · refine q1z _ cap (us.take len) hutl hrt ?_ (by omega) rfl
     have hcu : q22 w r (0 * 1) (us.take len) := by
      have := q1x k2
      intro j hj
      have hj' : j < len := by omega
      have h0 := this j (by rw [k4, z0c]; omega)
      simp only [Nat.zero_mul, h0]
      congr 1
      simp only [k4, z48]
      rw [z32 (by omega)]
     have := q54 (P := P) (w := w.drew) (w0 := w) (sz := i.size) (k := len) (n := len) (cap := cap) (ad := some ⟨r, 0 * 1, none⟩) (vs := us.take len) rfl (by omega) (.inr ⟨r, 0 * 1, rfl, by rw [hisz, hsz]; exact qmx huone hcu⟩)
     rw [z07 (by omega), qav huone] at this
     exact this
 · subst hx0
   refine q1z a0 0 [] rfl (by simp [rels]) ?_ (by omega) rfl
   cases a0 <;> simp [Builtin.firstCells, loadCells, loadCellsFrom]
