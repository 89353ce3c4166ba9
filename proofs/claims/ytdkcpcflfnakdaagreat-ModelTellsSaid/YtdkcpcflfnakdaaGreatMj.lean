/- The base of the laws of this seat: texts of this session, joined by a program. -/
import Derived.Test.YtdkcpcflfnakdaaGreatMi
namespace Go.Proofs.YtdkcpcflfnakdaaGreat
open Go Go.Proofs.YtdkcpcflfnakdaaGreat.Sym
attribute [-sevalprocAttr] Int.reduceToNat Int.reduceNatCast Int.reduceNatCast' Nat.reduceSubDiff
set_option maxRecDepth 100000
set_option maxHeartbeats 1000000
set_option maxHeartbeats 2000000
set_option linter.unusedSimpArgs false
set_option linter.unusedVariables false

def Only (k : Int) (u0 : ByteArray) (M : Md) : Prop := ∀ j u, watF (M.f j).m k u = decide (j = stN 3 u0 ∧ u = u0)
theorem only_m {k : Int} {u0 : ByteArray} {M M' : Md} (h : Only k u0 M) (e : ∀ j, (M'.f j).m = (M.f j).m) : Only k u0 M' := fun j u => by rw [e j]; exact h j u
theorem tell_m (M : Md) (s : Nat) (l : List Chg) (seq : Int) (j : Nat) : ((M.tell s l seq).f j).m = (M.f j).m := by
  obtain ⟨h1, _, _⟩ := tellF_ok (M.f s) l seq
  simp only [Md.tell, Md.setF]
  split
  · rename_i e; rw [h1, e]
  · rfl
theorem drains_m (M : Md) (who : Int) (n j : Nat) : ((M.drains who n).f j).m = (M.f j).m := by
  simp only [Md.drains]
  split
  · unfold Fd.drain; split <;> rfl
  · rfl
theorem only_do {B : Nat} {M : Md} {k : Int} {u0 : ByteArray} (hw : WOk 3 B M) (h : Only k u0 M) (who : Int) (o : Opb) (hk : who ≠ k ∨ o.kind = 8) : Only k u0 (doM 3 M who o) := by
  unfold doM
  split
  · exact h
  split
  · unfold Md.write
    split
    · exact h
    · exact only_m h fun j => tell_m _ _ _ _ j
  split
  · exact only_m h fun j => drains_m M who 3 j
  rename_i h8
  have hne : k ≠ who := by
    rcases hk with hk | hk
    · exact fun e => hk e.symm
    · exact absurd (by rw [hk]; rfl) h8
  split
  · exact h
  split
  · split
    · exact h
    · intro j u
      have e : ((M.watchF (stN 3 o.u) who o.u).f j).m = if j = stN 3 o.u then watchM (M.f (stN 3 o.u)).m who o.u else (M.f j).m := by
        simp only [Md.watchF, Md.setF]
        split <;> rfl
      rw [e]
      split
      · rename_i e2
        rw [wat_watch (hw.msk _), ← e2, h j u, decide_eq_false hne]; simp
      · exact h j u
  split
  · intro j u
    have e : ((M.unwatchF (stN 3 o.u) who o.u).f j).m = if j = stN 3 o.u then q3j (M.f (stN 3 o.u)).m who o.u else (M.f j).m := by
      simp only [Md.unwatchF, Md.setF]
      split <;> rfl
    rw [e]
    split
    · rename_i e2
      rw [wat_unwatch (hw.msk _), ← e2, h j u, decide_eq_false hne]; simp
    · exact h j u
  split
  · exact h
  · exact h
def chainE (u0 : ByteArray) : Pr → Int → List Ev → Pr → Int → Prop
  | t, s, [], t', hi => t = t' ∧ s ≤ hi
  | t, s, e :: l, t', hi => e.u = u0 ∧ e.old = t ∧ e.old ≠ e.new ∧ s < e.seq ∧ chainE u0 e.new e.seq l t' hi
theorem chain_mono {u0 : ByteArray} : ∀ {l : List Ev} {t t' : Pr} {s hi hi' : Int}, chainE u0 t s l t' hi → hi ≤ hi' → chainE u0 t s l t' hi'
  | [], _, _, _, _, _, h, hh => ⟨h.1, Int.le_trans h.2 hh⟩
  | _ :: _, _, _, _, _, _, h, hh => ⟨h.1, h.2.1, h.2.2.1, h.2.2.2.1, chain_mono h.2.2.2.2 hh⟩
theorem chain_snoc {u0 : ByteArray} {e : Ev} (hu : e.u = u0) (hn : e.old ≠ e.new) : ∀ {l : List Ev} {t t' : Pr} {s hi : Int}, chainE u0 t s l t' hi → e.old = t' → hi < e.seq → chainE u0 t s (l ++ [e]) e.new e.seq
  | [], _, _, _, _, h, ho, hs => ⟨hu, by rw [ho, h.1], hn, Int.lt_of_le_of_lt h.2 hs, rfl, Int.le_refl _⟩
  | _ :: _, _, _, _, _, h, ho, hs => ⟨h.1, h.2.1, h.2.2.1, h.2.2.2.1, chain_snoc hu hn h.2.2.2.2 ho hs⟩
def QOk (u0 : ByteArray) (t : Pr) (s : Int) (q : List Ev × Bool) (now : Pr) (hi : Int) : Prop := q.2 = true ∨ chainE u0 t s q.1 now hi
theorem q_put {u0 : ByteArray} {t now : Pr} {s hi room : Int} {q : List Ev × Bool} {e : Ev} (h : QOk u0 t s q now hi) (hu : e.u = u0) (hn : e.old ≠ e.new) (ho : e.old = now) (hs : hi < e.seq) : QOk u0 t s (putR room q e) e.new e.seq := by
  unfold putR
  split
  · exact .inl rfl
  · rcases h with h | h
    · exact .inl h
    · exact .inr (chain_snoc hu hn h ho hs)
theorem q_mono {u0 : ByteArray} {t now : Pr} {s hi hi' : Int} {q : List Ev × Bool} (h : QOk u0 t s q now hi) (hh : hi ≤ hi') : QOk u0 t s q now hi' := h.imp id fun h => chain_mono h hh
theorem q_skip {k : Nat} (hk : k < 8) : ∀ {l : List Chg} {F : Fd} (seq : Int), (∀ c ∈ l, watF F.m k c.u = false) → (tellF F l seq).q k = F.q k
  | [], F, seq, _ => rfl
  | c :: l, F, seq, h => by
    have e : tellF F (c :: l) seq = tellF (tell1 F c seq 8) l seq := rfl
    have hm : (tell1 F c seq 8).m = F.m := rfl
    rw [e, q_skip hk seq (fun c' hc' => by rw [hm]; exact h c' (List.mem_cons_of_mem _ hc')), tell1_q F c seq hk, if_neg (by rw [h c List.mem_cons_self]; decide)]

theorem tell_app (F : Fd) (a b : List Chg) (seq : Int) : tellF F (a ++ b) seq = tellF (tellF F a seq) b seq := List.foldl_append
theorem q_told {k : Nat} (hk : k < 8) {u0 : ByteArray} {F : Fd} (hw : ∀ u, watF F.m k u = decide (u = u0)) {now : Int} {b b' : Bk} {xs : List Chg} (ht : Tells now b xs b')
    {t : Pr} {s hi seq : Int} (h : QOk u0 t s (F.q k) (wasOf b u0).t hi) (hs : hi < seq) : QOk u0 t s ((tellF F xs seq).q k) (wasOf b' u0).t seq := by
  by_cases hx : ∃ c ∈ xs, c.u = u0
  · obtain ⟨c, hc, hcu⟩ := hx
    obtain ⟨l1, l2, rfl⟩ := List.append_of_mem hc
    obtain ⟨h1, h2, h3⟩ := ht.each c hc
    have hap := ht.apart
    rw [List.pairwise_append] at hap
    obtain ⟨_, ha2, ha3⟩ := hap
    have hl1 : ∀ d ∈ l1, watF F.m k d.u = false := fun d hd => by
      rw [hw, decide_eq_false]
      intro e; exact ha3 d hd c List.mem_cons_self (e.trans hcu.symm)
    have hl2 : ∀ d ∈ l2, watF F.m k d.u = false := fun d hd => by
      rw [hw, decide_eq_false]
      intro e; exact (List.pairwise_cons.1 ha2).1 d hd (hcu.trans e.symm)
    have hm := (tellF_ok F l1 seq).1
    have e : tellF F (l1 ++ c :: l2) seq = tellF (tell1 (tellF F l1 seq) c seq 8) l2 seq := by rw [tell_app]; rfl
    rw [e, q_skip hk seq (fun d hd => by show watF (tellF F l1 seq).m k d.u = false; rw [hm]; exact hl2 d hd), tell1_qy hk (by rw [hm, hw, hcu, decide_eq_true rfl]), q_skip hk seq hl1]
    rw [← hcu, ← h2]
    have hq := q_put (room := (tellF F l1 seq).room) (e := ⟨c.u, c.old, c.new, seq⟩) h hcu h3 (h1.trans (by rw [hcu])) hs
    rw [hcu] at hq ⊢
    exact hq
  · have hx' : ∀ c ∈ xs, c.u ≠ u0 := fun c hc e => hx ⟨c, hc, e⟩
    rw [q_skip hk seq (fun c hc => by rw [hw, decide_eq_false (hx' c hc)]), ht.rest u0 hx']
    exact q_mono h (Int.le_of_lt hs)

theorem addW_one {x : Int} (h0 : 0 ≤ x) (h9 : x ≤ 1000) : addW x 1 = x + 1 := by
  unfold addW
  have w1 : IntKind.u64.wrap (18446744073709551615 - x) = 18446744073709551615 - x := by rw [IntKind.wrap_u64]; omega
  have w2 : IntKind.u64.wrap (x + 1) = x + 1 := by rw [IntKind.wrap_u64]; omega
  rw [w1, w2]
  split
  · omega
  · rfl
structure TelOk (k : Nat) (u0 : ByteArray) (t : Pr) (s : Int) (M : Md) : Prop where
  only : Only k u0 M
  idle : ∀ j, j ≠ stN 3 u0 → (M.f j).q k = ([], false)
  q : QOk u0 t s ((M.f (stN 3 u0)).q k) (wasOf (M.b (stN 3 u0)) u0).t M.t.seq
theorem tel_told {k : Nat} (hk : k < 8) {u0 : ByteArray} {t : Pr} {s : Int} {M : Md} (h : TelOk k u0 t s M) (h0 : 0 ≤ M.t.seq) (h9 : M.t.seq ≤ 1000) (st : Nat) {b' : Bk} {xs : List Chg} {now : Int} (ht : Tells now (M.b st) xs b') :
    TelOk k u0 t s ((M.take.setB st b').tell st xs (addW M.t.seq 1)) := by
  have ea := addW_one h0 h9
  rw [ea]
  have hseq : ((M.take.setB st b').tell st xs (M.t.seq + 1)).t.seq = M.t.seq + 1 := ea
  have hf (j : Nat) : ((M.take.setB st b').tell st xs (M.t.seq + 1)).f j = if j = st then tellF (M.f st) xs (M.t.seq + 1) else M.f j := rfl
  have hb (j : Nat) : ((M.take.setB st b').tell st xs (M.t.seq + 1)).b j = if j = st then b' else M.b j := rfl
  refine ⟨only_m h.only fun j => ?_, fun j hj => ?_, ?_⟩
  · rw [hf]
    split
    · rename_i e; rw [(tellF_ok _ _ _).1, e]
    · rfl
  · rw [hf]
    split
    · rename_i e
      subst e
      rw [q_skip hk _ (fun c hc => by rw [h.only, decide_eq_false (fun e => hj e.1)])]
      exact h.idle j hj
    · exact h.idle j hj
  · rw [hf, hb, hseq]
    by_cases e : stN 3 u0 = st
    · rw [if_pos e, if_pos e]
      subst e
      refine q_told hk (fun u => ?_) ht h.q (by omega)
      rw [h.only]; simp
    · rw [if_neg e, if_neg e]
      exact q_mono h.q (by omega)
theorem tel_same {k : Nat} {u0 : ByteArray} {t : Pr} {s : Int} {M M' : Md} (h : TelOk k u0 t s M) (ho : Only k u0 M') (hq : ∀ j, (M'.f j).q k = (M.f j).q k) (hb : ∀ j, M'.b j = M.b j) (hs : M.t.seq ≤ M'.t.seq) : TelOk k u0 t s M' :=
  ⟨ho, fun j hj => by rw [hq]; exact h.idle j hj, by rw [hq, hb]; exact q_mono h.q hs⟩
theorem seq_do {B : Nat} {M : Md} (hw : WOk 3 B M) (h0 : 0 ≤ M.t.seq) (h9 : M.t.seq ≤ 1000) (who : Int) (o : Opb) : M.t.seq ≤ (doM 3 M who o).t.seq ∧ (doM 3 M who o).t.seq ≤ M.t.seq + 1 := by
  have ea := addW_one h0 h9
  unfold doM
  split
  · omega
  split
  · have : (M.write 3 o).t.seq = M.t.seq + 1 := by
      unfold Md.write
      split <;> exact ea
    omega
  split
  · show M.t.seq ≤ M.t.seq ∧ M.t.seq ≤ M.t.seq + 1; omega
  split
  · omega
  split
  · split
    · omega
    · show M.t.seq ≤ M.t.seq ∧ M.t.seq ≤ M.t.seq + 1; omega
  split
  · show M.t.seq ≤ M.t.seq ∧ M.t.seq ≤ M.t.seq + 1; omega
  split
  · show M.t.seq ≤ M.t.seq ∧ M.t.seq ≤ M.t.seq + 1; omega
  · omega
theorem seq_bef {B : Nat} {M : Md} (hw : WOk 3 B M) (h0 : 0 ≤ M.t.seq) (h9 : M.t.seq ≤ 1000) (a : Ac) : M.t.seq ≤ (befM 3 M a).t.seq ∧ (befM 3 M a).t.seq ≤ M.t.seq + 1 := by
  have ea := addW_one h0 h9
  unfold befM
  split
  · show M.t.seq ≤ M.t.seq ∧ M.t.seq ≤ M.t.seq + 1; omega
  split
  · unfold Md.sweep
    split
    · omega
    · show M.t.seq ≤ addW M.t.seq 1 ∧ addW M.t.seq 1 ≤ M.t.seq + 1; omega
  · exact seq_do hw h0 h9 _ _
theorem drains_q {M : Md} {who : Int} {n k : Nat} (hk : (k : Int) ≠ who) (j : Nat) : ((M.drains who n).f j).q k = (M.f j).q k := by
  simp only [Md.drains]
  split
  · unfold Fd.drain
    split
    · rename_i hc
      obtain ⟨w, hw, rfl⟩ := cli_iff hc
      simp only [Fd.setQ, Int.toNat_natCast]
      rw [if_neg (by omega)]
    · rfl
  · rfl
theorem tel_bef {B : Nat} {M : Md} {k : Nat} (hk : k < 8) {u0 : ByteArray} {t : Pr} {s : Int} (hw : WOk 3 B M) (h : TelOk k u0 t s M) (h0 : 0 ≤ M.t.seq) (h9 : M.t.seq ≤ 1000) (a : Ac) (hp : a.who ≠ k ∨ a.d % 3 ≠ 0) : TelOk k u0 t s (befM 3 M a) := by
  have hs := seq_bef hw h0 h9 a
  unfold befM at hs ⊢
  split
  · exact tel_same h h.only (fun _ => rfl) (fun _ => rfl) (Int.le_refl _)
  split
  · unfold Md.sweep
    split
    · exact h
    · exact tel_told hk h h0 h9 _ (tells_sweep (hw.ok.b _).1 _)
  · rename_i h1 h2
    rw [if_neg h1, if_neg h2] at hs
    have hne : a.who ≠ k := by rcases hp with hp | hp; exact hp; omega
    have hon := only_do hw h.only a.who a.op (.inl hne)
    unfold doM at hs hon ⊢
    split
    · exact h
    split
    · unfold Md.write
      split
      · rename_i e1 e2 e3
        rw [if_neg e1, if_pos e2] at hon
        unfold Md.write at hon
        rw [if_pos e3] at hon
        exact tel_same h hon (fun _ => rfl) (fun _ => rfl) (by show M.t.seq ≤ addW M.t.seq 1; rw [addW_one h0 h9]; omega)
      · exact tel_told hk h h0 h9 _ (tells_write (hw.ok.b _).1 _ _ _)
    split
    · rename_i e1 e2 e3
      rw [if_neg e1, if_neg e2, if_pos e3] at hon
      exact tel_same h hon (fun j => drains_q (fun e => hne e.symm) j) (fun _ => rfl) (Int.le_refl _)
    split
    · exact h
    split
    · split
      · exact h
      · rename_i e1 e2 e3 e4 e5 e6
        rw [if_neg e1, if_neg e2, if_neg e3, if_neg e4, if_pos e5, if_neg e6] at hon
        refine tel_same h hon (fun j => ?_) (fun _ => rfl) (Int.le_refl _)
        simp only [Md.watchF, Md.setF]
        split
        · rename_i e; rw [e]
        · rfl
    split
    · rename_i e1 e2 e3 e4 e5 e6
      rw [if_neg e1, if_neg e2, if_neg e3, if_neg e4, if_neg e5, if_pos e6] at hon
      refine tel_same h hon (fun j => ?_) (fun _ => rfl) (Int.le_refl _)
      simp only [Md.unwatchF, Md.setF]
      split
      · rename_i e; rw [e]
      · rfl
    split
    · exact tel_same h h.only (fun _ => rfl) (fun _ => rfl) (Int.le_refl _)
    · exact h

def endT (t : Pr) (l : List Ev) : Pr := l.foldl (fun _ e => e.new) t
def endS (s : Int) (l : List Ev) : Int := l.foldl (fun _ e => e.seq) s
theorem chain_end {u0 : ByteArray} : ∀ {l : List Ev} {t t' : Pr} {s hi : Int}, chainE u0 t s l t' hi → t' = endT t l ∧ endS s l ≤ hi
  | [], _, _, _, _, h => ⟨h.1.symm, h.2⟩
  | _ :: l, _, _, _, _, h => chain_end (l := l) h.2.2.2.2
theorem chain_step {u0 : ByteArray} {l : List Ev} {t t' : Pr} {s hi : Int} (h : chainE u0 t s l t' hi) (i : Nat) (hl : i < l.length) :
    l[i].u = u0 ∧ l[i].old = endT t (l.take i) ∧ l[i].old ≠ l[i].new ∧ endS s (l.take i) < l[i].seq ∧ endT t (l.take (i + 1)) = l[i].new ∧ endS s (l.take (i + 1)) = l[i].seq := by
  induction l generalizing t s i with
  | nil => exact absurd hl (Nat.not_lt_zero i)
  | cons e l ih =>
    cases i with
    | zero => exact ⟨h.1, h.2.1, h.2.2.1, h.2.2.2.1, rfl, rfl⟩
    | succ i => exact ih h.2.2.2.2 i (by simpa using hl)
theorem best_one {R : Rws} {b : Nat} {e : Ev} {t : List Ev} (hb : R.getD b [] = e :: t) (ho : ∀ i, i ≠ b → R.getD i [] = []) : bestOf R = some b := by
  have hlen : b < R.length := by
    rcases Nat.lt_or_ge b R.length with h | h
    · exact h
    · rw [List.getD_eq_getElem?_getD, List.getElem?_eq_none h] at hb; cases hb
  cases hc : bestOf R with
  | none =>
    exfalso
    have hu := up_best R R.length
    rw [bestOf] at hc
    rw [hc] at hu
    have := hu b hlen
    rw [hb] at this; cases this
  | some c =>
    obtain ⟨_, f, u, hf, _⟩ := best_some' hc
    by_cases e : c = b
    · rw [e]
    · rw [ho c e] at hf; cases hf
theorem best_nil {R : Rws} (ho : ∀ i, R.getD i [] = []) : bestOf R = none := by
  cases hc : bestOf R with
  | none => rfl
  | some c =>
    obtain ⟨_, f, u, hf, _⟩ := best_some' hc
    rw [ho c] at hf; cases hf
theorem merge_one : ∀ (q : List Ev) {R : Rws} {b : Nat}, R.getD b [] = q → (∀ i, i ≠ b → R.getD i [] = []) → mergeF R = q
  | [], R, b, hb, ho => merge_none (best_nil fun i => by
    by_cases e : i = b
    · rw [e]; exact hb
    · exact ho i e)
  | e :: q, R, b, hb, ho => by
    rw [merge_some (best_one hb ho) hb]
    have hlen : b < R.length := by
      rcases Nat.lt_or_ge b R.length with h | h
      · exact h
      · rw [List.getD_eq_getElem?_getD, List.getElem?_eq_none h] at hb; cases hb
    have hd (i : Nat) : (dropAt R b).getD i [] = if i = b then q else R.getD i [] := by
      unfold dropAt
      rw [List.getD_eq_getElem?_getD, List.getElem?_set]
      by_cases e : b = i
      · subst e
        rw [if_pos rfl, if_pos hlen, if_pos rfl, hb]; rfl
      · rw [if_neg e, if_neg (Ne.symm e), List.getD_eq_getElem?_getD]
    rw [merge_one q (R := dropAt R b) (b := b) (by rw [hd, if_pos rfl]) (fun i hi => by rw [hd, if_neg hi]; exact ho i hi)]
theorem rows_at (M : Md) (who : Int) (n i : Nat) : (rowsW M who n).getD i [] = if i < n then ((M.f i).q who.toNat).1 else [] := by
  unfold rowsW
  rw [List.getD_eq_getElem?_getD, List.getElem?_map]
  by_cases h : i < n
  · rw [if_pos h, List.getElem?_range h]; rfl
  · rw [if_neg h, List.getElem?_eq_none (by simpa using h)]; rfl
theorem tel_poll {k : Nat} (hk : k < 8) {u0 : ByteArray} {t : Pr} {s : Int} {M : Md} (h : TelOk k u0 t s M) : ∃ q lo, doR 3 M k opP = ⟨0, none, some q, lo⟩ ∧ (lo = true ∨ (lo = false ∧ (∃ t' hi, chainE u0 t s q t' hi) ∧ TelOk k u0 (endT t q) (endS s q) (doM 3 M k opP))) := by
  have hi : inB (k : Int) 0 7 = true := by unfold inB; rw [decide_eq_true (by omega), decide_eq_true (by omega)]; rfl
  have hs := (stN_lt (n := 3) (by decide) (by decide) u0).1
  have e1 : doR 3 M k opP = ⟨0, none, some (mergeF (rowsW M k 3)), lostW M k 3⟩ := by
    unfold doR
    rw [badP, hi]
    rfl
  have e2 : doM 3 M k opP = M.drains k 3 := by
    unfold doM
    rw [badP, hi]
    rfl
  have em : mergeF (rowsW M k 3) = ((M.f (stN 3 u0)).q k).1 := by
    refine merge_one _ (b := stN 3 u0) ?_ fun i hi => ?_
    · rw [rows_at, if_pos hs, Int.toNat_natCast]
    · rw [rows_at, Int.toNat_natCast, h.idle i hi]; split <;> rfl
  have el : lostW M k 3 = ((M.f (stN 3 u0)).q k).2 := by
    unfold lostW
    cases hb : ((M.f (stN 3 u0)).q k).2 with
    | true => rw [List.any_eq_true]; exact ⟨stN 3 u0, List.mem_range.2 hs, by rw [Int.toNat_natCast]; exact hb⟩
    | false =>
      rw [List.any_eq_false]
      intro j _
      rw [Int.toNat_natCast]
      by_cases e : j = stN 3 u0
      · rw [e, hb]; decide
      · rw [h.idle j e]; decide
  refine ⟨_, _, e1, ?_⟩
  rw [em, el, e2]
  rcases h.q with hl | hc
  · exact .inl hl
  · cases hb : ((M.f (stN 3 u0)).q k).2 with
    | true => exact .inl rfl
    | false =>
      refine .inr ⟨rfl, ⟨_, _, hc⟩, only_m h.only fun j => drains_m M k 3 j, fun j hj => ?_, ?_⟩
      · simp only [Md.drains]
        split
        · unfold Fd.drain
          split
          · simp only [Fd.setQ, Int.toNat_natCast, if_true]
          · exact h.idle j hj
        · exact h.idle j hj
      · have hcl : cli (k : Int) = true := in_cli hi
        have : ((M.drains k 3).f (stN 3 u0)).q k = ([], false) := by
          simp only [Md.drains]
          rw [if_pos hs]
          unfold Fd.drain
          rw [if_pos hcl]
          simp only [Fd.setQ, Int.toNat_natCast, if_true]
        rw [this]
        obtain ⟨c1, c2⟩ := chain_end hc
        exact .inr ⟨c1.symm, c2⟩
end Go.Proofs.YtdkcpcflfnakdaaGreat
