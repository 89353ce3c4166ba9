/- BookTells. -/
import Derived.Test.YtljgfapbbhbbpaaBSame
namespace Go.Proofs.Ytljgfapbbhbbpaa
open Go Go.Proofs.Ytljgfapbbhbbpaa.Sym
set_option maxRecDepth 100000
set_option linter.unusedSimpArgs false
set_option linter.unusedVariables false

theorem lives_late {now earlier : Int} (h : earlier ≤ now) (l : List Ses) : lives now (lives earlier l) = lives now l := by
  rw [lives, lives, lives, List.filter_filter]
  refine List.filter_congr fun x _ => ?_
  simp only [Ses.lives]
  rw [Bool.eq_iff_iff]
  simp
  omega
theorem filterMap_all {α : Type} {f : α → Option α} {l : List α} (h : ∀ x ∈ l, f x = some x) : l.filterMap f = l := by
  induction l with
  | nil => rfl
  | cons x xs ih => rw [List.filterMap_cons, h x List.mem_cons_self, ih (fun y hy => h y (List.mem_cons_of_mem _ hy))]
def SweptP (now : Int) (p : ByteArray × En) : Prop := p.2.l.length ≠ 0 ∧ lives now p.2.l = p.2.l ∧ p.2.t = ofP p.2.l now
theorem swept_all {m : Bk} (hr : rises_se m) (now : Int) : ∀ p ∈ (sweepF m now).1, SweptP now p := by
  intro p hp
  rw [sweepF_eq hr] at hp
  obtain ⟨q, hq, rfl, hn⟩ := swept_mem hp
  exact ⟨hn, lives_late (Int.le_refl _) _, rfl⟩
theorem swept_again {c : Bk} {now : Int} (hr : rises_se c) (h : ∀ p ∈ c, SweptP now p) : sweepF c now = (c, []) := by
  have h1 : (sweepF c now).1 = c := by
    rw [sweepF_eq hr]
    refine filterMap_all fun p hp => ?_
    obtain ⟨a1, a2, a3⟩ := h p hp
    unfold sweptE
    rw [a2, if_neg a1, ← a3]
  have h2 : ∀ i, (sweepTo c now i).2 = [] := by
    intro i
    induction i with
    | zero => rfl
    | succ i ih =>
      by_cases hi : i < c.length
      · obtain ⟨a1, a2, a3⟩ := h _ (List.getElem_mem hi)
        have hrs := (sweep_ok hr now i).1
        have e := sweepTo_eq hr now i
        rw [List.drop_eq_getElem_cons hi] at e
        have hw : wasOf (sweepTo c now i).1 c[i].1 = c[i].2 := by
          rw [wasOf, get_mem ordS eqS_iff hrs (k := c[i].1) (v := c[i].2) (by rw [e]; exact List.mem_append_right _ List.mem_cons_self)]
        rw [sweep_next hi, sweepStep]
        simp only
        rw [ih, settleC, hw, a2, ← a3, if_pos rfl]
        rfl
      · have e : sweepTo c now (i + 1) = sweepTo c now i := by
          rw [sweepTo, sweepTo, List.take_of_length_le (by omega), List.take_of_length_le (by omega)]
        rw [e, ih]
  have h3 := h2 c.length
  rw [sweepTo, List.take_length] at h3
  exact Prod.ext h1 h3
theorem swept_was {m : Bk} (hr : rises_se m) (now : Int) (u : ByteArray) : (wasOf (sweepF m now).1 u).l = lives now (wasOf m u).l := by
  have hr2 := (sweep_ok hr now m.length).1
  rw [show sweepTo m now m.length = sweepF m now by rw [sweepTo, List.take_length, sweepF]] at hr2
  by_cases hc : u ∈ (sweepF m now).1.map Prod.fst
  · obtain ⟨p, hp, rfl⟩ := List.mem_map.1 hc
    have hw : wasOf (sweepF m now).1 p.1 = p.2 := by
      rw [wasOf, get_mem ordS eqS_iff hr2 (k := p.1) (v := p.2) hp]
    rw [hw]
    rw [sweepF_eq hr] at hp
    obtain ⟨q, hq, rfl, hn⟩ := swept_mem hp
    have hw2 : wasOf m q.1 = q.2 := by rw [wasOf, get_mem ordS eqS_iff hr (k := q.1) (v := q.2) hq]
    simp only [hw2]
  · have hw : wasOf (sweepF m now).1 u = nilEn := by rw [wasOf, get_none ordS eqS_iff hr2 hc]
    rw [hw]
    by_cases hm : u ∈ m.map Prod.fst
    · obtain ⟨q, hq, rfl⟩ := List.mem_map.1 hm
      have hw2 : wasOf m q.1 = q.2 := by rw [wasOf, get_mem ordS eqS_iff hr (k := q.1) (v := q.2) hq]
      rw [hw2]
      by_cases hl : (lives now q.2.l).length = 0
      · rw [List.eq_nil_of_length_eq_zero hl]; rfl
      · exfalso
        refine hc (List.mem_map.2 ⟨(q.1, ⟨lives now q.2.l, ofP (lives now q.2.l) now⟩), ?_, rfl⟩)
        rw [sweepF_eq hr]
        exact List.mem_filterMap.2 ⟨q, hq, by unfold sweptE; rw [if_neg hl]⟩
    · have hw2 : wasOf m u = nilEn := by rw [wasOf, get_none ordS eqS_iff hr hm]
      rw [hw2]; rfl
theorem ofP_late {now then_ : Int} (h : now ≤ then_) (l : List Ses) : ofP (lives now l) then_ = ofP l then_ := by
  rw [ofP, ofP, lives_late h]
theorem addW_ge {a b : Int} (ha : 0 ≤ a ∧ a ≤ 18446744073709551615) (hb : 0 ≤ b ∧ b ≤ 18446744073709551615) : a ≤ addW a b := by
  unfold addW
  rw [wrap_u64 (n := 18446744073709551615 - a) (by omega) (by omega)]
  split
  · omega
  · rw [wrap_u64 (by omega) (by omega)]; omega
theorem sum_swept (m : Bk) (now : Int) : sumL (m.filterMap (sweptE now)) ≤ sumL m := by
  induction m with
  | nil => exact Nat.le_refl _
  | cons p m ih =>
    have hl : (lives now p.2.l).length ≤ p.2.l.length := List.length_filter_le _ _
    have e : sumL (p :: m) = p.2.l.length + sumL m := by simp [sumL]
    rw [e, List.filterMap_cons]
    unfold sweptE
    by_cases h : (lives now p.2.l).length = 0
    · rw [if_pos h]
      simp only
      exact Nat.le_trans ih (Nat.le_add_left _ _)
    · rw [if_neg h]
      simp only
      have e2 : ∀ (x : ByteArray × En) (k : Bk), sumL (x :: k) = x.2.l.length + sumL k := fun x k => by simp [sumL]
      rw [e2]
      have := ih
      unfold sweptE at this
      simp only
      omega
theorem swept_n {now : Int} {p : ByteArray × En} (h : SweptP now p) : p.2.t.n = (p.2.l.length : Int) := by
  obtain ⟨_, a2, a3⟩ := h
  rw [a3, ofP]
  simp only
  rw [bestF_count, a2]

def scanA (K : List ByteArray) (u : ByteArray) : Nat → Int
  | 0 => -1
  | n + 1 => if K.getD n ⟨#[]⟩ = u then (n : Int) else scanA K u n
theorem scanA_bd (K : List ByteArray) (u : ByteArray) : ∀ n, (scanA K u n = -1) ∨ (∃ j : Nat, j < n ∧ scanA K u n = j ∧ K.getD j ⟨#[]⟩ = u)
  | 0 => .inl rfl
  | n + 1 => by
    rw [scanA]
    split
    · rename_i h; exact .inr ⟨n, Nat.lt_succ_self n, rfl, h⟩
    · rcases scanA_bd K u n with h | ⟨j, h1, h2, h3⟩
      · exact .inl h
      · exact .inr ⟨j, by omega, h2, h3⟩
theorem scanA_app (K : List ByteArray) (x u : ByteArray) : ∀ n, n ≤ K.length → scanA (K ++ [x]) u n = scanA K u n
  | 0, _ => rfl
  | n + 1, h => by
    rw [scanA, scanA, scanA_app K x u n (by omega)]
    have : (K ++ [x]).getD n ⟨#[]⟩ = K.getD n ⟨#[]⟩ := by
      rw [List.getD_eq_getElem?_getD, List.getD_eq_getElem?_getD, List.getElem?_append_left (by omega)]
    rw [this]
def zPr : Pr := ⟨0, 0, 0⟩
def look (K : List ByteArray) (V : List Pr) (u : ByteArray) : Pr := if scanA K u K.length < 0 then zPr else V.getD (Int.toNat (scanA K u K.length)) zPr
theorem look_app {K : List ByteArray} {V : List Pr} (hl : V.length = K.length) {u : ByteArray} (h : scanA K u K.length < 0) (u' : ByteArray) : look (K ++ [u]) (V ++ [zPr]) u' = look K V u' := by
  have e : scanA (K ++ [u]) u' (K ++ [u]).length = if u = u' then (K.length : Int) else scanA K u' K.length := by
    rw [List.length_append, List.length_singleton, scanA, scanA_app K u u' _ (Nat.le_refl _)]
    have : (K ++ [u]).getD K.length ⟨#[]⟩ = u := by rw [List.getD_eq_getElem?_getD, List.getElem?_append_right (Nat.le_refl _)]; simp
    rw [this]
  unfold look
  rw [e]
  by_cases hu : u = u'
  · subst hu
    rw [if_pos rfl, if_neg (by omega), if_pos h, Int.toNat_natCast, List.getD_eq_getElem?_getD, ← hl, List.getElem?_append_right (Nat.le_refl _)]
    simp
  · rw [if_neg hu]
    rcases scanA_bd K u' K.length with h2 | ⟨j, h1, h2, _⟩
    · rw [h2, if_pos (by decide), if_pos (by decide)]
    · rw [h2, if_neg (by omega), if_neg (by omega), Int.toNat_natCast, List.getD_eq_getElem?_getD, List.getD_eq_getElem?_getD, List.getElem?_append_left (by omega)]
theorem look_set {K : List ByteArray} {V : List Pr} (hl : V.length = K.length) {u : ByteArray} {j : Nat} (h : scanA K u K.length = j) (hj : j < K.length) (hk : K.getD j ⟨#[]⟩ = u) (v : Pr) (u' : ByteArray) :
    look K (V.set j v) u' = if u' = u then v else look K V u' := by
  unfold look
  by_cases hu : u' = u
  · subst hu
    rw [h, if_neg (by omega), if_pos rfl, Int.toNat_natCast, List.getD_eq_getElem?_getD, List.getElem?_set_self (by omega)]; rfl
  · rw [if_neg hu]
    rcases scanA_bd K u' K.length with h2 | ⟨i, h1, h2, h3⟩
    · rw [h2, if_pos (by decide), if_pos (by decide)]
    · rw [h2, if_neg (by omega), if_neg (by omega), Int.toNat_natCast, List.getD_eq_getElem?_getD, List.getD_eq_getElem?_getD, List.getElem?_set_ne]
      rintro rfl
      exact hu (h3.symm.trans hk)

/-- What is told on the way from a book to another one. -/
structure Tells (now : Int) (B : Bk) (xs : List Chg) (B' : Bk) : Prop where
  apart : xs.Pairwise fun a b => a.u ≠ b.u
  each : ∀ c ∈ xs, c.old = (wasOf B c.u).t ∧ c.new = (wasOf B' c.u).t ∧ c.old ≠ c.new ∧ c.new = ofP (wasOf B' c.u).l now
  rest : ∀ u, (∀ c ∈ xs, c.u ≠ u) → (wasOf B' u).t = (wasOf B u).t
theorem ofP_nil (now : Int) : ofP [] now = zPr := rfl
theorem settle_t {m : Bk} (hr : rises_se m) {u : ByteArray} {l : List Ses} {now : Int} : (wasOf (settleB m u l now) u).t = ofP l now := by
  have hs := (settleB_rises hr u l now).1
  unfold wasOf
  by_cases hl : l.length = 0
  · have hnil : l = [] := List.eq_nil_of_length_eq_zero hl
    rw [get_none ordS eqS_iff hs, hnil]
    · rfl
    · intro hc
      obtain ⟨p, hp, hpk⟩ := List.mem_map.1 hc
      rw [settleB, if_pos hl, without_eq ordS eqS_iff hr] at hp
      have := (List.mem_filter.1 hp).2
      rw [hpk, (eqS_iff _ _).2 rfl] at this
      cases this
  · have hm : (u, (⟨l, ofP l now⟩ : En)) ∈ settleB m u l now := by
      rw [settleB, if_neg hl]
      exact (mem_with ordS eqS_iff hr).2 (.inl rfl)
    rw [get_mem ordS eqS_iff hs hm]
theorem tells_write {m : Bk} (hr : rises_se m) (o : Opb) (now most : Int) : Tells now m (writeC m o now most) (writeB m o now most) := by
  unfold writeC writeB
  generalize (writeL m o now most).1 = L
  have ht := settle_t hr (u := o.u) (l := L) (now := now)
  have hl := was_settle hr (u := o.u) (l := L) (now := now)
  unfold settleC
  by_cases h : ofP L now = (wasOf m o.u).t
  · rw [if_pos h]
    refine ⟨List.Pairwise.nil, (fun c hc => by cases hc), fun u _ => ?_⟩
    by_cases hu : u = o.u
    · rw [hu, ht, h]
    · rw [settle_other hr hu]
  · rw [if_neg h]
    refine ⟨List.pairwise_singleton .., fun c hc => ?_, fun u hu => ?_⟩
    · obtain rfl : c = _ := by simpa using hc
      exact ⟨rfl, ht.symm, (fun e => h e.symm), by simp only [hl]⟩
    · have hu2 : ¬ u = o.u := fun e => hu _ List.mem_cons_self e.symm
      rw [settle_other hr hu2]
def sweptC (now : Int) (p : ByteArray × En) : Option Chg := if ofP (lives now p.2.l) now = p.2.t then none else some ⟨p.1, p.2.t, ofP (lives now p.2.l) now⟩
theorem sweepC_eq {m : Bk} (hr : rises_se m) (now : Int) : ∀ i, (sweepTo m now i).2 = (m.take i).filterMap (sweptC now) := by
  intro i
  induction i with
  | zero => rfl
  | succ i ih =>
    by_cases hi : i < m.length
    · have hrs := (sweep_ok hr now i).1
      have e := sweepTo_eq hr now i
      rw [List.drop_eq_getElem_cons hi] at e
      have hw : wasOf (sweepTo m now i).1 m[i].1 = m[i].2 := by
        rw [wasOf, get_mem ordS eqS_iff hrs (k := m[i].1) (v := m[i].2) (by rw [e]; exact List.mem_append_right _ List.mem_cons_self)]
      rw [sweep_next hi, sweepStep, take_one hi, List.filterMap_append, ← ih]
      simp only
      congr 1
      rw [settleC, hw]
      generalize m[i] = p
      unfold sweptC
      by_cases h : ofP (lives now p.2.l) now = p.2.t
      · simp [h]
      · simp [h]
    · have e : sweepTo m now (i + 1) = sweepTo m now i := by
        rw [sweepTo, sweepTo, List.take_of_length_le (by omega), List.take_of_length_le (by omega)]
      rw [e, ih, List.take_of_length_le (by omega), List.take_of_length_le (l := m) (by omega)]
theorem swept_t {m : Bk} (hr : rises_se m) (now : Int) {q : ByteArray × En} (hq : q ∈ m) : (wasOf (sweepF m now).1 q.1).t = ofP (lives now q.2.l) now := by
  have hr2 := (sweep_ok hr now m.length).1
  rw [show sweepTo m now m.length = sweepF m now by rw [sweepTo, List.take_length, sweepF]] at hr2
  by_cases hl : (lives now q.2.l).length = 0
  · have hn : q.1 ∉ (sweepF m now).1.map Prod.fst := by
      intro hc
      obtain ⟨p, hp, hpk⟩ := List.mem_map.1 hc
      rw [sweepF_eq hr] at hp
      obtain ⟨q', hq', rfl, hne⟩ := swept_mem hp
      have h1 : wasOf m q.1 = q.2 := by rw [wasOf, get_mem ordS eqS_iff hr (k := q.1) (v := q.2) hq]
      have h2 : wasOf m q'.1 = q'.2 := by rw [wasOf, get_mem ordS eqS_iff hr (k := q'.1) (v := q'.2) hq']
      simp only at hpk
      rw [hpk, h1] at h2
      rw [← h2] at hne
      exact hne hl
    rw [wasOf, get_none ordS eqS_iff hr2 hn, List.eq_nil_of_length_eq_zero hl]; rfl
  · have hm : (q.1, (⟨lives now q.2.l, ofP (lives now q.2.l) now⟩ : En)) ∈ (sweepF m now).1 := by
      rw [sweepF_eq hr]
      exact List.mem_filterMap.2 ⟨q, hq, by unfold sweptE; rw [if_neg hl]⟩
    rw [wasOf, get_mem ordS eqS_iff hr2 hm]
theorem tells_sweep {m : Bk} (hr : rises_se m) (now : Int) : Tells now m (sweepF m now).2 (sweepF m now).1 := by
  have hr2 := (sweep_ok hr now m.length).1
  rw [show sweepTo m now m.length = sweepF m now by rw [sweepTo, List.take_length, sweepF]] at hr2
  have e := sweepC_eq hr now m.length
  rw [show sweepTo m now m.length = sweepF m now by rw [sweepTo, List.take_length, sweepF], List.take_length] at e
  have hmem : ∀ c, c ∈ (sweepF m now).2 → ∃ q ∈ m, ofP (lives now q.2.l) now ≠ q.2.t ∧ c = ⟨q.1, q.2.t, ofP (lives now q.2.l) now⟩ := by
    intro c hc
    rw [e] at hc
    obtain ⟨q, hq, h⟩ := List.mem_filterMap.1 hc
    unfold sweptC at h
    split at h
    · cases h
    · rename_i hne; cases h; exact ⟨q, hq, hne, rfl⟩
  refine ⟨?_, ?_, ?_⟩
  · rw [e, List.pairwise_filterMap]
    refine (risesM_iff.1 hr).imp ?_
    intro a b hab x hx y hy
    have hx1 : x.u = a.1 := by unfold sweptC at hx; split at hx <;> cases hx; rfl
    have hy1 : y.u = b.1 := by unfold sweptC at hy; split at hy <;> cases hy; rfl
    rw [hx1, hy1]
    intro h
    rw [h, ordS.irrefl] at hab; cases hab
  · intro c hc
    obtain ⟨q, hq, hne, rfl⟩ := hmem c hc
    have h1 : wasOf m q.1 = q.2 := by rw [wasOf, get_mem ordS eqS_iff hr (k := q.1) (v := q.2) hq]
    refine ⟨by simp only [h1], (swept_t hr now hq).symm, (fun h => hne h.symm), ?_⟩
    simp only
    rw [swept_was hr, h1, ofP_late (Int.le_refl _)]
  · intro u hu
    by_cases hm : u ∈ m.map Prod.fst
    · obtain ⟨q, hq, rfl⟩ := List.mem_map.1 hm
      have h1 : wasOf m q.1 = q.2 := by rw [wasOf, get_mem ordS eqS_iff hr (k := q.1) (v := q.2) hq]
      rw [swept_t hr now hq, h1]
      apply Classical.byContradiction
      intro hne
      refine hu ⟨q.1, q.2.t, ofP (lives now q.2.l) now⟩ ?_ rfl
      rw [e]
      exact List.mem_filterMap.2 ⟨q, hq, by unfold sweptC; rw [if_neg hne]⟩
    · have hn : u ∉ (sweepF m now).1.map Prod.fst := by
        intro hc
        obtain ⟨p, hp, rfl⟩ := List.mem_map.1 hc
        rw [sweepF_eq hr] at hp
        obtain ⟨q', hq', rfl, _⟩ := swept_mem hp
        exact hm (List.mem_map.2 ⟨q', hq', rfl⟩)
      rw [wasOf, get_none ordS eqS_iff hr2 hn, wasOf, get_none ordS eqS_iff hr hm]
def prv (V : List Pr) : List AV := V.map Pr.av
theorem prv_len (V : List Pr) : (prv V).length = V.length := by simp [prv]
def strs (K : List ByteArray) : List AV := K.map fun x => str x
theorem strs_len (K : List ByteArray) : (strs K).length = K.length := by simp [strs]
theorem chg_at {xs : List Chg} {k : Nat} (h : k < xs.length) : (chgs xs).getD (Int.toNat (k : Int)) .any = .agg [str xs[k].u, i64 xs[k].old.st, i64 xs[k].old.pr, i64 xs[k].old.n, i64 xs[k].new.st, i64 xs[k].new.pr, i64 xs[k].new.n] := at_map h
theorem str_at {K : List ByteArray} {k : Nat} (h : k < K.length) : (strs K).getD (Int.toNat (k : Int)) .any = str (K.getD k ⟨#[]⟩) := by
  rw [strs, at_map h, List.getD_eq_getElem?_getD, List.getElem?_eq_getElem h]; rfl
theorem prv_at {V : List Pr} {k : Nat} (h : k < V.length) : (prv V).getD (Int.toNat (k : Int)) .any = .agg [i64 (V.getD k zPr).st, i64 (V.getD k zPr).pr, i64 (V.getD k zPr).n] := by
  have e : V.getD k zPr = V[k] := by rw [List.getD_eq_getElem?_getD, List.getElem?_eq_getElem h]; rfl
  rw [e]; exact at_map h

theorem prv_set (V : List Pr) (i : Nat) (c : Pr) : (prv V).set i (.agg [i64 c.st, i64 c.pr, i64 c.n]) = prv (V.set i c) := by
  rw [prv, prv, List.map_set]; rfl
abbrev tMem (B : Bk) (K : List ByteArray) (V : List Pr) : List AB := [ebox B, .row 9 1 (strs K), .row 28 3 (prv V)]
def toldIf (xs : List Chg) (k : Nat) (u : ByteArray) : Bool := (xs.take k).any fun c => decide (c.u = u)
/-- What is told behind so many changes. -/
def toldOk (B B' : Bk) (xs : List Chg) (k : Nat) (K : List ByteArray) (V : List Pr) : Prop :=
  V.length = K.length ∧ K.length ≤ 100000 ∧ ∀ u, look K V u = if toldIf xs k u = true then (wasOf B' u).t else (wasOf B u).t

theorem toldOk.next {now : Int} {B B' : Bk} {xs : List Chg} (ht : Tells now B xs B') {k : Nat} (hk : k < xs.length) {K : List ByteArray} {V : List Pr} (h : toldOk B B' xs k K V) :
    (scanA K xs[k].u K.length = -1 → (V ++ [zPr]).getD K.length zPr = xs[k].old ∧ (K ++ [xs[k].u]).getD K.length ⟨#[]⟩ = xs[k].u ∧ (V ++ [zPr]).length = (K ++ [xs[k].u]).length ∧ (K.length + 1 ≤ 100000 → toldOk B B' xs (k + 1) (K ++ [xs[k].u]) ((V ++ [zPr]).set K.length xs[k].new))) ∧
    (∀ j : Nat, j < K.length → scanA K xs[k].u K.length = j → K.getD j ⟨#[]⟩ = xs[k].u → V.getD j zPr = xs[k].old ∧ toldOk B B' xs (k + 1) K (V.set j xs[k].new)) := by
  obtain ⟨hV, hb, hl⟩ := h
  obtain ⟨ho, hn, -, -⟩ := ht.each _ (List.getElem_mem hk)
  have hno : ¬ toldIf xs k xs[k].u = true := by
    intro h
    obtain ⟨c, hc, hcu⟩ := List.any_eq_true.1 h
    have hcu : c.u = xs[k].u := by simpa using hcu
    obtain ⟨m, hm, rfl⟩ := List.mem_iff_getElem.1 hc
    rw [List.length_take] at hm
    rw [List.getElem_take] at hcu
    exact List.pairwise_iff_getElem.1 ht.apart m k (by omega) hk (by omega) hcu
  have hold : look K V xs[k].u = xs[k].old := by rw [hl, if_neg hno, ho]
  have key : ∀ (f : ByteArray → Pr), (∀ u, f u = if u = xs[k].u then xs[k].new else look K V u) → ∀ u, f u = if toldIf xs (k + 1) u = true then (wasOf B' u).t else (wasOf B u).t := by
    intro f hf u
    have e : toldIf xs (k + 1) u = (toldIf xs k u || decide (xs[k].u = u)) := by
      rw [toldIf, take_one hk, List.any_append, toldIf]; simp
    rw [hf, e]
    by_cases hu : u = xs[k].u
    · have d : decide (xs[k].u = u) = true := decide_eq_true hu.symm
      rw [if_pos hu, d, Bool.or_true, if_pos rfl, hu, hn]
    · have d : decide (xs[k].u = u) = false := decide_eq_false (fun h => hu h.symm)
      rw [if_neg hu, d, Bool.or_false, hl]
  constructor
  · intro hs
    have hlt : scanA K xs[k].u K.length < 0 := by rw [hs]; decide
    have hz : xs[k].old = zPr := by rw [← hold, look, if_pos hlt]
    have g2 : (K ++ [xs[k].u]).getD K.length ⟨#[]⟩ = xs[k].u := by rw [List.getD_eq_getElem?_getD, List.getElem?_append_right (Nat.le_refl _)]; simp
    have g1 : (V ++ [zPr]).getD K.length zPr = xs[k].old := by rw [hz, List.getD_eq_getElem?_getD, ← hV, List.getElem?_append_right (Nat.le_refl _)]; simp
    have gl : (V ++ [zPr]).length = (K ++ [xs[k].u]).length := by simp [hV]
    have gs : scanA (K ++ [xs[k].u]) xs[k].u (K ++ [xs[k].u]).length = (K.length : Int) := by
      rw [List.length_append, List.length_singleton, scanA, if_pos g2]
    refine ⟨g1, g2, gl, fun hb2 => ⟨by rw [List.length_set, gl], by simp; omega, key _ fun u => ?_⟩⟩
    rw [look_set gl gs (by simp) g2, look_app hV hlt]
  · intro j hj hs hkj
    refine ⟨?_, by rw [List.length_set, hV], hb, key _ fun u => look_set hV hs hj hkj _ u⟩
    have := hold
    rw [look, hs, if_neg (by omega), Int.toNat_natCast] at this
    exact this
set_option maxHeartbeats 4000000 in
theorem law_tells (l : List ActB) (most : Int) (hl : l.length ≤ maxLen) : PCall P 9 [.sl 9 (bacts l), i64 most] (fun x => x = .v (.bool true)) := by
  refine pcall_go tyOk Try.func9 rfl rfl ?_
  intro K0 hK
  simp only [Try.ntmps9, List.length_cons, List.length_nil, Nat.reduceAdd, Nat.reduceSub, List.replicate, List.cons_append, List.nil_append]
  try simp (maxSteps := 1000000) only [go_region, go_seq, go_ops_nil, go_op, opK_none, opK_some, contK_some, callOf, callK_eq, callJ_nil, callD_fn, fstep, fpre, fstep0, evs, St.ev, St.put, ownersAll, List.set, List.append_nil, true_and, Bool.true_and]
  (refine callG_use law08_awake rfl ?_; rintro _ rfl)
  try simp (maxSteps := 1000000) only [go_op, go_guard, opK_none, opK_some, contK_some, guardK_eq, guardV_ff, callOf, callK_eq, callJ_nil, callD_fn, fstep, fpre, fstep0, funary, evs, St.ev, St.put, AV.owners, ownersAll, List.getD_cons_zero, List.getD_cons_succ, List.set, List.append_nil, List.getElem?_cons_zero, List.getElem?_cons_succ, Option.bind_some, List.getElem?_toArray, true_and, Bool.true_and, Bool.not_true]
  (refine callG_use (law08_long l hl) rfl ?_; rintro _ rfl)
  try simp (maxSteps := 1000000) only [go_cond, go_ops_nil, go_op, opK_none, contK_some, callOf, fstep, fpre, fstep0, fpick, St.ev, St.put, List.getD_cons_zero, List.getD_cons_succ, List.set, true_and, Bool.true_and, cond_false]
  (first | refine guardV_split ?_ ?_ | refine condK_split ?_ ?_ | refine drawV_split ?_ ?_ | refine condY_split ?_ ?_ | refine guardY_split ?_ ?_) <;> intro h0
  · try simp (maxSteps := 1000000) only [go_region, go_seq, go_op, opK_some, condK_t, callOf, callK_eq, callJ_nil, callD_fn, evs, St.ev, ownersAll, List.append_nil]
    (refine callG_use law08_awake rfl ?_; rintro _ rfl)
    try simp (maxSteps := 1000000) only [go_ret, go_ops_nil, go_op, opK_none, contK_some, callOf, fstep, fpre, fstep0, St.ev, St.put, List.getD_cons_zero, List.getD_cons_succ, List.set, true_and, Bool.true_and]
    apply hK
    simp only [Try.results9, retK, ares, List.take_nil, Bool.and_true, Bool.true_and, AV.ofResults, St.trunc, truncVs, truncV, List.getD_cons_zero, List.getD_cons_succ, List.map_nil, true_and, and_true, List.cons.injEq, exists_eq_left']
  have hlen := longB_few h0
  try simp (maxSteps := 1000000) only [go_skip, go_region, go_seq, go_block, go_loop, go_ops_nil, go_op, opK_none, contK_some, condK_f, callOf, fstep, fpre, fstep0, T, St.ev, St.put, List.set, List.map_cons, List.map_nil, List.length_nil, List.nil_append, true_and, Bool.true_and]
  refine loopK_turn (Turns.adopt (i := 7) 9 1 rfl) ?_
  refine loopK_turn (Turns.adopt (i := 8) 28 3 rfl) ?_
  refine loopK_ruleT tyOk (α := Nat × List ByteArray × List Pr) 3 [0, 1, 5, 6, 7, 8, 9] (fun s => s.1 ≤ l.length ∧ s.2.1.length ≤ 200 * s.1 ∧ s.2.2.length = s.2.1.length ∧ ∀ u, look s.2.1 s.2.2 u = (wasOf (madeF (l.take s.1) most).1 u).t)
    (fun s => ⟨[.sl 9 (bacts l), i64 most, .any, .any, .any, .ptr 0 0, u64 (madeF (l.take s.1) most).2, .own 1 1 0 s.2.1.length, .own 2 3 0 s.2.2.length, i64 s.1, .any, .any, .any, .any, .any, .any, .any, .any, .any, .any, .any, .any, .any, .any, .any, .any, .any, .any, .any, .any, .any, .any, .any, .any, .any, .any, .any, .any, .any, .any, .any, .any, .any, .any, .any, .any, .any, .any, .any, .any, .any, .any, .any, .any, .any, .any, .any, .any, .any, .any, .any, .any, .any, .any, .any, .any, .any, .any, .any, .any, .any, .any, .any, .any, .any, .any, .any, .any, .any, .any, .any, .any, .any, .any, .any, .any, .any, .any, .any, .any, .any, .any, .any, .any, .any, .any, .any, .any, .any, .any, .any, .any, .any, .any, .any, .any, .any, .any, .any, .any, .any, .any, .any, .any, .any, .any, .any, .any, .any, .any, .any, .any, .any, .any, .any, .any, .any, .any, .any, .any, .any, .any, .any, .any, .any, .any, .any, .any, .any, .any, .any, .any, .any, .any, .any, .any, .any, .any, .any, .any, .any, .any, .any, .any, .any, .any, .any, .any, .any, .any, .any, .any, .any, .any, .any, .any], tMem (madeF (l.take s.1) most).1 s.2.1 s.2.2⟩)
    (fun s => l.length - s.1) (0, [], []) (by first | exact Nat.zero_le _ | decide) ⟨Nat.zero_le _, Nat.zero_le _, rfl, fun u => rfl⟩ (Turns.weak (weaks_refl _) ⟨_, _, rfl, ⟨_, rfl, _, _, rfl, weak_nil 1, _, _, rfl, weak_nil 4, rfl⟩, _, _, rfl, weakB_refl _, _, _, rfl, weakB_refl _, rfl⟩) ?_
  rintro ⟨i, K, V⟩ ⟨hi, hKl, hVl, hlook⟩
  simp only at hi hKl hVl hlook
  try simp (maxSteps := 1000000) only [go_region, go_seq, go_cond, go_ops_nil, go_op, opK_none, contK_some, callOf, fstep, fpre, fstep0, fbinA, fbin, fbin0, flen, T, St.ev, St.put, List.getD_cons_zero, List.getD_cons_succ, List.set, true_and, Bool.true_and, bacts_len]
  (first | refine guardV_split ?_ ?_ | refine condK_split ?_ ?_ | refine drawV_split ?_ ?_ | refine condY_split ?_ ?_ | refine guardY_split ?_ ?_) <;> intro h
  · obtain ⟨hlt, eg, ew, c1⟩ := act_idx (by omega) h
    have hok := made_ok (l.take i) most
    have hn := made_next (most := most) hlt
    obtain ⟨⟨B, now0⟩, hB⟩ : ∃ s, madeF (l.take i) most = s := ⟨_, rfl⟩
    rw [hB] at hok hn hlook
    simp only [hB]
    simp only at hlook hok
    have hok := hok.mono (show (l.take i).length ≤ 200 by rw [List.length_take]; omega)
    obtain ⟨a, ha⟩ : ∃ a, l[i] = a := ⟨_, rfl⟩
    rw [ha] at eg hn
    have hlat := law_later now0 a.by_
    generalize hnw : addW now0 a.by_ = now at *
    try simp (maxSteps := 1000000) only [go_skip, go_region, go_seq, go_block, go_op, opK_none, opK_some, contK_some, condK_t, callOf, callK_eq, callJ_nil, callD_fn, fstep, fpre, fstep0, fload, fcell, ffieldAddr, findexAddr, evs, T, TI.isAgg, St.ev, St.put, AV.cells, AV.known, AV.owners, ownersAll, List.getD_cons_zero, List.getD_cons_succ, List.set, List.length_cons, List.length_nil, List.drop_succ_cons, List.drop_zero, List.headD_cons, List.append_nil, List.getElem?_cons_zero, List.getElem?_cons_succ, List.getElem?_toArray, true_and, and_true, Bool.and_true, Bool.true_and, Bool.false_eq_true, ↓reduceIte, reduceCtorEq, ne_eq, not_false_eq_true, Nat.reduceLT, Nat.zero_add, eg, c1, bacts_len]
    (refine callG_use hlat rfl ?_; rintro _ rfl)
    try simp (maxSteps := 1000000) only [go_region, go_seq, go_cond, go_ops_nil, go_op, opK_none, contK_some, callOf, fstep, fpre, fstep0, fload, fcell, ffieldAddr, findexAddr, T, TI.isAgg, St.ev, St.put, AV.cells, AV.known, List.getD_cons_zero, List.getD_cons_succ, List.set, List.length_cons, List.length_nil, List.drop_zero, List.headD_cons, List.getElem?_cons_zero, List.getElem?_toArray, true_and, and_true, Bool.and_true, Bool.true_and, Bool.false_eq_true, ↓reduceIte, reduceCtorEq, ne_eq, not_false_eq_true, Nat.reduceAdd, Nat.reduceLT, Nat.zero_add, eg, c1, bacts_len]
    cases hsw : a.sw
    · have e1 : madeF (l.take (i + 1)) most = (writeB B a.op now most, now) := by rw [hn, madeStep, if_neg (by rw [hsw]; decide)]; simp only [hnw]
      have hwr := write_call 200 B a.op now most hok (by omega)
      have htl := tells_write hok.1 a.op now most
      have hBok := book_write hok a.op now most
      have hxl : (writeC B a.op now most).length ≤ 1 := settleC_len _ _ _ _
      have hxu : ∀ c ∈ writeC B a.op now most, c.u = a.op.u := fun c hc => by
        unfold writeC settleC at hc
        split at hc
        · cases hc
        · obtain rfl : c = _ := by simpa using hc
          rfl
      obtain ⟨B', hB'⟩ : ∃ B', writeB B a.op now most = B' := ⟨_, rfl⟩
      obtain ⟨xs, hxs⟩ : ∃ xs, writeC B a.op now most = xs := ⟨_, rfl⟩
      rw [hB', hxs] at hwr htl
      rw [hB'] at hBok e1
      rw [hxs] at hxl hxu
      have hT0 : toldOk B B' xs 0 K V := ⟨hVl, by omega, fun u => by rw [hlook]; simp [toldIf]⟩
      unfold Opb.av at hwr
      try simp (maxSteps := 1000000) only [go_seq, go_draws, condK_f]
      refine draw_rule tyOk (by rfl) (by simp only [List.length_cons, List.length_nil, Nat.reduceAdd, Nat.zero_le]) (by kernel_rfl) rfl ?_
      try simp (maxSteps := 1000000) only [callOf, fstep0, newF, fload, fcell, ffieldAddr, findexAddr, evs, T, TI.isAgg, St.ev, St.put, AV.cells, AV.known, List.getD_cons_zero, List.getD_cons_succ, List.set, List.length_cons, List.length_nil, List.drop_succ_cons, List.drop_zero, List.take_succ_cons, List.take_zero, List.append_nil, List.getElem?_cons_zero, List.getElem?_cons_succ, List.replicate, List.getElem?_toArray, true_and, and_true, Bool.and_true, Bool.true_and, Bool.or_false, Bool.false_eq_true, ↓reduceIte, reduceCtorEq, ne_eq, not_false_eq_true, Nat.reduceAdd, Nat.reduceLeDiff, Nat.le_refl, Nat.add_zero, Nat.zero_add, Nat.reduceBEq, newCount, drawR_op, drawP_none, drawP_some, drawQ_some, drawH_fn, dstep, isFree, St.app, bump, isNew, eg, c1, bacts_len]
      refine drawCall_use hwr rfl ?_
      try simp (maxSteps := 1000000) only [go_seq, go_draws, callOf, fstep0, newF, T, St.ev, St.put, splice, AV.cells, AV.known, AV.flat, List.getD_cons_zero, List.getD_cons_succ, List.set, List.length_cons, List.length_nil, List.all_cons, List.all_nil, List.drop_succ_cons, List.drop_zero, List.take_zero, List.nil_append, List.append_nil, List.getElem?_cons_zero, true_and, and_true, Bool.and_true, Bool.true_and, Bool.and_self, Bool.or_false, Bool.false_eq_true, ↓reduceIte, Nat.reduceAdd, Nat.reduceLT, Nat.le_refl, Nat.zero_add, Nat.reduceBEq, drawR_nil, drawR_op, drawP_none, drawQ_some, dstep, isFree, dstore, St.app, bump, isNew, map_se]
      refine ⟨by kernel_rfl, ?_⟩
      skip
      have d1 : decide (1 < ((xs.length : Nat) : Int)) = false := by simp; omega
      by_cases hx1 : xs.length = 1
      · have gx : (chgs xs).getD (Int.toNat 0) .any = .agg [str (xs[0]'(by omega)).u, i64 (xs[0]'(by omega)).old.st, i64 (xs[0]'(by omega)).old.pr, i64 (xs[0]'(by omega)).old.n, i64 (xs[0]'(by omega)).new.st, i64 (xs[0]'(by omega)).new.pr, i64 (xs[0]'(by omega)).new.n] := chg_at (k := 0) (by omega)
        have l0 : Int.toNat 0 < xs.length := by simp; omega
        have hu0 : (xs[0]'(by omega)).u = a.op.u := hxu _ (List.getElem_mem _)
        have d2 : (((xs.length : Nat) : Int) == 1) = true := by rw [hx1]; rfl
        refine draw_rule tyOk (by rfl) (by simp only [List.length_cons, List.length_nil, Nat.reduceAdd, Nat.zero_le]) (by kernel_rfl) rfl ?_
        try simp (maxSteps := 1000000) only [go_skip, go_region, go_seq, go_cond, go_block, go_loop, go_ops_nil, go_op, opK_none, contK_some, condK_f, callOf, fstep, fpre, fstep0, fbinA, fbin, fbin0, fload, fcell, ffieldAddr, findexAddr, flen, fpick, T, TI.isAgg, St.ev, St.put, AV.cells, AV.known, List.getD_cons_zero, List.getD_cons_succ, List.set, List.length_cons, List.length_nil, List.drop_succ_cons, List.drop_zero, List.headD_cons, List.append_nil, List.getElem?_cons_zero, List.getElem?_cons_succ, List.replicate, Option.bind_some, List.getElem?_toArray, true_and, and_true, Bool.and_true, Bool.true_and, Bool.not_true, Bool.false_eq_true, ↓reduceIte, reduceCtorEq, ne_eq, not_false_eq_true, Nat.reduceAdd, Nat.reduceLT, Nat.add_zero, Nat.zero_add, cond_true, cond_false, Int.reduceLE, beq_self_eq_true, newCount, drawR_nil, drawR_op, drawR_guard, drawW_some, drawV_tt, drawV_ff, drawP_none, drawQ_some, dstep, isFree, St.app, bump, isNew, chgs_len, d1, d2, gx, l0, hu0, eg, c1, bacts_len]
        refine ⟨by kernel_rfl, ?_⟩
        skip
        refine loopK_rule tyOk (α := Nat × List ByteArray × List Pr) 3 [0, 1, 5, 6, 7, 8, 9, 10, 11] (fun s => s.1 ≤ xs.length ∧ s.2.1.length ≤ K.length + s.1 ∧ toldOk B B' xs s.1 s.2.1 s.2.2)
          (fun s => ⟨[.sl 9 (bacts l), i64 most, .any, .any, .any, .ptr 0 0, u64 now, .own 1 1 0 s.2.1.length, .own 2 3 0 s.2.2.length, i64 i, .sl 7 (chgs xs), i64 s.1, .any, .any, .any, .any, .any, .any, .any, .any, .any, .any, .any, .any, .any, .any, .any, .any, .any, .any, .any, .any, .any, .any, .any, .any, .any, .any, .any, .any, .any, .any, .any, .any, .any, .any, .any, .any, .any, .any, .any, .any, .any, .any, .any, .any, .any, .any, .any, .any, .any, .any, .any, .any, .any, .any, .any, .any, .any, .any, .any, .any, .any, .any, .any, .any, .any, .any, .any, .any, .any, .any, .any, .any, .any, .any, .any, .any, .any, .any, .any, .any, .any, .any, .any, .any, .any, .any, .any, .any, .any, .any, .any, .any, .any, .any, .any, .any, .any, .any, .any, .any, .any, .any, .any, .any, .any, .any, .any, .any, .any, .any, .any, .any, .any, .any, .any, .any, .any, .any, .any, .any, .any, .any, .any, .any, .any, .any, .any, .any, .any, .any, .any, .any, .any, .any, .any, .any, .any, .any, .any, .any, .any, .any, .any, .any, .any, .any, .any, .any, .any, .any, .any, .any, .any, .any], tMem B' s.2.1 s.2.2⟩)
          (fun s => xs.length - s.1) (0, K, V) (by first | exact Nat.zero_le _ | decide) ⟨Nat.zero_le _, Nat.le_refl _, hT0⟩ rfl ?_
        rintro ⟨k, K1, V1⟩ ⟨hk, hkl, hT⟩
        simp only at hk hkl hT
        have hBl := hBok.2.1
        try simp (maxSteps := 1000000) only [go_region, go_seq, go_cond, go_ops_nil, go_op, opK_none, contK_some, callOf, fstep, fpre, fstep0, fbinA, fbin, fbin0, flen, T, St.ev, St.put, List.getD_cons_zero, List.getD_cons_succ, List.set, true_and, Bool.true_and, chgs_len]
        (first | refine guardV_split ?_ ?_ | refine condK_split ?_ ?_ | refine drawV_split ?_ ?_ | refine condY_split ?_ ?_ | refine guardY_split ?_ ?_) <;> intro h3
        · have hlk : k < xs.length := by simpa using h3
          have gk := chg_at hlk
          have ck : (0 : Int) ≤ (k : Int) ∧ Int.toNat (k : Int) < xs.length := by omega
          have ewk : IntKind.i64.wrap ((k : Int) + 1) = ((k + 1 : Nat) : Int) := by rw [wrap_i64 (by omega) (by omega)]; rfl
          have hnext := toldOk.next htl hlk hT
          obtain ⟨ho, hnw1, hne, hnp⟩ := htl.each _ (List.getElem_mem hlk)
          have hpc := presence_call 201 B' xs[k].u now hBok (by omega)
          rw [← hnp] at hpc
          generalize xs[k] = c at *
          unfold map_se at hpc
          try simp (maxSteps := 1000000) only [go_skip, go_region, go_seq, go_block, go_loop, go_ops_nil, go_op, opK_none, contK_some, condK_t, callOf, fstep, fpre, fstep0, St.ev, St.put, List.set, true_and, Bool.true_and]
          refine loopK_rule tyOk (α := Nat) 3 [0, 1, 5, 6, 7, 8, 9, 10, 11, 12, 13] (fun n => n ≤ K1.length)
            (fun n => ⟨[.sl 9 (bacts l), i64 most, .any, .any, .any, .ptr 0 0, u64 now, .own 1 1 0 K1.length, .own 2 3 0 V1.length, i64 i, .sl 7 (chgs xs), i64 k, i64 (scanA K1 c.u n), i64 n, .any, .any, .any, .any, .any, .any, .any, .any, .any, .any, .any, .any, .any, .any, .any, .any, .any, .any, .any, .any, .any, .any, .any, .any, .any, .any, .any, .any, .any, .any, .any, .any, .any, .any, .any, .any, .any, .any, .any, .any, .any, .any, .any, .any, .any, .any, .any, .any, .any, .any, .any, .any, .any, .any, .any, .any, .any, .any, .any, .any, .any, .any, .any, .any, .any, .any, .any, .any, .any, .any, .any, .any, .any, .any, .any, .any, .any, .any, .any, .any, .any, .any, .any, .any, .any, .any, .any, .any, .any, .any, .any, .any, .any, .any, .any, .any, .any, .any, .any, .any, .any, .any, .any, .any, .any, .any, .any, .any, .any, .any, .any, .any, .any, .any, .any, .any, .any, .any, .any, .any, .any, .any, .any, .any, .any, .any, .any, .any, .any, .any, .any, .any, .any, .any, .any, .any, .any, .any, .any, .any, .any, .any, .any, .any, .any, .any, .any, .any, .any, .any, .any, .any], tMem B' K1 V1⟩)
            (fun n => K1.length - n) 0 (by first | exact Nat.zero_le _ | decide) (Nat.zero_le _) rfl ?_
          intro n hn2
          try simp (maxSteps := 1000000) only [go_region, go_seq, go_cond, go_ops_nil, go_op, opK_none, contK_some, callOf, fstep, fpre, fstep0, fbinA, fbin, fbin0, flen, T, St.ev, St.put, List.getD_cons_zero, List.getD_cons_succ, List.set, true_and, Bool.true_and]
          (first | refine guardV_split ?_ ?_ | refine condK_split ?_ ?_ | refine drawV_split ?_ ?_ | refine condY_split ?_ ?_ | refine guardY_split ?_ ?_) <;> intro h4
          · have hln : n < K1.length := by simpa using h4
            have gn := str_at hln
            have cn : (0 : Int) ≤ (n : Int) ∧ Int.toNat (n : Int) < K1.length := by omega
            have ewn : IntKind.i64.wrap ((n : Int) + 1) = ((n + 1 : Nat) : Int) := by rw [wrap_i64 (by have := hT.2.1; omega) (by have := hT.2.1; omega)]; rfl
            try simp (maxSteps := 1000000) only [go_skip, go_seq, go_block, go_draws, condK_t]
            refine draw_rule tyOk (by rfl) (by simp only [List.length_cons, List.length_nil, Nat.reduceAdd, Nat.zero_le]) (by kernel_rfl) rfl ?_
            try simp (maxSteps := 1000000) only [go_cond, callOf, fstep0, fbinA, fbin, fbin0, fload, fcell, ffieldAddr, findexAddr, T, TI.isAgg, St.ev, St.put, AV.cells, AV.known, Value.cells, List.getD_cons_zero, List.getD_cons_succ, List.set, List.map_cons, List.map_nil, List.length_cons, List.length_nil, List.drop_zero, List.headD_cons, List.append_nil, List.getElem?_cons_zero, List.getElem?_cons_succ, List.replicate, List.getElem?_toArray, true_and, and_true, Bool.and_true, Bool.true_and, Bool.false_eq_true, ↓reduceIte, reduceCtorEq, ne_eq, not_false_eq_true, Nat.reduceAdd, Nat.reduceLT, Nat.add_zero, Nat.zero_add, newCount, drawR_nil, drawR_op, drawP_none, drawQ_some, dstep, isFree, St.app, bump, isNew, gn, cn, strs_len, gk, ck, chgs_len]
            refine ⟨by kernel_rfl, ?_⟩
            try simp (maxSteps := 1000000) only [str_beq]
            (first | refine guardV_split ?_ ?_ | refine condK_split ?_ ?_ | refine drawV_split ?_ ?_ | refine condY_split ?_ ?_ | refine guardY_split ?_ ?_) <;> intro h5
            · have e5 : scanA K1 c.u (n + 1) = (n : Int) := by rw [scanA, if_pos (by simpa using h5)]
              try simp (maxSteps := 1000000) only [go_nil, go_region, go_blk, go_ops_nil, go_op, opK_none, contK_some, condK_t, callOf, fstep, fpre, fstep0, fbinA, fbin, fbin0, St.ev, St.put, List.getD_cons_zero, List.getD_cons_succ, List.set, true_and, Bool.true_and, ewn]
              simp only [loopX_normal, St.trunc, St.keep, truncVs, truncV, AB.trunc, keepV, List.elem_cons, List.elem_nil, List.take_succ_cons, List.take_zero, List.map_cons, List.map_nil, Nat.reduceAdd, Nat.reduceBEq, Nat.reduceLeDiff, Nat.zero_add, Bool.false_eq_true, ↓reduceIte]
              exact ⟨n + 1, hln, by omega, by rw [e5]⟩
            · have e5 : scanA K1 c.u (n + 1) = scanA K1 c.u n := by rw [scanA, if_neg (by simpa using h5)]
              try simp (maxSteps := 1000000) only [go_nil, go_skip, go_region, go_blk, go_ops_nil, go_op, opK_none, contK_some, condK_f, callOf, fstep, fpre, fstep0, fbinA, fbin, fbin0, St.ev, St.put, List.getD_cons_zero, List.getD_cons_succ, List.set, true_and, Bool.true_and, ewn]
              simp only [loopX_normal, St.trunc, St.keep, truncVs, truncV, AB.trunc, keepV, List.elem_cons, List.elem_nil, List.take_succ_cons, List.take_zero, List.map_cons, List.map_nil, Nat.reduceAdd, Nat.reduceBEq, Nat.reduceLeDiff, Nat.zero_add, Bool.false_eq_true, ↓reduceIte]
              exact ⟨n + 1, hln, by omega, by rw [e5]⟩
          · obtain rfl := at_end hn2 h4
            rcases scanA_bd K1 c.u K1.length with hs | ⟨j, hj1, hj2, hj3⟩
            · obtain ⟨g1, g2, g3, g4⟩ := hnext.1 hs
              have ewl : IntKind.i64.wrap (((K1.length + 1 : Nat) : Int) - 1) = ((K1.length : Nat) : Int) := by
                have hh := hT.2.1
                have e0 : ((K1.length + 1 : Nat) : Int) - 1 = ((K1.length : Nat) : Int) := by omega
                rw [e0, wrap_i64 (by omega) (by omega)]
              have hVK := hT.1
              have hb := hT.2.1
              have gs : strs K1 ++ [str c.u] = strs (K1 ++ [c.u]) := by simp [strs]
              have gp : prv V1 ++ [.agg [i64 0, i64 0, i64 0]] = prv (V1 ++ [zPr]) := by simp [prv, Pr.av, zPr]
              have pj := prv_at (V := V1 ++ [zPr]) (k := K1.length) (by simp; omega)
              have cj : (0 : Int) ≤ ((K1.length : Nat) : Int) ∧ Int.toNat ((K1.length : Nat) : Int) < (V1 ++ [zPr]).length := by simp; omega
              rw [hs]
              rw [g1] at pj
              have cj' : Int.toNat ((K1.length : Nat) : Int) < V1.length + 1 := by omega
              try simp (maxSteps := 1000000) only [go_region, go_seq, go_cond, go_exit, go_draws, exitK_code, exitK_blk, exitK_nil, go_ops_nil, go_op, opK_none, contK_some, condK_t, condK_f, undef, callOf, fstep, fpre, fstep0, fbinA, fbin, fbin0, fload, fcell, ffieldAddr, findexAddr, ffill, fieldsOk, fbuild, evParts, evOwners, fbuildSlice, flen, felems, fappend, T, TI.isAgg, TI.zeroOk, TI.zav, setParts, partsOk, St.ev, St.put, St.shutAll, St.rehome, killV, killVs, AB.kill, AV.cells, AV.known, AV.flat, AV.pure, pureAll, AV.owners, ownersAll, Value.cells, Value.oneCell', List.getD_cons_zero, List.getD_cons_succ, List.set, List.map_cons, List.map_nil, List.length_cons, List.length_nil, List.all_cons, List.all_nil, List.drop_zero, List.take_succ_cons, List.take_zero, List.headD_cons, List.cons_append, List.nil_append, List.append_nil, List.getElem?_cons_zero, List.getElem?_cons_succ, List.replicate, Option.isSome_some, List.getElem?_toArray, true_and, and_true, Bool.and_true, Bool.true_and, Bool.and_self, Bool.or_true, Bool.or_false, Bool.false_eq_true, ↓reduceIte, decide_true, decide_false, reduceCtorEq, ne_eq, not_false_eq_true, Nat.reduceAdd, Nat.reduceMul, Nat.reduceLeDiff, Nat.reduceEqDiff, Nat.reduceLT, Nat.zero_le, Nat.le_refl, Nat.zero_add, Int.reduceLT, loopX_exit, gk, ck, chgs_len, strs_len]
              refine ⟨⟨by simp only [maxLen]; omega, by omega⟩, ⟨prv_len _, by simp only [maxLen]; omega, by omega⟩, ?_⟩
              rw [gs, gp, ewl]
              skip
              refine draw_rule tyOk (by rfl) (by simp only [List.length_cons, List.length_nil, Nat.reduceAdd, Nat.zero_le]) (by kernel_rfl) rfl ?_
              try simp (maxSteps := 1000000) only [callOf, fstep0, fbinA, newF, fbin, fbinS, eqVs, eqV, kOks, kOk, fload, fcell, ffieldAddr, findexAddr, evs, fpick, T, TI.isAgg, St.ev, St.put, AV.cells, AV.known, List.getD_cons_zero, List.getD_cons_succ, List.set, List.length_cons, List.length_nil, List.drop_succ_cons, List.drop_zero, List.take_succ_cons, List.take_zero, List.headD_cons, List.append_nil, List.getElem?_cons_zero, List.getElem?_cons_succ, List.replicate, Option.bind_some, List.getElem?_toArray, true_and, and_true, Bool.and_true, Bool.true_and, Bool.and_self, Bool.or_false, Bool.not_true, Bool.false_eq_true, ↓reduceIte, decide_true, reduceCtorEq, ne_eq, not_false_eq_true, Nat.reduceAdd, Nat.reduceLeDiff, Nat.reduceLT, Nat.le_refl, Nat.add_zero, Nat.zero_add, Nat.reduceBEq, cond_false, beq_self_eq_true, newCount, drawR_op, drawR_guard, drawW_some, drawV_ff, drawP_none, drawP_some, drawQ_some, drawH_fn, dstep, isFree, St.app, bump, isNew, List.length_append, eqc28, gk, ck, chgs_len, pr_beq, decide_eq_false hne, pj, cj, cj', prv_len]
              refine drawCall_use hpc rfl ?_
              try simp (maxSteps := 1000000) only [go_nil, go_skip, go_region, go_cond, go_blk, go_ops_nil, go_op, opK_none, contK_some, condK_f, callOf, fstep, fpre, fstep0, fbinA, newF, fbin, fbin0, fbinS, eqVs, eqV, kOks, kOk, fload, fcell, fstore, ffieldAddr, findexAddr, fpick, T, TI.isAgg, St.ev, St.put, splice, esplice, AV.cells, AV.known, AV.pure, Value.cells, List.getD_cons_zero, List.getD_cons_succ, List.set, List.take_zero, List.nil_append, List.getElem?_cons_zero, List.getElem?_cons_succ, Option.bind_some, List.getElem?_toArray, true_and, Bool.true_and, Bool.and_self, Bool.or_false, Bool.not_true, Bool.false_eq_true, ↓reduceIte, decide_true, reduceCtorEq, ne_eq, not_false_eq_true, Nat.reduceAdd, Nat.reduceEqDiff, Nat.le_refl, Nat.zero_add, Nat.reduceBEq, cond_false, beq_self_eq_true, drawR_nil, drawR_op, drawR_guard, drawW_some, drawV_ff, drawP_none, drawQ_some, dstep, isFree, St.app, bump, isNew, eqc28]
              refine ⟨by kernel_rfl, ?_⟩
              try simp (maxSteps := 1000000) only [AV.flat, AV.pure, pureAll, Value.oneCell', List.length_cons, List.length_nil, List.all_cons, List.all_nil, List.drop_succ_cons, List.drop_zero, List.take_succ_cons, List.take_zero, List.append_nil, true_and, and_true, Bool.and_true, Bool.true_and, Bool.and_self, Nat.reduceAdd, Nat.le_refl, Nat.zero_add, List.length_append, gk, ck, chgs_len, pj, cj, cj', prv_len, ewk]
              simp only [loopX_normal, St.trunc, St.keep, truncVs, truncV, AB.trunc, keepV, List.drop_zero, List.elem_cons, List.elem_nil, List.take_succ_cons, List.take_zero, List.map_cons, List.map_nil, List.getElem?_cons_zero, List.getElem?_cons_succ, List.length_cons, List.length_nil, Nat.reduceAdd, Nat.reduceBEq, Nat.reduceLeDiff, Nat.le_refl, Nat.zero_add, Bool.false_eq_true, ↓reduceIte]
              refine ⟨(k + 1, K1 ++ [c.u], (V1 ++ [zPr]).set K1.length c.new), ⟨hlk, by simp only [List.length_append, List.length_singleton]; omega, g4 (by omega)⟩, by simp only; omega, ?_⟩
              simp only [Int.toNat_natCast, List.length_set, List.length_append, List.length_singleton, prv_set]
              try rfl
            · rw [hj2]
              obtain ⟨g2, g4⟩ := hnext.2 j hj1 hj2 hj3
              have dj : decide (((j : Nat) : Int) < 0) = false := by rw [decide_eq_false_iff_not]; omega
              have hVK := hT.1
              have pj := prv_at (V := V1) (k := j) (by omega)
              have cj : (0 : Int) ≤ ((j : Nat) : Int) ∧ Int.toNat ((j : Nat) : Int) < V1.length := by omega
              rw [g2] at pj
              try simp (maxSteps := 1000000) only [go_skip, go_region, go_seq, go_cond, go_exit, go_draws, exitK_code, exitK_blk, exitK_nil, go_ops_nil, go_op, opK_none, contK_some, condK_f, callOf, fstep, fpre, fstep0, fbinA, fbin, fbin0, St.ev, St.put, List.getD_cons_zero, List.getD_cons_succ, List.set, true_and, Bool.true_and, ↓reduceIte, loopX_exit, dj]
              refine draw_rule tyOk (by rfl) (by simp only [List.length_cons, List.length_nil, Nat.reduceAdd, Nat.zero_le]) (by kernel_rfl) rfl ?_
              try simp (maxSteps := 1000000) only [callOf, fstep0, fbinA, newF, fbin, fbinS, eqVs, eqV, kOks, kOk, fload, fcell, ffieldAddr, findexAddr, evs, fpick, T, TI.isAgg, St.ev, St.put, AV.cells, AV.known, List.getD_cons_zero, List.getD_cons_succ, List.set, List.length_cons, List.length_nil, List.drop_succ_cons, List.drop_zero, List.take_succ_cons, List.take_zero, List.headD_cons, List.append_nil, List.getElem?_cons_zero, List.getElem?_cons_succ, List.replicate, Option.bind_some, List.getElem?_toArray, true_and, and_true, Bool.and_true, Bool.true_and, Bool.and_self, Bool.or_false, Bool.not_true, Bool.false_eq_true, ↓reduceIte, decide_true, reduceCtorEq, ne_eq, not_false_eq_true, Nat.reduceAdd, Nat.reduceLeDiff, Nat.reduceLT, Nat.le_refl, Nat.add_zero, Nat.zero_add, Nat.reduceBEq, cond_false, beq_self_eq_true, newCount, drawR_op, drawR_guard, drawW_some, drawV_ff, drawP_none, drawP_some, drawQ_some, drawH_fn, dstep, isFree, St.app, bump, isNew, eqc28, gk, ck, chgs_len, pr_beq, decide_eq_false hne, pj, cj, prv_len]
              refine drawCall_use hpc rfl ?_
              try simp (maxSteps := 1000000) only [go_nil, go_skip, go_region, go_cond, go_blk, go_ops_nil, go_op, opK_none, contK_some, condK_f, callOf, fstep, fpre, fstep0, fbinA, newF, fbin, fbin0, fbinS, eqVs, eqV, kOks, kOk, fload, fcell, fstore, ffieldAddr, findexAddr, fpick, T, TI.isAgg, St.ev, St.put, splice, esplice, AV.cells, AV.known, AV.pure, Value.cells, List.getD_cons_zero, List.getD_cons_succ, List.set, List.take_zero, List.nil_append, List.getElem?_cons_zero, List.getElem?_cons_succ, Option.bind_some, List.getElem?_toArray, true_and, Bool.true_and, Bool.and_self, Bool.or_false, Bool.not_true, Bool.false_eq_true, ↓reduceIte, decide_true, reduceCtorEq, ne_eq, not_false_eq_true, Nat.reduceAdd, Nat.reduceEqDiff, Nat.le_refl, Nat.zero_add, Nat.reduceBEq, cond_false, beq_self_eq_true, drawR_nil, drawR_op, drawR_guard, drawW_some, drawV_ff, drawP_none, drawQ_some, dstep, isFree, St.app, bump, isNew, eqc28]
              refine ⟨by kernel_rfl, ?_⟩
              try simp (maxSteps := 1000000) only [AV.flat, AV.pure, pureAll, Value.oneCell', List.length_cons, List.length_nil, List.all_cons, List.all_nil, List.drop_succ_cons, List.drop_zero, List.take_succ_cons, List.take_zero, List.append_nil, true_and, and_true, Bool.and_true, Bool.true_and, Bool.and_self, Nat.reduceAdd, Nat.le_refl, Nat.zero_add, gk, ck, chgs_len, pj, cj, prv_len, ewk]
              simp only [loopX_normal, St.trunc, St.keep, truncVs, truncV, AB.trunc, keepV, List.elem_cons, List.elem_nil, List.take_succ_cons, List.take_zero, List.map_cons, List.map_nil, Nat.reduceAdd, Nat.reduceBEq, Nat.reduceLeDiff, Nat.zero_add, Bool.false_eq_true, ↓reduceIte]
              refine ⟨(k + 1, K1, V1.set j c.new), ⟨hlk, by simp only; omega, g4⟩, by simp only; omega, ?_⟩
              simp only [Int.toNat_natCast, List.length_set, prv_set]
              try rfl
        · have hke := at_end hk h3
          try simp (maxSteps := 1000000) only [go_nil, go_region, go_blk, go_exit, exitK_code, exitK_blk, exitK_nil, go_ops_nil, go_op, opK_none, contK_some, condK_f, callOf, fstep, fpre, fstep0, fbinA, fbin, fbin0, St.ev, St.put, List.getD_cons_zero, List.getD_cons_succ, List.set, true_and, Bool.true_and, ↓reduceIte, loopX_exit, ew]
          simp only [loopT_normal, St.trunc, St.keep, truncVs, truncV, AB.trunc, keepV, List.elem_cons, List.elem_nil, List.take_succ_cons, List.take_zero, List.map_cons, List.map_nil, Nat.reduceAdd, Nat.reduceBEq, Nat.reduceLeDiff, Nat.zero_add, Bool.false_eq_true, ↓reduceIte]
          refine ⟨(i + 1, K1, V1), ⟨hlt, ?_, hT.1, ?_⟩, by simp only; omega, ?_⟩
          · simp only; omega
          · intro u
            simp only [e1]
            rw [hT.2.2 u, hke]
            split
            · rfl
            · rename_i hno
              refine (htl.rest u (fun c hc h => hno ?_)).symm
              rw [toldIf, List.take_length]
              exact List.any_eq_true.2 ⟨c, hc, by simpa using h⟩
          · rw [e1]
            exact Turns.refl _
      · have d2 : (((xs.length : Nat) : Int) == 1) = false := by rw [beq_eq_false_iff_ne]; omega
        refine draw_rule tyOk (by rfl) (by simp only [List.length_cons, List.length_nil, Nat.reduceAdd, Nat.zero_le]) (by kernel_rfl) rfl ?_
        try simp (maxSteps := 1000000) only [go_skip, go_region, go_seq, go_cond, go_block, go_loop, go_ops_nil, go_op, opK_none, contK_some, condK_f, undef, callOf, fstep, fpre, fstep0, fbinA, fbin, fbin0, flen, fpick, T, St.ev, St.put, List.getD_cons_zero, List.getD_cons_succ, List.set, List.length_cons, List.length_nil, List.append_nil, List.getElem?_cons_zero, List.getElem?_cons_succ, List.replicate, Option.bind_some, List.getElem?_toArray, true_and, Bool.true_and, Bool.false_eq_true, ↓reduceIte, Nat.reduceAdd, Nat.add_zero, Nat.zero_add, cond_false, newCount, drawR_nil, drawR_op, drawR_guard, drawW_some, drawV_ft, drawV_ff, drawP_none, drawQ_some, dstep, isFree, St.app, bump, isNew, chgs_len, d1, d2]
        refine ⟨by kernel_rfl, ?_⟩
        skip
        refine loopK_rule tyOk (α := Nat × List ByteArray × List Pr) 3 [0, 1, 5, 6, 7, 8, 9, 10, 11] (fun s => s.1 ≤ xs.length ∧ s.2.1.length ≤ K.length + s.1 ∧ toldOk B B' xs s.1 s.2.1 s.2.2)
          (fun s => ⟨[.sl 9 (bacts l), i64 most, .any, .any, .any, .ptr 0 0, u64 now, .own 1 1 0 s.2.1.length, .own 2 3 0 s.2.2.length, i64 i, .sl 7 (chgs xs), i64 s.1, .any, .any, .any, .any, .any, .any, .any, .any, .any, .any, .any, .any, .any, .any, .any, .any, .any, .any, .any, .any, .any, .any, .any, .any, .any, .any, .any, .any, .any, .any, .any, .any, .any, .any, .any, .any, .any, .any, .any, .any, .any, .any, .any, .any, .any, .any, .any, .any, .any, .any, .any, .any, .any, .any, .any, .any, .any, .any, .any, .any, .any, .any, .any, .any, .any, .any, .any, .any, .any, .any, .any, .any, .any, .any, .any, .any, .any, .any, .any, .any, .any, .any, .any, .any, .any, .any, .any, .any, .any, .any, .any, .any, .any, .any, .any, .any, .any, .any, .any, .any, .any, .any, .any, .any, .any, .any, .any, .any, .any, .any, .any, .any, .any, .any, .any, .any, .any, .any, .any, .any, .any, .any, .any, .any, .any, .any, .any, .any, .any, .any, .any, .any, .any, .any, .any, .any, .any, .any, .any, .any, .any, .any, .any, .any, .any, .any, .any, .any, .any, .any, .any, .any, .any, .any], tMem B' s.2.1 s.2.2⟩)
          (fun s => xs.length - s.1) (0, K, V) (by first | exact Nat.zero_le _ | decide) ⟨Nat.zero_le _, Nat.le_refl _, hT0⟩ rfl ?_
        rintro ⟨k, K1, V1⟩ ⟨hk, hkl, hT⟩
        simp only at hk hkl hT
        have hBl := hBok.2.1
        try simp (maxSteps := 1000000) only [go_region, go_seq, go_cond, go_ops_nil, go_op, opK_none, contK_some, callOf, fstep, fpre, fstep0, fbinA, fbin, fbin0, flen, T, St.ev, St.put, List.getD_cons_zero, List.getD_cons_succ, List.set, true_and, Bool.true_and, chgs_len]
        (first | refine guardV_split ?_ ?_ | refine condK_split ?_ ?_ | refine drawV_split ?_ ?_ | refine condY_split ?_ ?_ | refine guardY_split ?_ ?_) <;> intro h3
        · have hlk : k < xs.length := by simpa using h3
          have gk := chg_at hlk
          have ck : (0 : Int) ≤ (k : Int) ∧ Int.toNat (k : Int) < xs.length := by omega
          have ewk : IntKind.i64.wrap ((k : Int) + 1) = ((k + 1 : Nat) : Int) := by rw [wrap_i64 (by omega) (by omega)]; rfl
          have hnext := toldOk.next htl hlk hT
          obtain ⟨ho, hnw1, hne, hnp⟩ := htl.each _ (List.getElem_mem hlk)
          have hpc := presence_call 201 B' xs[k].u now hBok (by omega)
          rw [← hnp] at hpc
          generalize xs[k] = c at *
          unfold map_se at hpc
          try simp (maxSteps := 1000000) only [go_skip, go_region, go_seq, go_block, go_loop, go_ops_nil, go_op, opK_none, contK_some, condK_t, callOf, fstep, fpre, fstep0, St.ev, St.put, List.set, true_and, Bool.true_and]
          refine loopK_rule tyOk (α := Nat) 3 [0, 1, 5, 6, 7, 8, 9, 10, 11, 12, 13] (fun n => n ≤ K1.length)
            (fun n => ⟨[.sl 9 (bacts l), i64 most, .any, .any, .any, .ptr 0 0, u64 now, .own 1 1 0 K1.length, .own 2 3 0 V1.length, i64 i, .sl 7 (chgs xs), i64 k, i64 (scanA K1 c.u n), i64 n, .any, .any, .any, .any, .any, .any, .any, .any, .any, .any, .any, .any, .any, .any, .any, .any, .any, .any, .any, .any, .any, .any, .any, .any, .any, .any, .any, .any, .any, .any, .any, .any, .any, .any, .any, .any, .any, .any, .any, .any, .any, .any, .any, .any, .any, .any, .any, .any, .any, .any, .any, .any, .any, .any, .any, .any, .any, .any, .any, .any, .any, .any, .any, .any, .any, .any, .any, .any, .any, .any, .any, .any, .any, .any, .any, .any, .any, .any, .any, .any, .any, .any, .any, .any, .any, .any, .any, .any, .any, .any, .any, .any, .any, .any, .any, .any, .any, .any, .any, .any, .any, .any, .any, .any, .any, .any, .any, .any, .any, .any, .any, .any, .any, .any, .any, .any, .any, .any, .any, .any, .any, .any, .any, .any, .any, .any, .any, .any, .any, .any, .any, .any, .any, .any, .any, .any, .any, .any, .any, .any, .any, .any, .any, .any, .any, .any, .any, .any, .any, .any, .any, .any], tMem B' K1 V1⟩)
            (fun n => K1.length - n) 0 (by first | exact Nat.zero_le _ | decide) (Nat.zero_le _) rfl ?_
          intro n hn2
          try simp (maxSteps := 1000000) only [go_region, go_seq, go_cond, go_ops_nil, go_op, opK_none, contK_some, callOf, fstep, fpre, fstep0, fbinA, fbin, fbin0, flen, T, St.ev, St.put, List.getD_cons_zero, List.getD_cons_succ, List.set, true_and, Bool.true_and]
          (first | refine guardV_split ?_ ?_ | refine condK_split ?_ ?_ | refine drawV_split ?_ ?_ | refine condY_split ?_ ?_ | refine guardY_split ?_ ?_) <;> intro h4
          · have hln : n < K1.length := by simpa using h4
            have gn := str_at hln
            have cn : (0 : Int) ≤ (n : Int) ∧ Int.toNat (n : Int) < K1.length := by omega
            have ewn : IntKind.i64.wrap ((n : Int) + 1) = ((n + 1 : Nat) : Int) := by rw [wrap_i64 (by have := hT.2.1; omega) (by have := hT.2.1; omega)]; rfl
            try simp (maxSteps := 1000000) only [go_skip, go_seq, go_block, go_draws, condK_t]
            refine draw_rule tyOk (by rfl) (by simp only [List.length_cons, List.length_nil, Nat.reduceAdd, Nat.zero_le]) (by kernel_rfl) rfl ?_
            try simp (maxSteps := 1000000) only [go_cond, callOf, fstep0, fbinA, fbin, fbin0, fload, fcell, ffieldAddr, findexAddr, T, TI.isAgg, St.ev, St.put, AV.cells, AV.known, Value.cells, List.getD_cons_zero, List.getD_cons_succ, List.set, List.map_cons, List.map_nil, List.length_cons, List.length_nil, List.drop_zero, List.headD_cons, List.append_nil, List.getElem?_cons_zero, List.getElem?_cons_succ, List.replicate, List.getElem?_toArray, true_and, and_true, Bool.and_true, Bool.true_and, Bool.false_eq_true, ↓reduceIte, reduceCtorEq, ne_eq, not_false_eq_true, Nat.reduceAdd, Nat.reduceLT, Nat.add_zero, Nat.zero_add, newCount, drawR_nil, drawR_op, drawP_none, drawQ_some, dstep, isFree, St.app, bump, isNew, gn, cn, strs_len, gk, ck, chgs_len]
            refine ⟨by kernel_rfl, ?_⟩
            try simp (maxSteps := 1000000) only [str_beq]
            (first | refine guardV_split ?_ ?_ | refine condK_split ?_ ?_ | refine drawV_split ?_ ?_ | refine condY_split ?_ ?_ | refine guardY_split ?_ ?_) <;> intro h5
            · have e5 : scanA K1 c.u (n + 1) = (n : Int) := by rw [scanA, if_pos (by simpa using h5)]
              try simp (maxSteps := 1000000) only [go_nil, go_region, go_blk, go_ops_nil, go_op, opK_none, contK_some, condK_t, callOf, fstep, fpre, fstep0, fbinA, fbin, fbin0, St.ev, St.put, List.getD_cons_zero, List.getD_cons_succ, List.set, true_and, Bool.true_and, ewn]
              simp only [loopX_normal, St.trunc, St.keep, truncVs, truncV, AB.trunc, keepV, List.elem_cons, List.elem_nil, List.take_succ_cons, List.take_zero, List.map_cons, List.map_nil, Nat.reduceAdd, Nat.reduceBEq, Nat.reduceLeDiff, Nat.zero_add, Bool.false_eq_true, ↓reduceIte]
              exact ⟨n + 1, hln, by omega, by rw [e5]⟩
            · have e5 : scanA K1 c.u (n + 1) = scanA K1 c.u n := by rw [scanA, if_neg (by simpa using h5)]
              try simp (maxSteps := 1000000) only [go_nil, go_skip, go_region, go_blk, go_ops_nil, go_op, opK_none, contK_some, condK_f, callOf, fstep, fpre, fstep0, fbinA, fbin, fbin0, St.ev, St.put, List.getD_cons_zero, List.getD_cons_succ, List.set, true_and, Bool.true_and, ewn]
              simp only [loopX_normal, St.trunc, St.keep, truncVs, truncV, AB.trunc, keepV, List.elem_cons, List.elem_nil, List.take_succ_cons, List.take_zero, List.map_cons, List.map_nil, Nat.reduceAdd, Nat.reduceBEq, Nat.reduceLeDiff, Nat.zero_add, Bool.false_eq_true, ↓reduceIte]
              exact ⟨n + 1, hln, by omega, by rw [e5]⟩
          · obtain rfl := at_end hn2 h4
            rcases scanA_bd K1 c.u K1.length with hs | ⟨j, hj1, hj2, hj3⟩
            · obtain ⟨g1, g2, g3, g4⟩ := hnext.1 hs
              have ewl : IntKind.i64.wrap (((K1.length + 1 : Nat) : Int) - 1) = ((K1.length : Nat) : Int) := by
                have hh := hT.2.1
                have e0 : ((K1.length + 1 : Nat) : Int) - 1 = ((K1.length : Nat) : Int) := by omega
                rw [e0, wrap_i64 (by omega) (by omega)]
              have hVK := hT.1
              have hb := hT.2.1
              have gs : strs K1 ++ [str c.u] = strs (K1 ++ [c.u]) := by simp [strs]
              have gp : prv V1 ++ [.agg [i64 0, i64 0, i64 0]] = prv (V1 ++ [zPr]) := by simp [prv, Pr.av, zPr]
              have pj := prv_at (V := V1 ++ [zPr]) (k := K1.length) (by simp; omega)
              have cj : (0 : Int) ≤ ((K1.length : Nat) : Int) ∧ Int.toNat ((K1.length : Nat) : Int) < (V1 ++ [zPr]).length := by simp; omega
              rw [hs]
              rw [g1] at pj
              have cj' : Int.toNat ((K1.length : Nat) : Int) < V1.length + 1 := by omega
              try simp (maxSteps := 1000000) only [go_region, go_seq, go_cond, go_exit, go_draws, exitK_code, exitK_blk, exitK_nil, go_ops_nil, go_op, opK_none, contK_some, condK_t, condK_f, undef, callOf, fstep, fpre, fstep0, fbinA, fbin, fbin0, fload, fcell, ffieldAddr, findexAddr, ffill, fieldsOk, fbuild, evParts, evOwners, fbuildSlice, flen, felems, fappend, T, TI.isAgg, TI.zeroOk, TI.zav, setParts, partsOk, St.ev, St.put, St.shutAll, St.rehome, killV, killVs, AB.kill, AV.cells, AV.known, AV.flat, AV.pure, pureAll, AV.owners, ownersAll, Value.cells, Value.oneCell', List.getD_cons_zero, List.getD_cons_succ, List.set, List.map_cons, List.map_nil, List.length_cons, List.length_nil, List.all_cons, List.all_nil, List.drop_zero, List.take_succ_cons, List.take_zero, List.headD_cons, List.cons_append, List.nil_append, List.append_nil, List.getElem?_cons_zero, List.getElem?_cons_succ, List.replicate, Option.isSome_some, List.getElem?_toArray, true_and, and_true, Bool.and_true, Bool.true_and, Bool.and_self, Bool.or_true, Bool.or_false, Bool.false_eq_true, ↓reduceIte, decide_true, decide_false, reduceCtorEq, ne_eq, not_false_eq_true, Nat.reduceAdd, Nat.reduceMul, Nat.reduceLeDiff, Nat.reduceEqDiff, Nat.reduceLT, Nat.zero_le, Nat.le_refl, Nat.zero_add, Int.reduceLT, loopX_exit, gk, ck, chgs_len, strs_len]
              refine ⟨⟨by simp only [maxLen]; omega, by omega⟩, ⟨prv_len _, by simp only [maxLen]; omega, by omega⟩, ?_⟩
              rw [gs, gp, ewl]
              skip
              refine draw_rule tyOk (by rfl) (by simp only [List.length_cons, List.length_nil, Nat.reduceAdd, Nat.zero_le]) (by kernel_rfl) rfl ?_
              try simp (maxSteps := 1000000) only [callOf, fstep0, fbinA, newF, fbin, fbinS, eqVs, eqV, kOks, kOk, fload, fcell, ffieldAddr, findexAddr, evs, fpick, T, TI.isAgg, St.ev, St.put, AV.cells, AV.known, List.getD_cons_zero, List.getD_cons_succ, List.set, List.length_cons, List.length_nil, List.drop_succ_cons, List.drop_zero, List.take_succ_cons, List.take_zero, List.headD_cons, List.append_nil, List.getElem?_cons_zero, List.getElem?_cons_succ, List.replicate, Option.bind_some, List.getElem?_toArray, true_and, and_true, Bool.and_true, Bool.true_and, Bool.and_self, Bool.or_false, Bool.not_true, Bool.false_eq_true, ↓reduceIte, decide_true, reduceCtorEq, ne_eq, not_false_eq_true, Nat.reduceAdd, Nat.reduceLeDiff, Nat.reduceLT, Nat.le_refl, Nat.add_zero, Nat.zero_add, Nat.reduceBEq, cond_false, beq_self_eq_true, newCount, drawR_op, drawR_guard, drawW_some, drawV_ff, drawP_none, drawP_some, drawQ_some, drawH_fn, dstep, isFree, St.app, bump, isNew, List.length_append, eqc28, gk, ck, chgs_len, pr_beq, decide_eq_false hne, pj, cj, cj', prv_len]
              refine drawCall_use hpc rfl ?_
              try simp (maxSteps := 1000000) only [go_nil, go_skip, go_region, go_cond, go_blk, go_ops_nil, go_op, opK_none, contK_some, condK_f, callOf, fstep, fpre, fstep0, fbinA, newF, fbin, fbin0, fbinS, eqVs, eqV, kOks, kOk, fload, fcell, fstore, ffieldAddr, findexAddr, fpick, T, TI.isAgg, St.ev, St.put, splice, esplice, AV.cells, AV.known, AV.pure, Value.cells, List.getD_cons_zero, List.getD_cons_succ, List.set, List.take_zero, List.nil_append, List.getElem?_cons_zero, List.getElem?_cons_succ, Option.bind_some, List.getElem?_toArray, true_and, Bool.true_and, Bool.and_self, Bool.or_false, Bool.not_true, Bool.false_eq_true, ↓reduceIte, decide_true, reduceCtorEq, ne_eq, not_false_eq_true, Nat.reduceAdd, Nat.reduceEqDiff, Nat.le_refl, Nat.zero_add, Nat.reduceBEq, cond_false, beq_self_eq_true, drawR_nil, drawR_op, drawR_guard, drawW_some, drawV_ff, drawP_none, drawQ_some, dstep, isFree, St.app, bump, isNew, eqc28]
              refine ⟨by kernel_rfl, ?_⟩
              try simp (maxSteps := 1000000) only [AV.flat, AV.pure, pureAll, Value.oneCell', List.length_cons, List.length_nil, List.all_cons, List.all_nil, List.drop_succ_cons, List.drop_zero, List.take_succ_cons, List.take_zero, List.append_nil, true_and, and_true, Bool.and_true, Bool.true_and, Bool.and_self, Nat.reduceAdd, Nat.le_refl, Nat.zero_add, List.length_append, gk, ck, chgs_len, pj, cj, cj', prv_len, ewk]
              simp only [loopX_normal, St.trunc, St.keep, truncVs, truncV, AB.trunc, keepV, List.drop_zero, List.elem_cons, List.elem_nil, List.take_succ_cons, List.take_zero, List.map_cons, List.map_nil, List.getElem?_cons_zero, List.getElem?_cons_succ, List.length_cons, List.length_nil, Nat.reduceAdd, Nat.reduceBEq, Nat.reduceLeDiff, Nat.le_refl, Nat.zero_add, Bool.false_eq_true, ↓reduceIte]
              refine ⟨(k + 1, K1 ++ [c.u], (V1 ++ [zPr]).set K1.length c.new), ⟨hlk, by simp only [List.length_append, List.length_singleton]; omega, g4 (by omega)⟩, by simp only; omega, ?_⟩
              simp only [Int.toNat_natCast, List.length_set, List.length_append, List.length_singleton, prv_set]
              try rfl
            · rw [hj2]
              obtain ⟨g2, g4⟩ := hnext.2 j hj1 hj2 hj3
              have dj : decide (((j : Nat) : Int) < 0) = false := by rw [decide_eq_false_iff_not]; omega
              have hVK := hT.1
              have pj := prv_at (V := V1) (k := j) (by omega)
              have cj : (0 : Int) ≤ ((j : Nat) : Int) ∧ Int.toNat ((j : Nat) : Int) < V1.length := by omega
              rw [g2] at pj
              try simp (maxSteps := 1000000) only [go_skip, go_region, go_seq, go_cond, go_exit, go_draws, exitK_code, exitK_blk, exitK_nil, go_ops_nil, go_op, opK_none, contK_some, condK_f, callOf, fstep, fpre, fstep0, fbinA, fbin, fbin0, St.ev, St.put, List.getD_cons_zero, List.getD_cons_succ, List.set, true_and, Bool.true_and, ↓reduceIte, loopX_exit, dj]
              refine draw_rule tyOk (by rfl) (by simp only [List.length_cons, List.length_nil, Nat.reduceAdd, Nat.zero_le]) (by kernel_rfl) rfl ?_
              try simp (maxSteps := 1000000) only [callOf, fstep0, fbinA, newF, fbin, fbinS, eqVs, eqV, kOks, kOk, fload, fcell, ffieldAddr, findexAddr, evs, fpick, T, TI.isAgg, St.ev, St.put, AV.cells, AV.known, List.getD_cons_zero, List.getD_cons_succ, List.set, List.length_cons, List.length_nil, List.drop_succ_cons, List.drop_zero, List.take_succ_cons, List.take_zero, List.headD_cons, List.append_nil, List.getElem?_cons_zero, List.getElem?_cons_succ, List.replicate, Option.bind_some, List.getElem?_toArray, true_and, and_true, Bool.and_true, Bool.true_and, Bool.and_self, Bool.or_false, Bool.not_true, Bool.false_eq_true, ↓reduceIte, decide_true, reduceCtorEq, ne_eq, not_false_eq_true, Nat.reduceAdd, Nat.reduceLeDiff, Nat.reduceLT, Nat.le_refl, Nat.add_zero, Nat.zero_add, Nat.reduceBEq, cond_false, beq_self_eq_true, newCount, drawR_op, drawR_guard, drawW_some, drawV_ff, drawP_none, drawP_some, drawQ_some, drawH_fn, dstep, isFree, St.app, bump, isNew, eqc28, gk, ck, chgs_len, pr_beq, decide_eq_false hne, pj, cj, prv_len]
              refine drawCall_use hpc rfl ?_
              try simp (maxSteps := 1000000) only [go_nil, go_skip, go_region, go_cond, go_blk, go_ops_nil, go_op, opK_none, contK_some, condK_f, callOf, fstep, fpre, fstep0, fbinA, newF, fbin, fbin0, fbinS, eqVs, eqV, kOks, kOk, fload, fcell, fstore, ffieldAddr, findexAddr, fpick, T, TI.isAgg, St.ev, St.put, splice, esplice, AV.cells, AV.known, AV.pure, Value.cells, List.getD_cons_zero, List.getD_cons_succ, List.set, List.take_zero, List.nil_append, List.getElem?_cons_zero, List.getElem?_cons_succ, Option.bind_some, List.getElem?_toArray, true_and, Bool.true_and, Bool.and_self, Bool.or_false, Bool.not_true, Bool.false_eq_true, ↓reduceIte, decide_true, reduceCtorEq, ne_eq, not_false_eq_true, Nat.reduceAdd, Nat.reduceEqDiff, Nat.le_refl, Nat.zero_add, Nat.reduceBEq, cond_false, beq_self_eq_true, drawR_nil, drawR_op, drawR_guard, drawW_some, drawV_ff, drawP_none, drawQ_some, dstep, isFree, St.app, bump, isNew, eqc28]
              refine ⟨by kernel_rfl, ?_⟩
              try simp (maxSteps := 1000000) only [AV.flat, AV.pure, pureAll, Value.oneCell', List.length_cons, List.length_nil, List.all_cons, List.all_nil, List.drop_succ_cons, List.drop_zero, List.take_succ_cons, List.take_zero, List.append_nil, true_and, and_true, Bool.and_true, Bool.true_and, Bool.and_self, Nat.reduceAdd, Nat.le_refl, Nat.zero_add, gk, ck, chgs_len, pj, cj, prv_len, ewk]
              simp only [loopX_normal, St.trunc, St.keep, truncVs, truncV, AB.trunc, keepV, List.elem_cons, List.elem_nil, List.take_succ_cons, List.take_zero, List.map_cons, List.map_nil, Nat.reduceAdd, Nat.reduceBEq, Nat.reduceLeDiff, Nat.zero_add, Bool.false_eq_true, ↓reduceIte]
              refine ⟨(k + 1, K1, V1.set j c.new), ⟨hlk, by simp only; omega, g4⟩, by simp only; omega, ?_⟩
              simp only [Int.toNat_natCast, List.length_set, prv_set]
              try rfl
        · have hke := at_end hk h3
          try simp (maxSteps := 1000000) only [go_nil, go_region, go_blk, go_exit, exitK_code, exitK_blk, exitK_nil, go_ops_nil, go_op, opK_none, contK_some, condK_f, callOf, fstep, fpre, fstep0, fbinA, fbin, fbin0, St.ev, St.put, List.getD_cons_zero, List.getD_cons_succ, List.set, true_and, Bool.true_and, ↓reduceIte, loopX_exit, ew]
          simp only [loopT_normal, St.trunc, St.keep, truncVs, truncV, AB.trunc, keepV, List.elem_cons, List.elem_nil, List.take_succ_cons, List.take_zero, List.map_cons, List.map_nil, Nat.reduceAdd, Nat.reduceBEq, Nat.reduceLeDiff, Nat.zero_add, Bool.false_eq_true, ↓reduceIte]
          refine ⟨(i + 1, K1, V1), ⟨hlt, ?_, hT.1, ?_⟩, by simp only; omega, ?_⟩
          · simp only; omega
          · intro u
            simp only [e1]
            rw [hT.2.2 u, hke]
            split
            · rfl
            · rename_i hno
              refine (htl.rest u (fun c hc h => hno ?_)).symm
              rw [toldIf, List.take_length]
              exact List.any_eq_true.2 ⟨c, hc, by simpa using h⟩
          · rw [e1]
            exact Turns.refl _
    · have e1 : madeF (l.take (i + 1)) most = ((sweepF B now).1, now) := by rw [hn, madeStep, if_pos hsw]; simp only [hnw]
      have hsc := sweep_call 200 B now hok (by omega)
      have htl := tells_sweep hok.1 now
      have hBok := (book_sweep hok now).mono (show 200 ≤ 201 by omega)
      have hxl : (sweepF B now).2.length ≤ 200 := by
        have := (sweep_ok hok.1 now B.length).2.2
        rw [show sweepTo B now B.length = sweepF B now by rw [sweepTo, List.take_length, sweepF]] at this
        have := hok.2.1
        omega
      obtain ⟨⟨B', xs⟩, hBx⟩ : ∃ s, sweepF B now = s := ⟨_, rfl⟩
      rw [hBx] at hsc htl hBok hxl e1
      simp only at hsc htl hBok hxl e1
      have hT0 : toldOk B B' xs 0 K V := ⟨hVl, by omega, fun u => by rw [hlook]; simp [toldIf]⟩
      try simp (maxSteps := 1000000) only [go_region, go_op, opK_none, opK_some, contK_some, condK_t, callOf, callK_eq, callJ_nil, callD_fn, fstep, fpre, fstep0, fload, fcell, evs, T, TI.isAgg, St.ev, St.put, AV.owners, ownersAll, List.getD_cons_zero, List.getD_cons_succ, List.set, List.length_cons, List.length_nil, List.drop_zero, List.take_succ_cons, List.take_zero, List.append_nil, List.getElem?_cons_zero, true_and, Bool.true_and, ↓reduceIte, Nat.reduceAdd, Nat.le_refl, Nat.zero_add]
      (refine callG_use hsc rfl ?_; rintro _ rfl)
      try simp (maxSteps := 1000000) only [go_region, go_seq, go_block, go_loop, go_ops_nil, go_op, opK_none, contK_some, callOf, fstep, fpre, fstep0, fstore, T, St.ev, St.put, splice, AV.cells, AV.known, AV.flat, List.getD_cons_zero, List.getD_cons_succ, List.set, List.length_cons, List.length_nil, List.all_cons, List.all_nil, List.drop_succ_cons, List.drop_zero, List.take_zero, List.nil_append, List.append_nil, List.getElem?_cons_zero, true_and, and_true, Bool.and_true, Bool.true_and, Bool.and_self, Nat.reduceAdd, Nat.reduceLT, Nat.le_refl, Nat.zero_add, map_se]
      refine loopK_rule tyOk (α := Nat × List ByteArray × List Pr) 3 [0, 1, 5, 6, 7, 8, 9, 10, 11] (fun s => s.1 ≤ xs.length ∧ s.2.1.length ≤ K.length + s.1 ∧ toldOk B B' xs s.1 s.2.1 s.2.2)
        (fun s => ⟨[.sl 9 (bacts l), i64 most, .any, .any, .any, .ptr 0 0, u64 now, .own 1 1 0 s.2.1.length, .own 2 3 0 s.2.2.length, i64 i, .sl 7 (chgs xs), i64 s.1, .any, .any, .any, .any, .any, .any, .any, .any, .any, .any, .any, .any, .any, .any, .any, .any, .any, .any, .any, .any, .any, .any, .any, .any, .any, .any, .any, .any, .any, .any, .any, .any, .any, .any, .any, .any, .any, .any, .any, .any, .any, .any, .any, .any, .any, .any, .any, .any, .any, .any, .any, .any, .any, .any, .any, .any, .any, .any, .any, .any, .any, .any, .any, .any, .any, .any, .any, .any, .any, .any, .any, .any, .any, .any, .any, .any, .any, .any, .any, .any, .any, .any, .any, .any, .any, .any, .any, .any, .any, .any, .any, .any, .any, .any, .any, .any, .any, .any, .any, .any, .any, .any, .any, .any, .any, .any, .any, .any, .any, .any, .any, .any, .any, .any, .any, .any, .any, .any, .any, .any, .any, .any, .any, .any, .any, .any, .any, .any, .any, .any, .any, .any, .any, .any, .any, .any, .any, .any, .any, .any, .any, .any, .any, .any, .any, .any, .any, .any, .any, .any, .any, .any, .any, .any], tMem B' s.2.1 s.2.2⟩)
        (fun s => xs.length - s.1) (0, K, V) (by first | exact Nat.zero_le _ | decide) ⟨Nat.zero_le _, Nat.le_refl _, hT0⟩ rfl ?_
      rintro ⟨k, K1, V1⟩ ⟨hk, hkl, hT⟩
      simp only at hk hkl hT
      have hBl := hBok.2.1
      try simp (maxSteps := 1000000) only [go_region, go_seq, go_cond, go_ops_nil, go_op, opK_none, contK_some, callOf, fstep, fpre, fstep0, fbinA, fbin, fbin0, flen, T, St.ev, St.put, List.getD_cons_zero, List.getD_cons_succ, List.set, true_and, Bool.true_and, chgs_len]
      (first | refine guardV_split ?_ ?_ | refine condK_split ?_ ?_ | refine drawV_split ?_ ?_ | refine condY_split ?_ ?_ | refine guardY_split ?_ ?_) <;> intro h3
      · have hlk : k < xs.length := by simpa using h3
        have gk := chg_at hlk
        have ck : (0 : Int) ≤ (k : Int) ∧ Int.toNat (k : Int) < xs.length := by omega
        have ewk : IntKind.i64.wrap ((k : Int) + 1) = ((k + 1 : Nat) : Int) := by rw [wrap_i64 (by omega) (by omega)]; rfl
        have hnext := toldOk.next htl hlk hT
        obtain ⟨ho, hnw1, hne, hnp⟩ := htl.each _ (List.getElem_mem hlk)
        have hpc := presence_call 201 B' xs[k].u now hBok (by omega)
        rw [← hnp] at hpc
        generalize xs[k] = c at *
        unfold map_se at hpc
        try simp (maxSteps := 1000000) only [go_skip, go_region, go_seq, go_block, go_loop, go_ops_nil, go_op, opK_none, contK_some, condK_t, callOf, fstep, fpre, fstep0, St.ev, St.put, List.set, true_and, Bool.true_and]
        refine loopK_rule tyOk (α := Nat) 3 [0, 1, 5, 6, 7, 8, 9, 10, 11, 12, 13] (fun n => n ≤ K1.length)
          (fun n => ⟨[.sl 9 (bacts l), i64 most, .any, .any, .any, .ptr 0 0, u64 now, .own 1 1 0 K1.length, .own 2 3 0 V1.length, i64 i, .sl 7 (chgs xs), i64 k, i64 (scanA K1 c.u n), i64 n, .any, .any, .any, .any, .any, .any, .any, .any, .any, .any, .any, .any, .any, .any, .any, .any, .any, .any, .any, .any, .any, .any, .any, .any, .any, .any, .any, .any, .any, .any, .any, .any, .any, .any, .any, .any, .any, .any, .any, .any, .any, .any, .any, .any, .any, .any, .any, .any, .any, .any, .any, .any, .any, .any, .any, .any, .any, .any, .any, .any, .any, .any, .any, .any, .any, .any, .any, .any, .any, .any, .any, .any, .any, .any, .any, .any, .any, .any, .any, .any, .any, .any, .any, .any, .any, .any, .any, .any, .any, .any, .any, .any, .any, .any, .any, .any, .any, .any, .any, .any, .any, .any, .any, .any, .any, .any, .any, .any, .any, .any, .any, .any, .any, .any, .any, .any, .any, .any, .any, .any, .any, .any, .any, .any, .any, .any, .any, .any, .any, .any, .any, .any, .any, .any, .any, .any, .any, .any, .any, .any, .any, .any, .any, .any, .any, .any, .any, .any, .any, .any, .any, .any], tMem B' K1 V1⟩)
          (fun n => K1.length - n) 0 (by first | exact Nat.zero_le _ | decide) (Nat.zero_le _) rfl ?_
        intro n hn2
        try simp (maxSteps := 1000000) only [go_region, go_seq, go_cond, go_ops_nil, go_op, opK_none, contK_some, callOf, fstep, fpre, fstep0, fbinA, fbin, fbin0, flen, T, St.ev, St.put, List.getD_cons_zero, List.getD_cons_succ, List.set, true_and, Bool.true_and]
        (first | refine guardV_split ?_ ?_ | refine condK_split ?_ ?_ | refine drawV_split ?_ ?_ | refine condY_split ?_ ?_ | refine guardY_split ?_ ?_) <;> intro h4
        · have hln : n < K1.length := by simpa using h4
          have gn := str_at hln
          have cn : (0 : Int) ≤ (n : Int) ∧ Int.toNat (n : Int) < K1.length := by omega
          have ewn : IntKind.i64.wrap ((n : Int) + 1) = ((n + 1 : Nat) : Int) := by rw [wrap_i64 (by have := hT.2.1; omega) (by have := hT.2.1; omega)]; rfl
          try simp (maxSteps := 1000000) only [go_skip, go_seq, go_block, go_draws, condK_t]
          refine draw_rule tyOk (by rfl) (by simp only [List.length_cons, List.length_nil, Nat.reduceAdd, Nat.zero_le]) (by kernel_rfl) rfl ?_
          try simp (maxSteps := 1000000) only [go_cond, callOf, fstep0, fbinA, fbin, fbin0, fload, fcell, ffieldAddr, findexAddr, T, TI.isAgg, St.ev, St.put, AV.cells, AV.known, Value.cells, List.getD_cons_zero, List.getD_cons_succ, List.set, List.map_cons, List.map_nil, List.length_cons, List.length_nil, List.drop_zero, List.headD_cons, List.append_nil, List.getElem?_cons_zero, List.getElem?_cons_succ, List.replicate, List.getElem?_toArray, true_and, and_true, Bool.and_true, Bool.true_and, Bool.false_eq_true, ↓reduceIte, reduceCtorEq, ne_eq, not_false_eq_true, Nat.reduceAdd, Nat.reduceLT, Nat.add_zero, Nat.zero_add, newCount, drawR_nil, drawR_op, drawP_none, drawQ_some, dstep, isFree, St.app, bump, isNew, gn, cn, strs_len, gk, ck, chgs_len]
          refine ⟨by kernel_rfl, ?_⟩
          try simp (maxSteps := 1000000) only [str_beq]
          (first | refine guardV_split ?_ ?_ | refine condK_split ?_ ?_ | refine drawV_split ?_ ?_ | refine condY_split ?_ ?_ | refine guardY_split ?_ ?_) <;> intro h5
          · have e5 : scanA K1 c.u (n + 1) = (n : Int) := by rw [scanA, if_pos (by simpa using h5)]
            try simp (maxSteps := 1000000) only [go_nil, go_region, go_blk, go_ops_nil, go_op, opK_none, contK_some, condK_t, callOf, fstep, fpre, fstep0, fbinA, fbin, fbin0, St.ev, St.put, List.getD_cons_zero, List.getD_cons_succ, List.set, true_and, Bool.true_and, ewn]
            simp only [loopX_normal, St.trunc, St.keep, truncVs, truncV, AB.trunc, keepV, List.elem_cons, List.elem_nil, List.take_succ_cons, List.take_zero, List.map_cons, List.map_nil, Nat.reduceAdd, Nat.reduceBEq, Nat.reduceLeDiff, Nat.zero_add, Bool.false_eq_true, ↓reduceIte]
            exact ⟨n + 1, hln, by omega, by rw [e5]⟩
          · have e5 : scanA K1 c.u (n + 1) = scanA K1 c.u n := by rw [scanA, if_neg (by simpa using h5)]
            try simp (maxSteps := 1000000) only [go_nil, go_skip, go_region, go_blk, go_ops_nil, go_op, opK_none, contK_some, condK_f, callOf, fstep, fpre, fstep0, fbinA, fbin, fbin0, St.ev, St.put, List.getD_cons_zero, List.getD_cons_succ, List.set, true_and, Bool.true_and, ewn]
            simp only [loopX_normal, St.trunc, St.keep, truncVs, truncV, AB.trunc, keepV, List.elem_cons, List.elem_nil, List.take_succ_cons, List.take_zero, List.map_cons, List.map_nil, Nat.reduceAdd, Nat.reduceBEq, Nat.reduceLeDiff, Nat.zero_add, Bool.false_eq_true, ↓reduceIte]
            exact ⟨n + 1, hln, by omega, by rw [e5]⟩
        · obtain rfl := at_end hn2 h4
          rcases scanA_bd K1 c.u K1.length with hs | ⟨j, hj1, hj2, hj3⟩
          · obtain ⟨g1, g2, g3, g4⟩ := hnext.1 hs
            have ewl : IntKind.i64.wrap (((K1.length + 1 : Nat) : Int) - 1) = ((K1.length : Nat) : Int) := by
              have hh := hT.2.1
              have e0 : ((K1.length + 1 : Nat) : Int) - 1 = ((K1.length : Nat) : Int) := by omega
              rw [e0, wrap_i64 (by omega) (by omega)]
            have hVK := hT.1
            have hb := hT.2.1
            have gs : strs K1 ++ [str c.u] = strs (K1 ++ [c.u]) := by simp [strs]
            have gp : prv V1 ++ [.agg [i64 0, i64 0, i64 0]] = prv (V1 ++ [zPr]) := by simp [prv, Pr.av, zPr]
            have pj := prv_at (V := V1 ++ [zPr]) (k := K1.length) (by simp; omega)
            have cj : (0 : Int) ≤ ((K1.length : Nat) : Int) ∧ Int.toNat ((K1.length : Nat) : Int) < (V1 ++ [zPr]).length := by simp; omega
            rw [hs]
            rw [g1] at pj
            have cj' : Int.toNat ((K1.length : Nat) : Int) < V1.length + 1 := by omega
            try simp (maxSteps := 1000000) only [go_region, go_seq, go_cond, go_exit, go_draws, exitK_code, exitK_blk, exitK_nil, go_ops_nil, go_op, opK_none, contK_some, condK_t, condK_f, undef, callOf, fstep, fpre, fstep0, fbinA, fbin, fbin0, fload, fcell, ffieldAddr, findexAddr, ffill, fieldsOk, fbuild, evParts, evOwners, fbuildSlice, flen, felems, fappend, T, TI.isAgg, TI.zeroOk, TI.zav, setParts, partsOk, St.ev, St.put, St.shutAll, St.rehome, killV, killVs, AB.kill, AV.cells, AV.known, AV.flat, AV.pure, pureAll, AV.owners, ownersAll, Value.cells, Value.oneCell', List.getD_cons_zero, List.getD_cons_succ, List.set, List.map_cons, List.map_nil, List.length_cons, List.length_nil, List.all_cons, List.all_nil, List.drop_zero, List.take_succ_cons, List.take_zero, List.headD_cons, List.cons_append, List.nil_append, List.append_nil, List.getElem?_cons_zero, List.getElem?_cons_succ, List.replicate, Option.isSome_some, List.getElem?_toArray, true_and, and_true, Bool.and_true, Bool.true_and, Bool.and_self, Bool.or_true, Bool.or_false, Bool.false_eq_true, ↓reduceIte, decide_true, decide_false, reduceCtorEq, ne_eq, not_false_eq_true, Nat.reduceAdd, Nat.reduceMul, Nat.reduceLeDiff, Nat.reduceEqDiff, Nat.reduceLT, Nat.zero_le, Nat.le_refl, Nat.zero_add, Int.reduceLT, loopX_exit, gk, ck, chgs_len, strs_len]
            refine ⟨⟨by simp only [maxLen]; omega, by omega⟩, ⟨prv_len _, by simp only [maxLen]; omega, by omega⟩, ?_⟩
            rw [gs, gp, ewl]
            skip
            refine draw_rule tyOk (by rfl) (by simp only [List.length_cons, List.length_nil, Nat.reduceAdd, Nat.zero_le]) (by kernel_rfl) rfl ?_
            try simp (maxSteps := 1000000) only [callOf, fstep0, fbinA, newF, fbin, fbinS, eqVs, eqV, kOks, kOk, fload, fcell, ffieldAddr, findexAddr, evs, fpick, T, TI.isAgg, St.ev, St.put, AV.cells, AV.known, List.getD_cons_zero, List.getD_cons_succ, List.set, List.length_cons, List.length_nil, List.drop_succ_cons, List.drop_zero, List.take_succ_cons, List.take_zero, List.headD_cons, List.append_nil, List.getElem?_cons_zero, List.getElem?_cons_succ, List.replicate, Option.bind_some, List.getElem?_toArray, true_and, and_true, Bool.and_true, Bool.true_and, Bool.and_self, Bool.or_false, Bool.not_true, Bool.false_eq_true, ↓reduceIte, decide_true, reduceCtorEq, ne_eq, not_false_eq_true, Nat.reduceAdd, Nat.reduceLeDiff, Nat.reduceLT, Nat.le_refl, Nat.add_zero, Nat.zero_add, Nat.reduceBEq, cond_false, beq_self_eq_true, newCount, drawR_op, drawR_guard, drawW_some, drawV_ff, drawP_none, drawP_some, drawQ_some, drawH_fn, dstep, isFree, St.app, bump, isNew, List.length_append, eqc28, gk, ck, chgs_len, pr_beq, decide_eq_false hne, pj, cj, cj', prv_len]
            refine drawCall_use hpc rfl ?_
            try simp (maxSteps := 1000000) only [go_nil, go_skip, go_region, go_cond, go_blk, go_ops_nil, go_op, opK_none, contK_some, condK_f, callOf, fstep, fpre, fstep0, fbinA, newF, fbin, fbin0, fbinS, eqVs, eqV, kOks, kOk, fload, fcell, fstore, ffieldAddr, findexAddr, fpick, T, TI.isAgg, St.ev, St.put, splice, esplice, AV.cells, AV.known, AV.pure, Value.cells, List.getD_cons_zero, List.getD_cons_succ, List.set, List.take_zero, List.nil_append, List.getElem?_cons_zero, List.getElem?_cons_succ, Option.bind_some, List.getElem?_toArray, true_and, Bool.true_and, Bool.and_self, Bool.or_false, Bool.not_true, Bool.false_eq_true, ↓reduceIte, decide_true, reduceCtorEq, ne_eq, not_false_eq_true, Nat.reduceAdd, Nat.reduceEqDiff, Nat.le_refl, Nat.zero_add, Nat.reduceBEq, cond_false, beq_self_eq_true, drawR_nil, drawR_op, drawR_guard, drawW_some, drawV_ff, drawP_none, drawQ_some, dstep, isFree, St.app, bump, isNew, eqc28]
            refine ⟨by kernel_rfl, ?_⟩
            try simp (maxSteps := 1000000) only [AV.flat, AV.pure, pureAll, Value.oneCell', List.length_cons, List.length_nil, List.all_cons, List.all_nil, List.drop_succ_cons, List.drop_zero, List.take_succ_cons, List.take_zero, List.append_nil, true_and, and_true, Bool.and_true, Bool.true_and, Bool.and_self, Nat.reduceAdd, Nat.le_refl, Nat.zero_add, List.length_append, gk, ck, chgs_len, pj, cj, cj', prv_len, ewk]
            simp only [loopX_normal, St.trunc, St.keep, truncVs, truncV, AB.trunc, keepV, List.drop_zero, List.elem_cons, List.elem_nil, List.take_succ_cons, List.take_zero, List.map_cons, List.map_nil, List.getElem?_cons_zero, List.getElem?_cons_succ, List.length_cons, List.length_nil, Nat.reduceAdd, Nat.reduceBEq, Nat.reduceLeDiff, Nat.le_refl, Nat.zero_add, Bool.false_eq_true, ↓reduceIte]
            refine ⟨(k + 1, K1 ++ [c.u], (V1 ++ [zPr]).set K1.length c.new), ⟨hlk, by simp only [List.length_append, List.length_singleton]; omega, g4 (by omega)⟩, by simp only; omega, ?_⟩
            simp only [Int.toNat_natCast, List.length_set, List.length_append, List.length_singleton, prv_set]
            try rfl
          · rw [hj2]
            obtain ⟨g2, g4⟩ := hnext.2 j hj1 hj2 hj3
            have dj : decide (((j : Nat) : Int) < 0) = false := by rw [decide_eq_false_iff_not]; omega
            have hVK := hT.1
            have pj := prv_at (V := V1) (k := j) (by omega)
            have cj : (0 : Int) ≤ ((j : Nat) : Int) ∧ Int.toNat ((j : Nat) : Int) < V1.length := by omega
            rw [g2] at pj
            try simp (maxSteps := 1000000) only [go_skip, go_region, go_seq, go_cond, go_exit, go_draws, exitK_code, exitK_blk, exitK_nil, go_ops_nil, go_op, opK_none, contK_some, condK_f, callOf, fstep, fpre, fstep0, fbinA, fbin, fbin0, St.ev, St.put, List.getD_cons_zero, List.getD_cons_succ, List.set, true_and, Bool.true_and, ↓reduceIte, loopX_exit, dj]
            refine draw_rule tyOk (by rfl) (by simp only [List.length_cons, List.length_nil, Nat.reduceAdd, Nat.zero_le]) (by kernel_rfl) rfl ?_
            try simp (maxSteps := 1000000) only [callOf, fstep0, fbinA, newF, fbin, fbinS, eqVs, eqV, kOks, kOk, fload, fcell, ffieldAddr, findexAddr, evs, fpick, T, TI.isAgg, St.ev, St.put, AV.cells, AV.known, List.getD_cons_zero, List.getD_cons_succ, List.set, List.length_cons, List.length_nil, List.drop_succ_cons, List.drop_zero, List.take_succ_cons, List.take_zero, List.headD_cons, List.append_nil, List.getElem?_cons_zero, List.getElem?_cons_succ, List.replicate, Option.bind_some, List.getElem?_toArray, true_and, and_true, Bool.and_true, Bool.true_and, Bool.and_self, Bool.or_false, Bool.not_true, Bool.false_eq_true, ↓reduceIte, decide_true, reduceCtorEq, ne_eq, not_false_eq_true, Nat.reduceAdd, Nat.reduceLeDiff, Nat.reduceLT, Nat.le_refl, Nat.add_zero, Nat.zero_add, Nat.reduceBEq, cond_false, beq_self_eq_true, newCount, drawR_op, drawR_guard, drawW_some, drawV_ff, drawP_none, drawP_some, drawQ_some, drawH_fn, dstep, isFree, St.app, bump, isNew, eqc28, gk, ck, chgs_len, pr_beq, decide_eq_false hne, pj, cj, prv_len]
            refine drawCall_use hpc rfl ?_
            try simp (maxSteps := 1000000) only [go_nil, go_skip, go_region, go_cond, go_blk, go_ops_nil, go_op, opK_none, contK_some, condK_f, callOf, fstep, fpre, fstep0, fbinA, newF, fbin, fbin0, fbinS, eqVs, eqV, kOks, kOk, fload, fcell, fstore, ffieldAddr, findexAddr, fpick, T, TI.isAgg, St.ev, St.put, splice, esplice, AV.cells, AV.known, AV.pure, Value.cells, List.getD_cons_zero, List.getD_cons_succ, List.set, List.take_zero, List.nil_append, List.getElem?_cons_zero, List.getElem?_cons_succ, Option.bind_some, List.getElem?_toArray, true_and, Bool.true_and, Bool.and_self, Bool.or_false, Bool.not_true, Bool.false_eq_true, ↓reduceIte, decide_true, reduceCtorEq, ne_eq, not_false_eq_true, Nat.reduceAdd, Nat.reduceEqDiff, Nat.le_refl, Nat.zero_add, Nat.reduceBEq, cond_false, beq_self_eq_true, drawR_nil, drawR_op, drawR_guard, drawW_some, drawV_ff, drawP_none, drawQ_some, dstep, isFree, St.app, bump, isNew, eqc28]
            refine ⟨by kernel_rfl, ?_⟩
            try simp (maxSteps := 1000000) only [AV.flat, AV.pure, pureAll, Value.oneCell', List.length_cons, List.length_nil, List.all_cons, List.all_nil, List.drop_succ_cons, List.drop_zero, List.take_succ_cons, List.take_zero, List.append_nil, true_and, and_true, Bool.and_true, Bool.true_and, Bool.and_self, Nat.reduceAdd, Nat.le_refl, Nat.zero_add, gk, ck, chgs_len, pj, cj, prv_len, ewk]
            simp only [loopX_normal, St.trunc, St.keep, truncVs, truncV, AB.trunc, keepV, List.elem_cons, List.elem_nil, List.take_succ_cons, List.take_zero, List.map_cons, List.map_nil, Nat.reduceAdd, Nat.reduceBEq, Nat.reduceLeDiff, Nat.zero_add, Bool.false_eq_true, ↓reduceIte]
            refine ⟨(k + 1, K1, V1.set j c.new), ⟨hlk, by simp only; omega, g4⟩, by simp only; omega, ?_⟩
            simp only [Int.toNat_natCast, List.length_set, prv_set]
            try rfl
      · have hke := at_end hk h3
        try simp (maxSteps := 1000000) only [go_nil, go_region, go_blk, go_exit, exitK_code, exitK_blk, exitK_nil, go_ops_nil, go_op, opK_none, contK_some, condK_f, callOf, fstep, fpre, fstep0, fbinA, fbin, fbin0, St.ev, St.put, List.getD_cons_zero, List.getD_cons_succ, List.set, true_and, Bool.true_and, ↓reduceIte, loopX_exit, ew]
        simp only [loopT_normal, St.trunc, St.keep, truncVs, truncV, AB.trunc, keepV, List.elem_cons, List.elem_nil, List.take_succ_cons, List.take_zero, List.map_cons, List.map_nil, Nat.reduceAdd, Nat.reduceBEq, Nat.reduceLeDiff, Nat.zero_add, Bool.false_eq_true, ↓reduceIte]
        refine ⟨(i + 1, K1, V1), ⟨hlt, ?_, hT.1, ?_⟩, by simp only; omega, ?_⟩
        · simp only; omega
        · intro u
          simp only [e1]
          rw [hT.2.2 u, hke]
          split
          · rfl
          · rename_i hno
            refine (htl.rest u (fun c hc h => hno ?_)).symm
            rw [toldIf, List.take_length]
            exact List.any_eq_true.2 ⟨c, hc, by simpa using h⟩
        · rw [e1]
          exact Turns.refl _
  · try simp (maxSteps := 1000000) only [go_region, go_seq, go_exit, go_ret, exitK_code, exitK_blk, exitK_nil, go_ops_nil, go_op, opK_none, contK_some, condK_f, callOf, fstep, fpre, fstep0, St.ev, St.put, List.set, true_and, Bool.true_and, ↓reduceIte, loopT_exit]
    apply hK
    simp only [Try.results9, retK, ares, Bool.and_true, Bool.true_and, AV.ofResults, St.trunc, truncVs, truncV, List.getD_cons_zero, List.getD_cons_succ, List.take_zero, List.map_nil, true_and, and_true, List.cons.injEq, exists_eq_left']
def shapesBookTells : List (Bool × List Lf) := [(false, [.sl 9 true [.bool, .int .i64, .str, .int .i64, .int .i64, .int .i64, .int .u64, .sl 1 false [.str], .int .u64]]), (false, [.int .i64])]
theorem shapesBookTells_ok : argShapes T 6 [65, 3] = some shapesBookTells := by kernel_rfl

theorem law_BookTells (xs : List AV) (h : argsFit shapesBookTells xs) : PCall P 9 xs (fun x => x = .v (.bool true)) := by
  obtain ⟨_, _, rfl, ⟨_, _, rfl, ⟨ys, rfl, hlen, hys⟩, rfl⟩, _, _, rfl, ⟨_, _, rfl, ⟨most, rfl, _⟩, rfl⟩, rfl⟩ := h
  obtain ⟨l, rfl⟩ := fits_bacts hys
  rw [bacts_len] at hlen
  exact law_tells l most hlen
end Go.Proofs.Ytljgfapbbhbbpaa
