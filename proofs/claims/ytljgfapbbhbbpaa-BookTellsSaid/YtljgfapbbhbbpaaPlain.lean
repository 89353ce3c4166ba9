/- Maps as lists of pairs whose keys rise: what is put, taken out, found. -/
import Derived.Test.YtljgfapbbhbbpaaOrd
namespace Go.Proofs.Ytljgfapbbhbbpaa
set_option linter.unusedSimpArgs false
set_option linter.unusedVariables false
section
variable {α β : Type} {lt eq : α → α → Bool}
def withG (lt eq : α → α → Bool) (m : List (α × β)) (k : α) (v : β) : List (α × β) :=
  if hasAt lt eq (m.map Prod.fst) k = true then m.set (lb lt (m.map Prod.fst) k) (k, v)
  else m.take (lb lt (m.map Prod.fst) k) ++ [(k, v)] ++ m.drop (lb lt (m.map Prod.fst) k)
def withoutG (lt eq : α → α → Bool) (m : List (α × β)) (k : α) : List (α × β) :=
  if hasAt lt eq (m.map Prod.fst) k = true then m.take (lb lt (m.map Prod.fst) k) ++ m.drop (lb lt (m.map Prod.fst) k + 1) else m
def getG (lt eq : α → α → Bool) (none : β) (m : List (α × β)) (k : α) : β × Bool :=
  if hasAt lt eq (m.map Prod.fst) k = true then ((m.map Prod.snd).getD (lb lt (m.map Prod.fst) k) none, true) else (none, false)
abbrev RisesM (lt : α → α → Bool) (m : List (α × β)) : Prop := Rises lt (m.map Prod.fst)
theorem risesM_iff {m : List (α × β)} : RisesM lt m ↔ m.Pairwise fun a b => lt a.1 b.1 = true := List.pairwise_map
theorem with_len (m : List (α × β)) (k : α) (v : β) : (withG lt eq m k v).length ≤ m.length + 1 := by
  unfold withG
  split
  · simp
  · simp
    omega
theorem without_len (m : List (α × β)) (k : α) : (withoutG lt eq m k).length ≤ m.length := by
  unfold withoutG
  split
  · simp; omega
  · exact Nat.le_refl _
theorem filter_none' {p : α × β → Bool} {l : List (α × β)} (h : ∀ x ∈ l, p x = false) : l.filter p = [] := by
  rw [List.filter_eq_nil_iff]; intro x hx; rw [h x hx]; decide
theorem filter_all' {p : α × β → Bool} {l : List (α × β)} (h : ∀ x ∈ l, p x = true) : l.filter p = l := List.filter_eq_self.2 h

/-- What is less, what is put, what is greater. -/
theorem with_eq (O : StrictOrd lt) (he : ∀ a b, eq a b = true ↔ a = b) {m : List (α × β)} (hr : RisesM lt m) (k : α) (v : β) :
    withG lt eq m k v = m.filter (fun p => lt p.1 k) ++ [(k, v)] ++ m.filter (fun p => lt k p.1) := by
  induction m with
  | nil => simp [withG, hasAt, lb]
  | cons x xs ih =>
    have hp := List.pairwise_cons.1 (risesM_iff.1 hr)
    by_cases hx : lt x.1 k = true
    · have hkx : lt k x.1 = false := by
        cases hc : lt k x.1 with
        | false => rfl
        | true => have := O.trans _ _ _ hx hc; rw [O.irrefl] at this; cases this
      have hlb : lb lt ((x :: xs).map Prod.fst) k = lb lt (xs.map Prod.fst) k + 1 := by simp [lb, List.takeWhile_cons, hx]
      have hh : hasAt lt eq ((x :: xs).map Prod.fst) k = hasAt lt eq (xs.map Prod.fst) k := by unfold hasAt; rw [hlb]; simp
      have e : withG lt eq (x :: xs) k v = x :: withG lt eq xs k v := by
        unfold withG
        rw [hh, hlb]
        split <;> simp
      rw [e, ih (risesM_iff.2 hp.2), List.filter_cons, List.filter_cons, hx, hkx]
      simp
    · have hx' : lt x.1 k = false := by simpa using hx
      have hlb : lb lt ((x :: xs).map Prod.fst) k = 0 := by simp [lb, List.takeWhile_cons, hx']
      have hh : hasAt lt eq ((x :: xs).map Prod.fst) k = eq x.1 k := by unfold hasAt; rw [hlb]; simp
      have hlow : ∀ y ∈ xs, lt y.1 k = false := by
        intro y hy
        cases hc : lt y.1 k with
        | false => rfl
        | true => have := O.trans _ _ _ (hp.1 y hy) hc; rw [hx'] at this; cases this
      unfold withG
      rw [hh, hlb, List.filter_cons, hx', filter_none' hlow]
      cases heq : eq x.1 k with
      | true =>
        have hk := (he _ _).1 heq
        subst hk
        rw [List.filter_cons, O.irrefl, filter_all' (l := xs) (fun y hy => hp.1 y hy)]
        simp
      | false =>
        have hkx : lt k x.1 = true := by
          cases hc : lt k x.1 with
          | true => rfl
          | false =>
            have := O.total _ _ hx' hc
            rw [(he _ _).2 this] at heq; cases heq
        rw [List.filter_cons, hkx, filter_all' (l := xs) (fun y hy => O.trans _ _ _ hkx (hp.1 y hy))]
        simp
theorem without_eq (O : StrictOrd lt) (he : ∀ a b, eq a b = true ↔ a = b) {m : List (α × β)} (hr : RisesM lt m) (k : α) :
    withoutG lt eq m k = m.filter (fun p => !eq p.1 k) := by
  induction m with
  | nil => simp [withoutG, hasAt, lb]
  | cons x xs ih =>
    have hp := List.pairwise_cons.1 (risesM_iff.1 hr)
    by_cases hx : lt x.1 k = true
    · have hne : eq x.1 k = false := by
        cases hc : eq x.1 k with
        | false => rfl
        | true => rw [(he _ _).1 hc, O.irrefl] at hx; cases hx
      have hlb : lb lt ((x :: xs).map Prod.fst) k = lb lt (xs.map Prod.fst) k + 1 := by simp [lb, List.takeWhile_cons, hx]
      have hh : hasAt lt eq ((x :: xs).map Prod.fst) k = hasAt lt eq (xs.map Prod.fst) k := by unfold hasAt; rw [hlb]; simp
      have e : withoutG lt eq (x :: xs) k = x :: withoutG lt eq xs k := by
        unfold withoutG
        rw [hh, hlb]
        split <;> simp
      rw [e, ih (risesM_iff.2 hp.2), List.filter_cons, hne]
      simp
    · have hx' : lt x.1 k = false := by simpa using hx
      have hlb : lb lt ((x :: xs).map Prod.fst) k = 0 := by simp [lb, List.takeWhile_cons, hx']
      have hh : hasAt lt eq ((x :: xs).map Prod.fst) k = eq x.1 k := by unfold hasAt; rw [hlb]; simp
      have hne : ∀ y ∈ xs, eq y.1 k = false := by
        intro y hy
        cases hc : eq y.1 k with
        | false => rfl
        | true =>
          have h1 := hp.1 y hy
          rw [(he _ _).1 hc, hx'] at h1; cases h1
      unfold withoutG
      rw [hh, hlb, List.filter_cons, filter_all' (l := xs) (fun y hy => by rw [hne y hy]; rfl)]
      cases heq : eq x.1 k <;> simp
theorem with_rises (O : StrictOrd lt) (he : ∀ a b, eq a b = true ↔ a = b) {m : List (α × β)} (hr : RisesM lt m) (k : α) (v : β) : RisesM lt (withG lt eq m k v) := by
  rw [with_eq O he hr]
  have h0 := risesM_iff.1 hr
  refine risesM_iff.2 ?_
  rw [List.append_assoc, List.pairwise_append]
  refine ⟨h0.sublist List.filter_sublist, ?_, ?_⟩
  · rw [List.cons_append, List.nil_append, List.pairwise_cons]
    exact ⟨fun y hy => (List.mem_filter.1 hy).2, h0.sublist List.filter_sublist⟩
  · intro a ha b hb
    have ha := (List.mem_filter.1 ha).2
    rcases List.mem_append.1 hb with hb | hb
    · obtain rfl : b = (k, v) := by simpa using hb
      exact ha
    · exact O.trans _ _ _ ha (List.mem_filter.1 hb).2
theorem without_rises (O : StrictOrd lt) (he : ∀ a b, eq a b = true ↔ a = b) {m : List (α × β)} (hr : RisesM lt m) (k : α) : RisesM lt (withoutG lt eq m k) := by
  rw [without_eq O he hr]
  exact risesM_iff.2 ((risesM_iff.1 hr).sublist List.filter_sublist)
/-- What is found is what is there. -/
theorem get_mem (O : StrictOrd lt) (he : ∀ a b, eq a b = true ↔ a = b) {m : List (α × β)} (hr : RisesM lt m) {k : α} {v none : β} (h : (k, v) ∈ m) : getG lt eq none m k = (v, true) := by
  obtain ⟨i, hi, hiv⟩ := List.mem_iff_getElem.1 h
  have hmk : k ∈ m.map Prod.fst := List.mem_map.2 ⟨_, h, rfl⟩
  have hh := (hasAt_iff O he hr).2 hmk
  have hki : (m.map Prod.fst)[i]'(by simpa using hi) = k := by simp [hiv]
  have hlb : lb lt (m.map Prod.fst) k = i := by
    have hl : lb lt (m.map Prod.fst) k < (m.map Prod.fst).length := by
      apply Nat.lt_of_not_le
      intro hc
      rw [hasAt_ge (by omega)] at hh; cases hh
    rw [hasAt_lt hl] at hh
    have h2 := (he _ _).1 hh
    rcases Nat.lt_trichotomy (lb lt (m.map Prod.fst) k) i with h3 | h3 | h3
    · have := List.pairwise_iff_getElem.1 hr _ _ hl (by simpa using hi) h3
      rw [h2, hki, O.irrefl] at this; cases this
    · exact h3
    · have := List.pairwise_iff_getElem.1 hr _ _ (by simpa using hi) hl h3
      rw [h2, hki, O.irrefl] at this; cases this
  unfold getG
  rw [if_pos hh, hlb, List.getD_eq_getElem?_getD, List.getElem?_map, List.getElem?_eq_getElem hi, hiv]
  rfl
theorem get_none (O : StrictOrd lt) (he : ∀ a b, eq a b = true ↔ a = b) {m : List (α × β)} (hr : RisesM lt m) {k : α} {none : β} (h : k ∉ m.map Prod.fst) : getG lt eq none m k = (none, false) := by
  unfold getG
  rw [if_neg (fun hc => h ((hasAt_iff O he hr).1 hc))]
theorem get_with (O : StrictOrd lt) (he : ∀ a b, eq a b = true ↔ a = b) {m : List (α × β)} (hr : RisesM lt m) (k : α) (v none : β) : getG lt eq none (withG lt eq m k v) k = (v, true) :=
  get_mem O he (with_rises O he hr k v) (by rw [with_eq O he hr]; simp)
theorem mem_with (O : StrictOrd lt) (he : ∀ a b, eq a b = true ↔ a = b) {m : List (α × β)} (hr : RisesM lt m) {k : α} {v : β} {p : α × β} : p ∈ withG lt eq m k v ↔ p = (k, v) ∨ (p ∈ m ∧ p.1 ≠ k) := by
  rw [with_eq O he hr]
  simp only [List.mem_append, List.mem_filter, List.mem_singleton]
  constructor
  · rintro ((⟨h1, h2⟩ | h) | ⟨h1, h2⟩)
    · exact .inr ⟨h1, fun hc => by rw [hc, O.irrefl] at h2; cases h2⟩
    · exact .inl h
    · exact .inr ⟨h1, fun hc => by rw [hc, O.irrefl] at h2; cases h2⟩
  · rintro (h | ⟨h1, h2⟩)
    · exact .inl (.inr h)
    · cases ha : lt p.1 k with
      | true => exact .inl (.inl ⟨h1, rfl⟩)
      | false =>
        cases hb : lt k p.1 with
        | true => exact .inr ⟨h1, rfl⟩
        | false => exact absurd (O.total _ _ ha hb) h2
end
end Go.Proofs.Ytljgfapbbhbbpaa
