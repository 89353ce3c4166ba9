/- Lists whose keys rise: where a key is, or would be. -/
import Derived.Test.YtljgfapbbhbbpaaSymU
namespace Go.Proofs.Ytljgfapbbhbbpaa
open Go Go.Proofs.Ytljgfapbbhbbpaa.Sym
set_option linter.unusedSimpArgs false
set_option linter.unusedVariables false

structure StrictOrd {α : Type} (lt : α → α → Bool) : Prop where
  irrefl : ∀ a, lt a a = false
  trans : ∀ a b c, lt a b = true → lt b c = true → lt a c = true
  total : ∀ a b, lt a b = false → lt b a = false → a = b
section
variable {α : Type} {lt : α → α → Bool}
def Rises (lt : α → α → Bool) (l : List α) : Prop := l.Pairwise fun a b => lt a b = true
/-- How many are less. -/
def lb (lt : α → α → Bool) (l : List α) (k : α) : Nat := (l.takeWhile fun x => lt x k).length
theorem lb_le (l : List α) (k : α) : lb lt l k ≤ l.length := by
  unfold lb
  induction l with
  | nil => exact Nat.le_refl _
  | cons x xs ih =>
    simp only [List.takeWhile_cons]
    split
    · simp; exact ih
    · simp
theorem lb_lt {l : List α} {k : α} : ∀ {i : Nat} (h : i < lb lt l k), lt (l[i]'(Nat.lt_of_lt_of_le h (lb_le l k))) k = true := by
  induction l with
  | nil => intro i h; simp [lb] at h
  | cons x xs ih =>
    intro i h
    have h' := h
    simp only [lb, List.takeWhile_cons] at h'
    split at h'
    · rename_i hx
      cases i with
      | zero => exact hx
      | succ i => exact ih (i := i) (by simpa [lb] using h')
    · simp at h'
theorem lb_ge (O : StrictOrd lt) {l : List α} (hl : Rises lt l) {k : α} : ∀ {i : Nat} (h : i < l.length), lb lt l k ≤ i → lt l[i] k = false := by
  induction l with
  | nil => intro i h; simp at h
  | cons x xs ih =>
    intro i h hi
    have hp := List.pairwise_cons.1 hl
    by_cases hx : lt x k = true
    · cases i with
      | zero => simp [lb, List.takeWhile_cons, hx] at hi
      | succ i =>
        refine ih hp.2 (by simpa using h) ?_
        simp only [lb, List.takeWhile_cons, hx, if_true, List.length_cons] at hi ⊢
        omega
    · have hx' : lt x k = false := by simpa using hx
      cases i with
      | zero => exact hx'
      | succ i =>
        have hi' : i < xs.length := by simpa using h
        cases hc : lt xs[i] k with
        | false => simpa using hc
        | true =>
          have := O.trans _ _ _ (hp.1 _ (List.getElem_mem hi')) hc
          rw [hx'] at this; cases this
theorem lb_unique (O : StrictOrd lt) {l : List α} (hl : Rises lt l) {k : α} {p : Nat} (hp : p ≤ l.length) (h1 : ∀ i (h : i < l.length), i < p → lt l[i] k = true) (h2 : ∀ i (h : i < l.length), p ≤ i → lt l[i] k = false) : p = lb lt l k := by
  rcases Nat.lt_trichotomy p (lb lt l k) with h | h | h
  · have a := lb_lt h
    have b := h2 p (Nat.lt_of_lt_of_le h (lb_le l k)) (Nat.le_refl _)
    rw [b] at a; cases a
  · exact h
  · have hlt : lb lt l k < l.length := by omega
    have a := lb_ge O hl hlt (Nat.le_refl _)
    have b := h1 _ hlt h
    rw [b] at a; cases a
/-- Is a key there? -/
def hasAt (lt eq : α → α → Bool) (l : List α) (k : α) : Bool := match l[lb lt l k]? with | some x => eq x k | none => false
theorem hasAt_lt {eq : α → α → Bool} {l : List α} {k : α} (h : lb lt l k < l.length) : hasAt lt eq l k = eq l[lb lt l k] k := by
  rw [hasAt, List.getElem?_eq_getElem h]
theorem hasAt_ge {eq : α → α → Bool} {l : List α} {k : α} (h : ¬ lb lt l k < l.length) : hasAt lt eq l k = false := by
  rw [hasAt, List.getElem?_eq_none (by omega)]
theorem hasAt_iff (O : StrictOrd lt) {eq : α → α → Bool} (he : ∀ a b, eq a b = true ↔ a = b) {l : List α} (hl : Rises lt l) {k : α} : hasAt lt eq l k = true ↔ k ∈ l := by
  constructor
  · intro h
    by_cases hc : lb lt l k < l.length
    · rw [hasAt_lt hc] at h
      rw [← (he _ _).1 h]; exact List.getElem_mem hc
    · rw [hasAt_ge hc] at h; cases h
  · intro h
    obtain ⟨i, hi, rfl⟩ := List.mem_iff_getElem.1 h
    have h1 : lb lt l l[i] = i := by
      refine (lb_unique O hl (Nat.le_of_lt hi) (fun j hj hji => List.pairwise_iff_getElem.1 hl j i hj hi hji) (fun j hj hij => ?_)).symm
      rcases Nat.lt_or_ge i j with h | h
      · have a := List.pairwise_iff_getElem.1 hl i j hi hj h
        cases hc : lt l[j] l[i] with
        | false => rfl
        | true => have := O.trans _ _ _ a hc; rw [O.irrefl] at this; cases this
      · obtain rfl : i = j := by omega
        exact O.irrefl _
    rw [hasAt_lt (by omega)]
    simp only [h1]
    exact (he _ _).2 rfl
end

def ltI (a b : Int) : Bool := decide (a < b)
def eqI (a b : Int) : Bool := a == b
theorem ordI : StrictOrd ltI := ⟨fun a => by simp [ltI], fun a b c h1 h2 => by simp [ltI] at *; omega, fun a b h1 h2 => by simp [ltI] at *; omega⟩
theorem eqI_iff (a b : Int) : eqI a b = true ↔ a = b := by simp [eqI]
def ltS (a b : ByteArray) : Bool := Op.bytesLess a.toList b.toList
def eqS (a b : ByteArray) : Bool := a.toList == b.toList
theorem less_irrefl : ∀ l : List UInt8, Op.bytesLess l l = false
  | [] => rfl
  | a :: l => by simp [Op.bytesLess, less_irrefl l]
theorem less_trans : ∀ a b c : List UInt8, Op.bytesLess a b = true → Op.bytesLess b c = true → Op.bytesLess a c = true
  | _, [], _, h, _ => by simp [Op.bytesLess] at h
  | _, _ :: _, [], _, h => by simp [Op.bytesLess] at h
  | [], _ :: _, _ :: _, _, _ => rfl
  | a :: x, b :: y, c :: z, h1, h2 => by
    simp only [Op.bytesLess, Bool.or_eq_true, decide_eq_true_eq, Bool.and_eq_true, beq_iff_eq] at h1 h2 ⊢
    rcases h1 with h1 | ⟨rfl, h1⟩
    · rcases h2 with h2 | ⟨rfl, h2⟩
      · exact .inl (UInt8.lt_trans h1 h2)
      · exact .inl h1
    · rcases h2 with h2 | ⟨rfl, h2⟩
      · exact .inl h2
      · exact .inr ⟨rfl, less_trans x y z h1 h2⟩
theorem less_total : ∀ a b : List UInt8, Op.bytesLess a b = false → Op.bytesLess b a = false → a = b
  | [], [], _, _ => rfl
  | [], _ :: _, h, _ => by simp [Op.bytesLess] at h
  | _ :: _, [], _, h => by simp [Op.bytesLess] at h
  | a :: x, b :: y, h1, h2 => by
    simp only [Op.bytesLess, Bool.or_eq_false_iff, decide_eq_false_iff_not, Bool.and_eq_false_imp, beq_iff_eq] at h1 h2
    have hab : a = b := by
      apply UInt8.toNat_inj.1
      have p := h1.1; have q := h2.1
      rw [UInt8.lt_iff_toNat_lt] at p q
      omega
    subst hab
    rw [less_total x y (h1.2 rfl) (h2.2 rfl)]
theorem toList_inj {a b : ByteArray} (h : a.toList = b.toList) : a = b := by
  have e : ∀ c : ByteArray, c.toList = c.data.toList := fun c => by
    exact ByteArray.toList_eq c
  rw [e, e] at h
  cases a; cases b
  simp at h
  rw [h]
theorem ordS : StrictOrd ltS := ⟨fun a => less_irrefl _, fun a b c h1 h2 => less_trans _ _ _ h1 h2, fun a b h1 h2 => toList_inj (less_total _ _ h1 h2)⟩
theorem eqS_iff (a b : ByteArray) : eqS a b = true ↔ a = b := by
  rw [eqS, beq_iff_eq]
  exact ⟨toList_inj, fun h => by rw [h]⟩
end Go.Proofs.Ytljgfapbbhbbpaa
