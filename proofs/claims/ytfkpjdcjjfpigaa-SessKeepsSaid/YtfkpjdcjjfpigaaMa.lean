/- The types of the seat, as the walk wants them. Written by a small program of this session (seat.py); the kernel holds each row against the program. -/
import Derived.Test.YtfkpjdcjjfpigaaProg
import Derived.Test.YtfkpjdcjjfpigaaSymZd
import Derived.KernelRfl
import Derived.Test.YtfkpjdcjjfpigaaSymU
namespace Go.Proofs.Ytfkpjdcjjfpigaa
open Go Go.Proofs.Ytfkpjdcjjfpigaa.Sym
set_option maxRecDepth 100000
noncomputable abbrev P : Program := Try.prog
def T : TypeId → Option TI
  | 3 => some { desc := (.int .i64), size := 1, bytes := 8, zero := [.int .i64 0] }
  | 4 => some { desc := .bool, size := 1, bytes := 1, zero := [.bool false] }
  | 5 => some { desc := (.int .u8), size := 1, bytes := 1, zero := [.int .u8 0] }
  | 9 => some { desc := .string, size := 1, bytes := 16, zero := [.string .empty] }
  | 22 => some { desc := (.slice 31), size := 1, bytes := 24, zero := [.slice none 0 0] }
  | 25 => some { desc := (.slice 9), size := 1, bytes := 24, zero := [.slice none 0 0] }
  | 26 => some { desc := (.slice 3), size := 1, bytes := 24, zero := [.slice none 0 0] }
  | 28 => some { desc := (.struct #[{ name := "keys", type := 25, offset := 0, embedded := false, tag := "", pkgPath := "doorman/omap", byteOffset := 0 }, { name := "values", type := 26, offset := 1, embedded := false, tag := "", pkgPath := "doorman/omap", byteOffset := 24 }]), size := 2, bytes := 48, zero := [.slice none 0 0, .slice none 0 0] }
  | 31 => some { desc := (.struct #[{ name := "Out", type := 4, offset := 0, embedded := false, tag := "", pkgPath := "", byteOffset := 0 }, { name := "K", type := 9, offset := 1, embedded := false, tag := "", pkgPath := "", byteOffset := 8 }, { name := "V", type := 3, offset := 2, embedded := false, tag := "", pkgPath := "", byteOffset := 24 }]), size := 3, bytes := 32, zero := [.bool false, .string .empty, .int .i64 0] }
  | 38 => some { desc := (.slice 41), size := 1, bytes := 24, zero := [.slice none 0 0] }
  | 39 => some { desc := (.int .u64), size := 1, bytes := 8, zero := [.int .u64 0] }
  | 41 => some { desc := (.struct #[{ name := "Id", type := 3, offset := 0, embedded := false, tag := "", pkgPath := "", byteOffset := 0 }, { name := "Status", type := 3, offset := 1, embedded := false, tag := "", pkgPath := "", byteOffset := 8 }, { name := "Prio", type := 3, offset := 2, embedded := false, tag := "", pkgPath := "", byteOffset := 16 }, { name := "Until", type := 39, offset := 3, embedded := false, tag := "", pkgPath := "", byteOffset := 24 }]), size := 4, bytes := 32, zero := [.int .i64 0, .int .i64 0, .int .i64 0, .int .u64 0] }
  | 49 => some { desc := (.slice 39), size := 1, bytes := 24, zero := [.slice none 0 0] }
  | 51 => some { desc := (.struct #[{ name := "keys", type := 49, offset := 0, embedded := false, tag := "", pkgPath := "doorman/omap", byteOffset := 0 }, { name := "values", type := 26, offset := 1, embedded := false, tag := "", pkgPath := "doorman/omap", byteOffset := 24 }]), size := 2, bytes := 48, zero := [.slice none 0 0, .slice none 0 0] }
  | 57 => some { desc := (.slice 64), size := 1, bytes := 24, zero := [.slice none 0 0] }
  | 64 => some { desc := (.struct #[{ name := "K", type := 9, offset := 0, embedded := false, tag := "", pkgPath := "", byteOffset := 0 }, { name := "V", type := 3, offset := 1, embedded := false, tag := "", pkgPath := "", byteOffset := 16 }]), size := 2, bytes := 24, zero := [.string .empty, .int .i64 0] }
  | 77 => some { desc := (.slice 38), size := 1, bytes := 24, zero := [.slice none 0 0] }
  | 81 => some { desc := (.struct #[{ name := "keys", type := 26, offset := 0, embedded := false, tag := "", pkgPath := "doorman/omap", byteOffset := 0 }, { name := "values", type := 25, offset := 1, embedded := false, tag := "", pkgPath := "doorman/omap", byteOffset := 24 }]), size := 2, bytes := 48, zero := [.slice none 0 0, .slice none 0 0] }
  | 121 => some { desc := (.int .u64), size := 1, bytes := 8, zero := [.int .u64 0] }
  | _ => none
theorem ty3 : (P.info? 3).map (fun i => (i.size, i.bytes, i.zero)) = some (1, 8, some (.int .i64 0)) := by kernel_rfl
theorem ty4 : (P.info? 4).map (fun i => (i.size, i.bytes, i.zero)) = some (1, 1, some (.bool false)) := by kernel_rfl
theorem ty5 : (P.info? 5).map (fun i => (i.size, i.bytes, i.zero)) = some (1, 1, some (.int .u8 0)) := by kernel_rfl
theorem ty9 : (P.info? 9).map (fun i => (i.size, i.bytes, i.zero)) = some (1, 16, some (.string .empty)) := by kernel_rfl
theorem ty22 : (P.info? 22).map (fun i => (i.size, i.bytes, i.zero)) = some (1, 24, some (.slice none 0 0)) := by kernel_rfl
theorem ty25 : (P.info? 25).map (fun i => (i.size, i.bytes, i.zero)) = some (1, 24, some (.slice none 0 0)) := by kernel_rfl
theorem ty26 : (P.info? 26).map (fun i => (i.size, i.bytes, i.zero)) = some (1, 24, some (.slice none 0 0)) := by kernel_rfl
theorem ty28 : (P.info? 28).map (fun i => (i.size, i.bytes, i.zero)) = some (2, 48, some (.agg #[.slice none 0 0, .slice none 0 0])) := by kernel_rfl
theorem ty31 : (P.info? 31).map (fun i => (i.size, i.bytes, i.zero)) = some (3, 32, some (.agg #[.bool false, .string .empty, .int .i64 0])) := by kernel_rfl
theorem ty38 : (P.info? 38).map (fun i => (i.size, i.bytes, i.zero)) = some (1, 24, some (.slice none 0 0)) := by kernel_rfl
theorem ty39 : (P.info? 39).map (fun i => (i.size, i.bytes, i.zero)) = some (1, 8, some (.int .u64 0)) := by kernel_rfl
theorem ty41 : (P.info? 41).map (fun i => (i.size, i.bytes, i.zero)) = some (4, 32, some (.agg #[.int .i64 0, .int .i64 0, .int .i64 0, .int .u64 0])) := by kernel_rfl
theorem ty49 : (P.info? 49).map (fun i => (i.size, i.bytes, i.zero)) = some (1, 24, some (.slice none 0 0)) := by kernel_rfl
theorem ty51 : (P.info? 51).map (fun i => (i.size, i.bytes, i.zero)) = some (2, 48, some (.agg #[.slice none 0 0, .slice none 0 0])) := by kernel_rfl
theorem ty57 : (P.info? 57).map (fun i => (i.size, i.bytes, i.zero)) = some (1, 24, some (.slice none 0 0)) := by kernel_rfl
theorem ty64 : (P.info? 64).map (fun i => (i.size, i.bytes, i.zero)) = some (2, 24, some (.agg #[.string .empty, .int .i64 0])) := by kernel_rfl
theorem ty77 : (P.info? 77).map (fun i => (i.size, i.bytes, i.zero)) = some (1, 24, some (.slice none 0 0)) := by kernel_rfl
theorem ty81 : (P.info? 81).map (fun i => (i.size, i.bytes, i.zero)) = some (2, 48, some (.agg #[.slice none 0 0, .slice none 0 0])) := by kernel_rfl
theorem ty121 : (P.info? 121).map (fun i => (i.size, i.bytes, i.zero)) = some (1, 8, some (.int .u64 0)) := by kernel_rfl
theorem row_ok {t : TypeId} {d : TypeDesc} {size bytes : Nat} {z : Value} {zero : List Value} (hu : P.underlying t = some d) (hi : (P.info? t).map (fun i => (i.size, i.bytes, i.zero)) = some (size, bytes, some z)) (hz : z.cells.toList = zero) :
    P.underlying t = some d ∧ ∃ i z, P.info? t = some i ∧ i.size = size ∧ i.bytes = bytes ∧ i.zero = some z ∧ z.cells.toList = zero := by
  refine ⟨hu, ?_⟩
  cases h : P.info? t with
  | none => rw [h] at hi; cases hi
  | some i =>
    rw [h] at hi
    simp only [Option.map_some, Option.some.injEq, Prod.mk.injEq] at hi
    exact ⟨i, z, rfl, hi.1, hi.2.1, hi.2.2, hz⟩
theorem tyOk : TyOk P T := by
  intro t ti h
  unfold T at h
  split at h
  · cases h; exact row_ok Try.underlying3 ty3 rfl
  · cases h; exact row_ok Try.underlying4 ty4 rfl
  · cases h; exact row_ok Try.underlying5 ty5 rfl
  · cases h; exact row_ok Try.underlying9 ty9 rfl
  · cases h; exact row_ok Try.underlying22 ty22 rfl
  · cases h; exact row_ok Try.underlying25 ty25 rfl
  · cases h; exact row_ok Try.underlying26 ty26 rfl
  · cases h; exact row_ok Try.underlying28 ty28 rfl
  · cases h; exact row_ok Try.underlying31 ty31 rfl
  · cases h; exact row_ok Try.underlying38 ty38 rfl
  · cases h; exact row_ok Try.underlying39 ty39 rfl
  · cases h; exact row_ok Try.underlying41 ty41 rfl
  · cases h; exact row_ok Try.underlying49 ty49 rfl
  · cases h; exact row_ok Try.underlying51 ty51 rfl
  · cases h; exact row_ok Try.underlying57 ty57 rfl
  · cases h; exact row_ok Try.underlying64 ty64 rfl
  · cases h; exact row_ok Try.underlying77 ty77 rfl
  · cases h; exact row_ok Try.underlying81 ty81 rfl
  · cases h; exact row_ok Try.underlying121 ty121 rfl
  · cases h
theorem eqc31 {xs ys : List AV} : eqC P T 31 xs ys = (kOks [.bool, .str, .int .i64] xs ys = true) := eqC_eq (by kernel_rfl) (by kernel_rfl)
theorem eqc41 {xs ys : List AV} : eqC P T 41 xs ys = (kOks [.int .i64, .int .i64, .int .i64, .int .u64] xs ys = true) := eqC_eq (by kernel_rfl) (by kernel_rfl)
theorem eqc64 {xs ys : List AV} : eqC P T 64 xs ys = (kOks [.str, .int .i64] xs ys = true) := eqC_eq (by kernel_rfl) (by kernel_rfl)
end Go.Proofs.Ytfkpjdcjjfpigaa
namespace Go.Proofs.Ytfkpjdcjjfpigaa
open Go Go.Proofs.Ytfkpjdcjjfpigaa.Sym
set_option linter.unusedSimpArgs false
set_option linter.unusedVariables false

structure StrictOrd {α : Type} (lt : α → α → Bool) : Prop where
  irrefl : ∀ a, lt a a = false
  trans : ∀ a b c, lt a b = true → lt b c = true → lt a c = true
  total : ∀ a b, lt a b = false → lt b a = false → a = b
section
variable {α : Type} {lt : α → α → Bool}
def Rises (lt : α → α → Bool) (l : List α) : Prop := l.Pairwise fun a b => lt a b = true
/-- How many are less. -/
def lb (lt : α → α → Bool) (l : List α) (k : α) : Nat := (l.takeWhile fun x => lt x k).length
theorem lb_le (l : List α) (k : α) : lb lt l k ≤ l.length := by
  unfold lb
  induction l with
  | nil => exact Nat.le_refl _
  | cons x xs ih =>
    simp only [List.takeWhile_cons]
    split
    · simp; exact ih
    · simp
theorem lb_lt {l : List α} {k : α} : ∀ {i : Nat} (h : i < lb lt l k), lt (l[i]'(Nat.lt_of_lt_of_le h (lb_le l k))) k = true := by
  induction l with
  | nil => intro i h; simp [lb] at h
  | cons x xs ih =>
    intro i h
    have h' := h
    simp only [lb, List.takeWhile_cons] at h'
    split at h'
    · rename_i hx
      cases i with
      | zero => exact hx
      | succ i => exact ih (i := i) (by simpa [lb] using h')
    · simp at h'
theorem lb_ge (O : StrictOrd lt) {l : List α} (hl : Rises lt l) {k : α} : ∀ {i : Nat} (h : i < l.length), lb lt l k ≤ i → lt l[i] k = false := by
  induction l with
  | nil => intro i h; simp at h
  | cons x xs ih =>
    intro i h hi
    have hp := List.pairwise_cons.1 hl
    by_cases hx : lt x k = true
    · cases i with
      | zero => simp [lb, List.takeWhile_cons, hx] at hi
      | succ i =>
        refine ih hp.2 (by simpa using h) ?_
        simp only [lb, List.takeWhile_cons, hx, if_true, List.length_cons] at hi ⊢
        omega
    · have hx' : lt x k = false := by simpa using hx
      cases i with
      | zero => exact hx'
      | succ i =>
        have hi' : i < xs.length := by simpa using h
        cases hc : lt xs[i] k with
        | false => simpa using hc
        | true =>
          have := O.trans _ _ _ (hp.1 _ (List.getElem_mem hi')) hc
          rw [hx'] at this; cases this
theorem lb_unique (O : StrictOrd lt) {l : List α} (hl : Rises lt l) {k : α} {p : Nat} (hp : p ≤ l.length) (h1 : ∀ i (h : i < l.length), i < p → lt l[i] k = true) (h2 : ∀ i (h : i < l.length), p ≤ i → lt l[i] k = false) : p = lb lt l k := by
  rcases Nat.lt_trichotomy p (lb lt l k) with h | h | h
  · have a := lb_lt h
    have b := h2 p (Nat.lt_of_lt_of_le h (lb_le l k)) (Nat.le_refl _)
    rw [b] at a; cases a
  · exact h
  · have hlt : lb lt l k < l.length := by omega
    have a := lb_ge O hl hlt (Nat.le_refl _)
    have b := h1 _ hlt h
    rw [b] at a; cases a
/-- Is a key there? -/
def hasAt (lt eq : α → α → Bool) (l : List α) (k : α) : Bool := match l[lb lt l k]? with | some x => eq x k | none => false
theorem hasAt_lt {eq : α → α → Bool} {l : List α} {k : α} (h : lb lt l k < l.length) : hasAt lt eq l k = eq l[lb lt l k] k := by
  rw [hasAt, List.getElem?_eq_getElem h]
theorem hasAt_ge {eq : α → α → Bool} {l : List α} {k : α} (h : ¬ lb lt l k < l.length) : hasAt lt eq l k = false := by
  rw [hasAt, List.getElem?_eq_none (by omega)]
theorem hasAt_iff (O : StrictOrd lt) {eq : α → α → Bool} (he : ∀ a b, eq a b = true ↔ a = b) {l : List α} (hl : Rises lt l) {k : α} : hasAt lt eq l k = true ↔ k ∈ l := by
  constructor
  · intro h
    by_cases hc : lb lt l k < l.length
    · rw [hasAt_lt hc] at h
      rw [← (he _ _).1 h]; exact List.getElem_mem hc
    · rw [hasAt_ge hc] at h; cases h
  · intro h
    obtain ⟨i, hi, rfl⟩ := List.mem_iff_getElem.1 h
    have h1 : lb lt l l[i] = i := by
      refine (lb_unique O hl (Nat.le_of_lt hi) (fun j hj hji => List.pairwise_iff_getElem.1 hl j i hj hi hji) (fun j hj hij => ?_)).symm
      rcases Nat.lt_or_ge i j with h | h
      · have a := List.pairwise_iff_getElem.1 hl i j hi hj h
        cases hc : lt l[j] l[i] with
        | false => rfl
        | true => have := O.trans _ _ _ a hc; rw [O.irrefl] at this; cases this
      · obtain rfl : i = j := by omega
        exact O.irrefl _
    rw [hasAt_lt (by omega)]
    simp only [h1]
    exact (he _ _).2 rfl
end

def ltI (a b : Int) : Bool := decide (a < b)
def eqI (a b : Int) : Bool := a == b
theorem ordI : StrictOrd ltI := ⟨fun a => by simp [ltI], fun a b c h1 h2 => by simp [ltI] at *; omega, fun a b h1 h2 => by simp [ltI] at *; omega⟩
theorem eqI_iff (a b : Int) : eqI a b = true ↔ a = b := by simp [eqI]
def ltS (a b : ByteArray) : Bool := Op.bytesLess a.toList b.toList
def eqS (a b : ByteArray) : Bool := a.toList == b.toList
theorem less_irrefl : ∀ l : List UInt8, Op.bytesLess l l = false
  | [] => rfl
  | a :: l => by simp [Op.bytesLess, less_irrefl l]
theorem less_trans : ∀ a b c : List UInt8, Op.bytesLess a b = true → Op.bytesLess b c = true → Op.bytesLess a c = true
  | _, [], _, h, _ => by simp [Op.bytesLess] at h
  | _, _ :: _, [], _, h => by simp [Op.bytesLess] at h
  | [], _ :: _, _ :: _, _, _ => rfl
  | a :: x, b :: y, c :: z, h1, h2 => by
    simp only [Op.bytesLess, Bool.or_eq_true, decide_eq_true_eq, Bool.and_eq_true, beq_iff_eq] at h1 h2 ⊢
    rcases h1 with h1 | ⟨rfl, h1⟩
    · rcases h2 with h2 | ⟨rfl, h2⟩
      · exact .inl (UInt8.lt_trans h1 h2)
      · exact .inl h1
    · rcases h2 with h2 | ⟨rfl, h2⟩
      · exact .inl h2
      · exact .inr ⟨rfl, less_trans x y z h1 h2⟩
theorem less_total : ∀ a b : List UInt8, Op.bytesLess a b = false → Op.bytesLess b a = false → a = b
  | [], [], _, _ => rfl
  | [], _ :: _, h, _ => by simp [Op.bytesLess] at h
  | _ :: _, [], _, h => by simp [Op.bytesLess] at h
  | a :: x, b :: y, h1, h2 => by
    simp only [Op.bytesLess, Bool.or_eq_false_iff, decide_eq_false_iff_not, Bool.and_eq_false_imp, beq_iff_eq] at h1 h2
    have hab : a = b := by
      apply UInt8.toNat_inj.1
      have p := h1.1; have q := h2.1
      rw [UInt8.lt_iff_toNat_lt] at p q
      omega
    subst hab
    rw [less_total x y (h1.2 rfl) (h2.2 rfl)]
theorem toList_inj {a b : ByteArray} (h : a.toList = b.toList) : a = b := by
  have e : ∀ c : ByteArray, c.toList = c.data.toList := fun c => by
    exact ByteArray.toList_eq c
  rw [e, e] at h
  cases a; cases b
  simp at h
  rw [h]
theorem ordS : StrictOrd ltS := ⟨fun a => less_irrefl _, fun a b c h1 h2 => less_trans _ _ _ h1 h2, fun a b h1 h2 => toList_inj (less_total _ _ h1 h2)⟩
theorem eqS_iff (a b : ByteArray) : eqS a b = true ↔ a = b := by
  rw [eqS, beq_iff_eq]
  exact ⟨toList_inj, fun h => by rw [h]⟩
end Go.Proofs.Ytfkpjdcjjfpigaa
namespace Go.Proofs.Ytfkpjdcjjfpigaa
set_option linter.unusedSimpArgs false
set_option linter.unusedVariables false
section
variable {α β : Type} {lt eq : α → α → Bool}
def withG (lt eq : α → α → Bool) (m : List (α × β)) (k : α) (v : β) : List (α × β) :=
  if hasAt lt eq (m.map Prod.fst) k = true then m.set (lb lt (m.map Prod.fst) k) (k, v)
  else m.take (lb lt (m.map Prod.fst) k) ++ [(k, v)] ++ m.drop (lb lt (m.map Prod.fst) k)
def withoutG (lt eq : α → α → Bool) (m : List (α × β)) (k : α) : List (α × β) :=
  if hasAt lt eq (m.map Prod.fst) k = true then m.take (lb lt (m.map Prod.fst) k) ++ m.drop (lb lt (m.map Prod.fst) k + 1) else m
def getG (lt eq : α → α → Bool) (none : β) (m : List (α × β)) (k : α) : β × Bool :=
  if hasAt lt eq (m.map Prod.fst) k = true then ((m.map Prod.snd).getD (lb lt (m.map Prod.fst) k) none, true) else (none, false)
abbrev RisesM (lt : α → α → Bool) (m : List (α × β)) : Prop := Rises lt (m.map Prod.fst)
theorem risesM_iff {m : List (α × β)} : RisesM lt m ↔ m.Pairwise fun a b => lt a.1 b.1 = true := List.pairwise_map
theorem with_len (m : List (α × β)) (k : α) (v : β) : (withG lt eq m k v).length ≤ m.length + 1 := by
  unfold withG
  split
  · simp
  · simp
    omega
theorem without_len (m : List (α × β)) (k : α) : (withoutG lt eq m k).length ≤ m.length := by
  unfold withoutG
  split
  · simp; omega
  · exact Nat.le_refl _
theorem filter_none' {p : α × β → Bool} {l : List (α × β)} (h : ∀ x ∈ l, p x = false) : l.filter p = [] := by
  rw [List.filter_eq_nil_iff]; intro x hx; rw [h x hx]; decide
theorem filter_all' {p : α × β → Bool} {l : List (α × β)} (h : ∀ x ∈ l, p x = true) : l.filter p = l := List.filter_eq_self.2 h

/-- What is less, what is put, what is greater. -/
theorem with_eq (O : StrictOrd lt) (he : ∀ a b, eq a b = true ↔ a = b) {m : List (α × β)} (hr : RisesM lt m) (k : α) (v : β) :
    withG lt eq m k v = m.filter (fun p => lt p.1 k) ++ [(k, v)] ++ m.filter (fun p => lt k p.1) := by
  induction m with
  | nil => simp [withG, hasAt, lb]
  | cons x xs ih =>
    have hp := List.pairwise_cons.1 (risesM_iff.1 hr)
    by_cases hx : lt x.1 k = true
    · have hkx : lt k x.1 = false := by
        cases hc : lt k x.1 with
        | false => rfl
        | true => have := O.trans _ _ _ hx hc; rw [O.irrefl] at this; cases this
      have hlb : lb lt ((x :: xs).map Prod.fst) k = lb lt (xs.map Prod.fst) k + 1 := by simp [lb, List.takeWhile_cons, hx]
      have hh : hasAt lt eq ((x :: xs).map Prod.fst) k = hasAt lt eq (xs.map Prod.fst) k := by unfold hasAt; rw [hlb]; simp
      have e : withG lt eq (x :: xs) k v = x :: withG lt eq xs k v := by
        unfold withG
        rw [hh, hlb]
        split <;> simp
      rw [e, ih (risesM_iff.2 hp.2), List.filter_cons, List.filter_cons, hx, hkx]
      simp
    · have hx' : lt x.1 k = false := by simpa using hx
      have hlb : lb lt ((x :: xs).map Prod.fst) k = 0 := by simp [lb, List.takeWhile_cons, hx']
      have hh : hasAt lt eq ((x :: xs).map Prod.fst) k = eq x.1 k := by unfold hasAt; rw [hlb]; simp
      have hlow : ∀ y ∈ xs, lt y.1 k = false := by
        intro y hy
        cases hc : lt y.1 k with
        | false => rfl
        | true => have := O.trans _ _ _ (hp.1 y hy) hc; rw [hx'] at this; cases this
      unfold withG
      rw [hh, hlb, List.filter_cons, hx', filter_none' hlow]
      cases heq : eq x.1 k with
      | true =>
        have hk := (he _ _).1 heq
        subst hk
        rw [List.filter_cons, O.irrefl, filter_all' (l := xs) (fun y hy => hp.1 y hy)]
        simp
      | false =>
        have hkx : lt k x.1 = true := by
          cases hc : lt k x.1 with
          | true => rfl
          | false =>
            have := O.total _ _ hx' hc
            rw [(he _ _).2 this] at heq; cases heq
        rw [List.filter_cons, hkx, filter_all' (l := xs) (fun y hy => O.trans _ _ _ hkx (hp.1 y hy))]
        simp
theorem without_eq (O : StrictOrd lt) (he : ∀ a b, eq a b = true ↔ a = b) {m : List (α × β)} (hr : RisesM lt m) (k : α) :
    withoutG lt eq m k = m.filter (fun p => !eq p.1 k) := by
  induction m with
  | nil => simp [withoutG, hasAt, lb]
  | cons x xs ih =>
    have hp := List.pairwise_cons.1 (risesM_iff.1 hr)
    by_cases hx : lt x.1 k = true
    · have hne : eq x.1 k = false := by
        cases hc : eq x.1 k with
        | false => rfl
        | true => rw [(he _ _).1 hc, O.irrefl] at hx; cases hx
      have hlb : lb lt ((x :: xs).map Prod.fst) k = lb lt (xs.map Prod.fst) k + 1 := by simp [lb, List.takeWhile_cons, hx]
      have hh : hasAt lt eq ((x :: xs).map Prod.fst) k = hasAt lt eq (xs.map Prod.fst) k := by unfold hasAt; rw [hlb]; simp
      have e : withoutG lt eq (x :: xs) k = x :: withoutG lt eq xs k := by
        unfold withoutG
        rw [hh, hlb]
        split <;> simp
      rw [e, ih (risesM_iff.2 hp.2), List.filter_cons, hne]
      simp
    · have hx' : lt x.1 k = false := by simpa using hx
      have hlb : lb lt ((x :: xs).map Prod.fst) k = 0 := by simp [lb, List.takeWhile_cons, hx']
      have hh : hasAt lt eq ((x :: xs).map Prod.fst) k = eq x.1 k := by unfold hasAt; rw [hlb]; simp
      have hne : ∀ y ∈ xs, eq y.1 k = false := by
        intro y hy
        cases hc : eq y.1 k with
        | false => rfl
        | true =>
          have h1 := hp.1 y hy
          rw [(he _ _).1 hc, hx'] at h1; cases h1
      unfold withoutG
      rw [hh, hlb, List.filter_cons, filter_all' (l := xs) (fun y hy => by rw [hne y hy]; rfl)]
      cases heq : eq x.1 k <;> simp
theorem with_rises (O : StrictOrd lt) (he : ∀ a b, eq a b = true ↔ a = b) {m : List (α × β)} (hr : RisesM lt m) (k : α) (v : β) : RisesM lt (withG lt eq m k v) := by
  rw [with_eq O he hr]
  have h0 := risesM_iff.1 hr
  refine risesM_iff.2 ?_
  rw [List.append_assoc, List.pairwise_append]
  refine ⟨h0.sublist List.filter_sublist, ?_, ?_⟩
  · rw [List.cons_append, List.nil_append, List.pairwise_cons]
    exact ⟨fun y hy => (List.mem_filter.1 hy).2, h0.sublist List.filter_sublist⟩
  · intro a ha b hb
    have ha := (List.mem_filter.1 ha).2
    rcases List.mem_append.1 hb with hb | hb
    · obtain rfl : b = (k, v) := by simpa using hb
      exact ha
    · exact O.trans _ _ _ ha (List.mem_filter.1 hb).2
theorem without_rises (O : StrictOrd lt) (he : ∀ a b, eq a b = true ↔ a = b) {m : List (α × β)} (hr : RisesM lt m) (k : α) : RisesM lt (withoutG lt eq m k) := by
  rw [without_eq O he hr]
  exact risesM_iff.2 ((risesM_iff.1 hr).sublist List.filter_sublist)
/-- What is found is what is there. -/
theorem get_mem (O : StrictOrd lt) (he : ∀ a b, eq a b = true ↔ a = b) {m : List (α × β)} (hr : RisesM lt m) {k : α} {v none : β} (h : (k, v) ∈ m) : getG lt eq none m k = (v, true) := by
  obtain ⟨i, hi, hiv⟩ := List.mem_iff_getElem.1 h
  have hmk : k ∈ m.map Prod.fst := List.mem_map.2 ⟨_, h, rfl⟩
  have hh := (hasAt_iff O he hr).2 hmk
  have hki : (m.map Prod.fst)[i]'(by simpa using hi) = k := by simp [hiv]
  have hlb : lb lt (m.map Prod.fst) k = i := by
    have hl : lb lt (m.map Prod.fst) k < (m.map Prod.fst).length := by
      apply Nat.lt_of_not_le
      intro hc
      rw [hasAt_ge (by omega)] at hh; cases hh
    rw [hasAt_lt hl] at hh
    have h2 := (he _ _).1 hh
    rcases Nat.lt_trichotomy (lb lt (m.map Prod.fst) k) i with h3 | h3 | h3
    · have := List.pairwise_iff_getElem.1 hr _ _ hl (by simpa using hi) h3
      rw [h2, hki, O.irrefl] at this; cases this
    · exact h3
    · have := List.pairwise_iff_getElem.1 hr _ _ (by simpa using hi) hl h3
      rw [h2, hki, O.irrefl] at this; cases this
  unfold getG
  rw [if_pos hh, hlb, List.getD_eq_getElem?_getD, List.getElem?_map, List.getElem?_eq_getElem hi, hiv]
  rfl
theorem get_none (O : StrictOrd lt) (he : ∀ a b, eq a b = true ↔ a = b) {m : List (α × β)} (hr : RisesM lt m) {k : α} {none : β} (h : k ∉ m.map Prod.fst) : getG lt eq none m k = (none, false) := by
  unfold getG
  rw [if_neg (fun hc => h ((hasAt_iff O he hr).1 hc))]
theorem get_with (O : StrictOrd lt) (he : ∀ a b, eq a b = true ↔ a = b) {m : List (α × β)} (hr : RisesM lt m) (k : α) (v none : β) : getG lt eq none (withG lt eq m k v) k = (v, true) :=
  get_mem O he (with_rises O he hr k v) (by rw [with_eq O he hr]; simp)
theorem mem_with (O : StrictOrd lt) (he : ∀ a b, eq a b = true ↔ a = b) {m : List (α × β)} (hr : RisesM lt m) {k : α} {v : β} {p : α × β} : p ∈ withG lt eq m k v ↔ p = (k, v) ∨ (p ∈ m ∧ p.1 ≠ k) := by
  rw [with_eq O he hr]
  simp only [List.mem_append, List.mem_filter, List.mem_singleton]
  constructor
  · rintro ((⟨h1, h2⟩ | h) | ⟨h1, h2⟩)
    · exact .inr ⟨h1, fun hc => by rw [hc, O.irrefl] at h2; cases h2⟩
    · exact .inl h
    · exact .inr ⟨h1, fun hc => by rw [hc, O.irrefl] at h2; cases h2⟩
  · rintro (h | ⟨h1, h2⟩)
    · exact .inl (.inr h)
    · cases ha : lt p.1 k with
      | true => exact .inl (.inl ⟨h1, rfl⟩)
      | false =>
        cases hb : lt k p.1 with
        | true => exact .inr ⟨h1, rfl⟩
        | false => exact absurd (O.total _ _ ha hb) h2
end
end Go.Proofs.Ytfkpjdcjjfpigaa
