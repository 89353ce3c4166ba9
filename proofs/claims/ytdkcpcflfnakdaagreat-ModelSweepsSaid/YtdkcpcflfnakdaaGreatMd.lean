/- A text of the walk that proves a law of this seat; joined by a program. -/
import Derived.Test.YtdkcpcflfnakdaaGreatMc
import Derived.Test.YtdkcpcflfnakdaaGreatMb
import Derived.Test.YtdkcpcflfnakdaaGreatSymZi
set_option linter.unusedSimpArgs false
set_option linter.unusedVariables false
namespace Go.Proofs.YtdkcpcflfnakdaaGreat
open Go Go.Proofs.YtdkcpcflfnakdaaGreat.Sym
set_option maxRecDepth 100000
set_option maxHeartbeats 1000000
structure Cf where
  s : Int
  k : Int
  q : Int
  w : Int
  r : Int
  e : Int
  st : Int
structure Tm where
  now : Int
  seq : Int
  cl : Bool
  deriving DecidableEq
structure Md where
  c : Cf
  t : Tm
  b : Nat → Bk
  f : Nat → Fd
def fb (j : Nat) : Nat := 3 + 17 * j
def mlen (n : Nat) : Nat := 3 + 17 * n
def ptrs (n pad : Nat) : List AV := (List.range n).map (fun j => .ptr (fb j) 0) ++ List.replicate pad .any
def bkRow (n : Nat) (b : Nat → Bk) : List AV := (List.range n).map fun j => q0n (b j)
def fblk (o : Nat) (F : Fd) : List AB := renM (List.range' o 17) (feedM F)
def feedsM (f : Nat → Fd) : Nat → Nat → List AB
  | 0, _ => []
  | n + 1, j => fblk (fb j) (f j) ++ feedsM f n (j + 1)
def modM (n pad : Nat) (M : Md) : List AB :=
  .box [i64 M.c.s, i64 M.c.k, i64 M.c.q, i64 M.c.w, i64 M.c.r, u64 M.c.e, u64 M.c.st, u64 M.t.now, u64 M.t.seq, bool M.t.cl, .own 1 2 0 n, .own 2 1 0 n] ::
    .row 87 2 (bkRow n M.b) :: .box (ptrs n pad) :: feedsM M.f n 0
def Md.setF (M : Md) (s : Nat) (F : Fd) : Md := { M with f := fun j => if j = s then F else M.f j }
def Md.setB (M : Md) (s : Nat) (b : Bk) : Md := { M with b := fun j => if j = s then b else M.b j }
theorem fblk_len (o : Nat) (F : Fd) : (fblk o F).length = 17 := by rw [fblk, q1h, q22]
theorem feedsM_len (f : Nat → Fd) : ∀ n j, (feedsM f n j).length = 17 * n
  | 0, _ => rfl
  | n + 1, j => by rw [feedsM, List.length_append, fblk_len, feedsM_len f n (j + 1)]; omega
theorem feedsM_get (f : Nat → Fd) : ∀ n j s i, s < n → i < 17 → (feedsM f n j)[17 * s + i]? = ((feedM (f (j + s)))[i]?).map (AB.ren (List.range' (fb (j + s)) 17))
  | 0, _, _, _, h, _ => by omega
  | n + 1, j, 0, i, _, hi => by
    rw [feedsM, List.getElem?_append_left (by rw [fblk_len]; omega), fblk, q2c]
    simp only [Nat.mul_zero, Nat.zero_add, Nat.add_zero]
  | n + 1, j, s + 1, i, h, hi => by
    rw [feedsM, List.getElem?_append_right (by rw [fblk_len]; omega), fblk_len, show 17 * (s + 1) + i - 17 = 17 * s + i by omega, feedsM_get f n (j + 1) s i (by omega) hi, show j + 1 + s = j + (s + 1) by omega]
section
variable (n pad : Nat) (M : Md) (r : List AB)
theorem q0c : (modM n pad M).length = mlen n := by simp only [modM, List.length_cons, feedsM_len, mlen]; omega
theorem mm_alen : (modM n pad M ++ r).length = mlen n + r.length := by rw [List.length_append, q0c]
theorem mm_add (r' : List AB) : (modM n pad M ++ r) ++ r' = modM n pad M ++ (r ++ r') := List.append_assoc _ _ _
theorem mm_0 : (modM n pad M ++ r)[0]? = some (.box [i64 M.c.s, i64 M.c.k, i64 M.c.q, i64 M.c.w, i64 M.c.r, u64 M.c.e, u64 M.c.st, u64 M.t.now, u64 M.t.seq, bool M.t.cl, .own 1 2 0 n, .own 2 1 0 n]) := rfl
theorem mm_1 : (modM n pad M ++ r)[1]? = some (.row 87 2 (bkRow n M.b)) := rfl
theorem mm_2 : (modM n pad M ++ r)[2]? = some (.box (ptrs n pad)) := rfl
theorem mm_0n : (modM n pad M)[0]? = some (.box [i64 M.c.s, i64 M.c.k, i64 M.c.q, i64 M.c.w, i64 M.c.r, u64 M.c.e, u64 M.c.st, u64 M.t.now, u64 M.t.seq, bool M.t.cl, .own 1 2 0 n, .own 2 1 0 n]) := rfl
theorem mm_1n : (modM n pad M)[1]? = some (.row 87 2 (bkRow n M.b)) := rfl
theorem mm_2n : (modM n pad M)[2]? = some (.box (ptrs n pad)) := rfl
theorem mm_at (k : Nat) : (modM n pad M ++ r)[mlen n + k]? = r[k]? := by
  rw [List.getElem?_append_right (by rw [q0c]; omega), q0c, show mlen n + k - mlen n = k by omega]
theorem mm_at0 : (modM n pad M ++ r)[mlen n]? = r[0]? := mm_at n pad M r 0
theorem mm_at1 : (modM n pad M ++ r)[mlen n + 1]? = r[1]? := mm_at n pad M r 1
theorem mm_at2 : (modM n pad M ++ r)[mlen n + 2]? = r[2]? := mm_at n pad M r 2
theorem mm_at3 : (modM n pad M ++ r)[mlen n + 3]? = r[3]? := mm_at n pad M r 3
theorem mm_at4 : (modM n pad M ++ r)[mlen n + 4]? = r[4]? := mm_at n pad M r 4
theorem mm_s (k : Nat) (x : AB) : (modM n pad M ++ r).set (mlen n + k) x = modM n pad M ++ r.set k x := by
  rw [List.set_append_right _ _ (by rw [q0c]; omega), q0c, show mlen n + k - mlen n = k by omega]
theorem mm_s0 {x : AB} : (modM n pad M ++ r).set (mlen n) x = modM n pad M ++ r.set 0 x := mm_s n pad M r 0 x
theorem mm_s1 {x : AB} : (modM n pad M ++ r).set (mlen n + 1) x = modM n pad M ++ r.set 1 x := mm_s n pad M r 1 x
theorem mm_s2 {x : AB} : (modM n pad M ++ r).set (mlen n + 2) x = modM n pad M ++ r.set 2 x := mm_s n pad M r 2 x
theorem mm_s3 {x : AB} : (modM n pad M ++ r).set (mlen n + 3) x = modM n pad M ++ r.set 3 x := mm_s n pad M r 3 x
theorem mm_setT {a b : Int} {c : Bool} : (modM n pad M ++ r).set 0 (.box [i64 M.c.s, i64 M.c.k, i64 M.c.q, i64 M.c.w, i64 M.c.r, u64 M.c.e, u64 M.c.st, u64 a, u64 b, bool c, .own 1 2 0 n, .own 2 1 0 n]) = modM n pad { M with t := ⟨a, b, c⟩ } ++ r := rfl
theorem mm_setTn {a b : Int} {c : Bool} : (modM n pad M).set 0 (.box [i64 M.c.s, i64 M.c.k, i64 M.c.q, i64 M.c.w, i64 M.c.r, u64 M.c.e, u64 M.c.st, u64 a, u64 b, bool c, .own 1 2 0 n, .own 2 1 0 n]) = modM n pad { M with t := ⟨a, b, c⟩ } := rfl
end
theorem q3p (n : Nat) (b : Nat → Bk) : (bkRow n b).length = n := by simp [bkRow]
theorem bk_at {n s : Nat} (b : Nat → Bk) (h : s < n) : (bkRow n b).getD (Int.toNat (s : Int)) .any = .agg [.sl 1 ((b s).map fun p => str p.1), .sl 4 ((b s).map fun p => En.av p.2)] := by
  simp [bkRow, List.getD_eq_getElem?_getD, h, q0n]
theorem bk_set {n s : Nat} (b : Nat → Bk) (v : Bk) (h : s < n) : (bkRow n b).set (Int.toNat (s : Int)) (.agg [.sl 1 (v.map fun p => str p.1), .sl 4 (v.map fun p => En.av p.2)]) = bkRow n (fun j => if j = s then v else b j) := by
  apply List.ext_getElem?
  intro i
  simp only [bkRow, List.getElem?_set, List.getElem?_map, Int.toNat_natCast, List.length_map, List.length_range]
  by_cases e : s = i
  · subst e
    simp [h, q0n]
  · rw [if_neg e]
    by_cases hi : i < n
    · simp [hi, Ne.symm e]
    · simp [hi]
theorem mm_setB {n pad s : Nat} (M : Md) (r : List AB) (v : Bk) (h : s < n) : (modM n pad M ++ r).set 1 (.row 87 2 ((bkRow n M.b).set (Int.toNat (s : Int)) (.agg [.sl 1 (v.map fun p => str p.1), .sl 4 (v.map fun p => En.av p.2)]))) = modM n pad (M.setB s v) ++ r := by
  rw [bk_set M.b v h]; rfl
theorem ptr_drop {n pad s : Nat} (h : s < n) : (List.drop (s * 1) (ptrs n pad)).headD .any = .ptr (fb s) 0 ∧ 0 < (List.drop (s * 1) (ptrs n pad)).length := by
  have hl : s * 1 < (ptrs n pad).length := by simp [ptrs]; omega
  refine ⟨?_, by rw [List.length_drop]; omega⟩
  rw [List.drop_eq_getElem_cons hl, List.headD_cons]
  simp only [ptrs, Nat.mul_one]
  rw [List.getElem_append_left (by simpa using h)]
  simp
def kpM (n b : Nat) : Bool := decide (b < 3) || decide (mlen n ≤ b) || decide ((b - 3) % 17 < 9)
def AB.calm (n : Nat) : AB → Bool
  | .box cs => (q03 cs).all (fun b => decide (b < 3) || decide (mlen n ≤ b))
  | _ => true
theorem q1c {o k b : Nat} : b ∈ List.range' o k ↔ o ≤ b ∧ b < o + k := by rw [List.mem_range'_1]
theorem q1y {o k i : Nat} (h : i < k) : (List.range' o k)[i]? = some (o + i) := by rw [List.getElem?_range' h]; simp
theorem q3n {kp : Nat → Bool} {bs : List Nat} : ∀ {m : List AB} {b0 : Nat}, (∀ i cs, m[i]? = some (.box cs) → b0 + i ∈ bs ∨ (q03 cs).all kp = true) → outOk kp bs b0 m = true
  | [], _, _ => rfl
  | .box cs :: m, b0, h => by
    rw [outOk, Bool.and_eq_true, Bool.or_eq_true]
    refine ⟨(h 0 cs rfl).imp (fun h => by simpa using h) _root_.id, q3n fun i cs' hi => ?_⟩
    have := h (i + 1) cs' hi
    rwa [show b0 + (i + 1) = b0 + 1 + i by omega] at this
  | .row _ _ _ :: m, b0, h => q3n (m := m) (b0 := b0 + 1) fun i cs' hi => by have := h (i + 1) cs' hi; rwa [show b0 + (i + 1) = b0 + 1 + i by omega] at this
  | .rowc _ _ _ _ :: m, b0, h => q3n (m := m) (b0 := b0 + 1) fun i cs' hi => by have := h (i + 1) cs' hi; rwa [show b0 + (i + 1) = b0 + 1 + i by omega] at this
  | .gone :: m, b0, h => q3n (m := m) (b0 := b0 + 1) fun i cs' hi => by have := h (i + 1) cs' hi; rwa [show b0 + (i + 1) = b0 + 1 + i by omega] at this
  | .tr _ _ :: m, b0, h => q3n (m := m) (b0 := b0 + 1) fun i cs' hi => by have := h (i + 1) cs' hi; rwa [show b0 + (i + 1) = b0 + 1 + i by omega] at this
mutual
theorem bks_ren {o k : Nat} : ∀ (x : AV), (bks x).all (fun b => decide (b < k)) = true → ∀ b ∈ bks (ren (List.range' o k) x), ∃ c < k, b = o + c ∧ c ∈ bks x
  | .v _, _, b, hb => by simp [ren, bks] at hb
  | .agg xs, h, b, hb => q39 xs h b hb
  | .tup xs, h, b, hb => q39 xs h b hb
  | .sl _ _, _, b, hb => by simp [ren, bks] at hb
  | .rp _, _, b, hb => by simp [ren, bks] at hb
  | .own c _ _ _, h, b, hb => by
    simp only [bks, List.all_cons, List.all_nil, Bool.and_true, decide_eq_true_eq] at h
    simp only [ren, bks, List.mem_singleton, q2w h] at hb
    exact ⟨c, h, hb, by simp [bks]⟩
  | .ptr c _, h, b, hb => by
    simp only [bks, List.all_cons, List.all_nil, Bool.and_true, decide_eq_true_eq] at h
    simp only [ren, bks, List.mem_singleton, q2w h] at hb
    exact ⟨c, h, hb, by simp [bks]⟩
  | .ep c _ _ _, h, b, hb => by
    simp only [bks, List.all_cons, List.all_nil, Bool.and_true, decide_eq_true_eq] at h
    simp only [ren, bks, List.mem_singleton, q2w h] at hb
    exact ⟨c, h, hb, by simp [bks]⟩
  | .fn f caps, h, b, hb => q39 caps h b hb
  | .any, _, b, hb => by simp [ren, bks] at hb
theorem q39 {o k : Nat} : ∀ (xs : List AV), (q03 xs).all (fun b => decide (b < k)) = true → ∀ b ∈ q03 (q0e (List.range' o k) xs), ∃ c < k, b = o + c ∧ c ∈ q03 xs
  | [], _, b, hb => by simp [q0e, q03] at hb
  | x :: xs, h, b, hb => by
    simp only [q03, List.all_append, Bool.and_eq_true] at h
    simp only [q0e, q03, List.mem_append] at hb ⊢
    rcases hb with hb | hb
    · obtain ⟨c, h1, h2, h3⟩ := bks_ren x h.1 b hb; exact ⟨c, h1, h2, .inl h3⟩
    · obtain ⟨c, h1, h2, h3⟩ := q39 xs h.2 b hb; exact ⟨c, h1, h2, .inr h3⟩
end
theorem ptrs_bks (n pad : Nat) : ∀ b ∈ q03 (ptrs n pad), ∃ j < n, b = fb j := by
  have h1 : ∀ (l : List Nat) b, b ∈ q03 (l.map (fun j => AV.ptr (fb j) 0)) → ∃ j ∈ l, b = fb j := by
    intro l b hb
    induction l with
    | nil => simp [q03] at hb
    | cons j l ih =>
      simp only [List.map_cons, q03, bks, List.mem_append, List.mem_singleton] at hb
      rcases hb with rfl | hb
      · exact ⟨j, by simp, rfl⟩
      · obtain ⟨k, hk, e⟩ := ih hb; exact ⟨k, by simp [hk], e⟩
  have h2 : ∀ k, q03 (List.replicate k AV.any) = [] := by
    intro k
    induction k with
    | zero => rfl
    | succ k ih => simp [List.replicate_succ, q03, bks, ih]
  intro b hb
  rw [ptrs, q41, h2, List.append_nil] at hb
  obtain ⟨j, hj, e⟩ := h1 _ b hb
  exact ⟨j, by simpa using hj, e⟩
theorem feed_inR (F : Fd) : (feedM F).all (AB.inR 17) = true := by rfl
theorem feed_box {F : Fd} {i : Nat} {cs : List AV} (h : (feedM F)[i]? = some (.box cs)) : (q03 cs).all (fun b => decide (b < 17)) = true := by
  have := List.all_eq_true.1 (feed_inR F) _ (List.mem_of_getElem? h)
  exact this
theorem mm_feed {n pad s i : Nat} (M : Md) (r : List AB) (h : s < n) (hi : i < 17) : (modM n pad M ++ r)[fb s + i]? = ((feedM (M.f s))[i]?).map (AB.ren (List.range' (fb s) 17)) := by
  have h2 := q0c n pad M
  rw [List.getElem?_append_left (by rw [h2]; simp only [mlen, fb]; omega), modM, show fb s + i = 17 * s + i + 1 + 1 + 1 by simp only [fb]; omega]
  simp only [List.getElem?_cons_succ]
  rw [feedsM_get M.f n 0 s i h hi, Nat.zero_add]
theorem mm_split {n pad i : Nat} {M : Md} {r : List AB} : i < 3 ∨ (∃ s j, s < n ∧ j < 17 ∧ i = fb s + j) ∨ mlen n ≤ i := by
  by_cases h1 : i < 3
  · exact .inl h1
  · by_cases h2 : mlen n ≤ i
    · exact .inr (.inr h2)
    · refine .inr (.inl ⟨(i - 3) / 17, (i - 3) % 17, ?_, Nat.mod_lt _ (by decide), ?_⟩)
      · simp only [mlen] at h2; omega
      · simp only [fb]; omega
theorem mm_put {n pad s : Nat} (M : Md) (r : List AB) (F' : Fd) (h : s < n) : putL (modM n pad M ++ r) (List.range' (fb s) 17) (renM (List.range' (fb s) 17) (feedM F')) = modM n pad (M.setF s F') ++ r := by
  apply List.ext_getElem?
  intro i
  have hmem : ∀ j, j < 17 → fb s + j < (modM n pad M ++ r).length := fun j hj => by rw [mm_alen]; simp only [fb, mlen]; omega
  by_cases hi : i ∈ List.range' (fb s) 17
  · obtain ⟨a, b⟩ := q1c.1 hi
    have hj : i - fb s < 17 := by omega
    have hg : (feedM F')[i - fb s]? = some ((feedM F')[i - fb s]'(by rw [q22]; exact hj)) := List.getElem?_eq_getElem _
    rw [putL_in _ _ _ (i - fb s) i (AB.ren (List.range' (fb s) 17) ((feedM F')[i - fb s]'(by rw [q22]; exact hj))) List.nodup_range' (by rw [q1y hj]; congr 1; omega) (by rw [q2c, hg]; rfl) (by have := hmem _ hj; rwa [show fb s + (i - fb s) = i by omega] at this)]
    have := mm_feed (M.setF s F') r h hj (pad := pad)
    rw [show fb s + (i - fb s) = i by omega] at this
    rw [this]
    simp only [Md.setF, if_true]
    rw [hg]; rfl
  · rw [q3t _ _ _ _ hi]
    rcases mm_split (n := n) (pad := pad) (i := i) (M := M) (r := r) with h1 | ⟨s', j, h1, h2, rfl⟩ | h1
    · have c : i = 0 ∨ i = 1 ∨ i = 2 := by omega
      rcases c with rfl | rfl | rfl <;> rfl
    · rw [mm_feed M r h1 h2, mm_feed (M.setF s F') r h1 h2]
      have hne : s' ≠ s := by
        rintro rfl
        exact hi (q1c.2 ⟨by omega, by omega⟩)
      simp only [Md.setF, if_neg hne]
    · obtain ⟨k, rfl⟩ := Nat.exists_eq_add_of_le h1
      rw [mm_at, mm_at]
theorem feed_in {g : FuncId} {args0 args : List AV} {K0 K : AV → List AB → Prop} {n pad s : Nat} (M : Md) (r : List AB) (hs : s < n) (h : q0j P (fun b => decide (b < 9)) g (feedM (M.f s)) args0 K0) (ha : args = q0e (List.range' (fb s) 17) args0) (hb : (q03 args0).all (fun b => decide (b < 17)) = true) (hr : r.all (AB.calm n) = true)
    (hK : ∀ x m', K0 x m' → ∃ F', m' = feedM F' ∧ K (ren (List.range' (fb s) 17) x) (modM n pad (M.setF s F') ++ r)) : q0j P (kpM n) g (modM n pad M ++ r) args K := by
  have hin : ∀ b, b < 3 ∨ mlen n ≤ b → b ∉ List.range' (fb s) 17 := fun b hb hm => by
    obtain ⟨h1, h2⟩ := q1c.1 hm
    simp only [fb, mlen] at *
    omega
  have hkp : ∀ b, kpM n b = true → kpOf (fun b => decide (b < 9)) (List.range' (fb s) 17) 0 b = true := by
    intro b hb
    by_cases hm : b ∈ List.range' (fb s) 17
    · obtain ⟨h1, h2⟩ := q1c.1 hm
      rw [kpOf_in (j := b - fb s) List.nodup_range' (by rw [q1y (by omega)]; congr 1; omega)]
      simp only [kpM, Bool.or_eq_true, decide_eq_true_eq] at hb
      simp only [decide_eq_true_eq]
      simp only [fb, mlen] at *
      omega
    · exact q3q hm
  refine q0j.keeps (kp := kpOf (fun b => decide (b < 9)) (List.range' (fb s) 17) 0) ?_ (fun b _ hb => hkp b hb)
  refine h.frame (List.range' (fb s) 17) List.nodup_range' ?_ ha (by rw [List.length_range']; exact hb) (by rw [List.length_range']; exact feed_inR _) ?_ ?_
  · apply List.ext_getElem?
    intro i
    by_cases hi : i < 17
    · rw [List.getElem?_map, q1y hi, List.getElem?_map, q2c]
      simp only [Option.map_some]
      rw [mm_feed M r hs hi]
      have hg : (feedM (M.f s))[i]? = some ((feedM (M.f s))[i]'(by rw [q22]; exact hi)) := List.getElem?_eq_getElem _
      rw [hg]; rfl
    · rw [List.getElem?_eq_none (by simp; omega), List.getElem?_eq_none (by simp [q1h, q22]; omega)]
  · refine q3n fun i cs hi => ?_
    rw [Nat.zero_add]
    by_cases hm : i ∈ List.range' (fb s) 17
    · exact .inl hm
    refine .inr (List.all_eq_true.2 fun b hb => ?_)
    rcases mm_split (n := n) (pad := pad) (i := i) (M := M) (r := r) with h1 | ⟨s', j, h1, h2, rfl⟩ | h1
    · have c : i = 0 ∨ i = 1 ∨ i = 2 := by omega
      rcases c with rfl | rfl | rfl
      · rw [mm_0] at hi; cases hi
        simp only [q03, bks, List.nil_append, List.append_nil, List.not_mem_nil, or_false, List.cons_append, List.mem_cons] at hb
        exact q3q (hin b (.inl (by omega)))
      · rw [mm_1] at hi; cases hi
      · rw [mm_2] at hi; cases hi
        obtain ⟨j, hj, rfl⟩ := ptrs_bks n pad b hb
        refine hkp _ ?_
        have hf : (fb j - 3) % 17 < 9 := by simp only [fb]; omega
        simp only [kpM, hf, decide_true, Bool.or_true]
    · rw [mm_feed M r h1 h2] at hi
      cases hg : (feedM (M.f s'))[j]? with
      | none => rw [hg] at hi; cases hi
      | some blk =>
        rw [hg] at hi
        simp only [Option.map_some, Option.some.injEq] at hi
        cases blk with
        | box cs0 =>
          simp only [AB.ren, AB.box.injEq] at hi
          subst hi
          obtain ⟨c, hc, rfl, _⟩ := q39 cs0 (feed_box hg) b hb
          have hne : s' ≠ s := by
            rintro rfl
            exact hm (q1c.2 ⟨by omega, by omega⟩)
          exact q3q fun hmm => by
            obtain ⟨q1, q2⟩ := q1c.1 hmm
            simp only [fb] at q1 q2
            omega
        | row _ _ _ => simp [AB.ren] at hi
        | rowc _ _ _ _ => simp [AB.ren] at hi
        | gone => simp [AB.ren] at hi
        | tr _ _ => simp [AB.ren] at hi
    · obtain ⟨k, rfl⟩ := Nat.exists_eq_add_of_le h1
      rw [mm_at] at hi
      have := List.all_eq_true.1 hr _ (List.mem_of_getElem? hi)
      have := List.all_eq_true.1 this b hb
      simp only [Bool.or_eq_true, decide_eq_true_eq] at this
      exact q3q (hin b this)
  · intro x m' hx
    obtain ⟨F', rfl, hv⟩ := hK x m' hx
    exact ⟨rfl, by rw [mm_put M r F' hs]; exact hv⟩
theorem feed_inA {g : FuncId} {args0 args : List AV} {K0 K : AV → List AB → Prop} {n pad s : Nat} (M : Md) (r : List AB) (hs : s < n) (h : ACall P g (feedM (M.f s)) args0 K0) (ha : args = q0e (List.range' (fb s) 17) args0) (hb : (q03 args0).all (fun b => decide (b < 17)) = true)
    (hK : ∀ x m', K0 x m' → ∃ F', m' = feedM F' ∧ K (ren (List.range' (fb s) 17) x) (modM n pad (M.setF s F') ++ r)) : ACall P g (modM n pad M ++ r) args K := by
  refine h.frame (List.range' (fb s) 17) List.nodup_range' ?_ ha (by rw [List.length_range']; exact hb) (by rw [List.length_range']; exact feed_inR _) ?_
  · apply List.ext_getElem?
    intro i
    by_cases hi : i < 17
    · rw [List.getElem?_map, q1y hi, List.getElem?_map, q2c]
      simp only [Option.map_some]
      rw [mm_feed M r hs hi]
      have hg : (feedM (M.f s))[i]? = some ((feedM (M.f s))[i]'(by rw [q22]; exact hi)) := List.getElem?_eq_getElem _
      rw [hg]; rfl
    · rw [List.getElem?_eq_none (by simp; omega), List.getElem?_eq_none (by simp [q1h, q22]; omega)]
  · intro x m' hx
    obtain ⟨F', rfl, hv⟩ := hK x m' hx
    exact ⟨rfl, by rw [mm_put M r F' hs]; exact hv⟩
theorem setF_same (M : Md) (s : Nat) : M.setF s (M.f s) = M := by
  cases M with
  | mk c t b f =>
    simp only [Md.setF, Md.mk.injEq, true_and]
    funext j
    split
    · rename_i h; rw [h]
    · rfl
end Go.Proofs.YtdkcpcflfnakdaaGreat
namespace Go.Proofs.YtdkcpcflfnakdaaGreat
open Go Go.Proofs.YtdkcpcflfnakdaaGreat.Sym
set_option maxRecDepth 100000
set_option maxHeartbeats 1000000
def hashStep (h : Int) (c : UInt8) : Int := IntKind.u64.wrap (xorF .u64 h (IntKind.u64.wrap (c.toNat : Int)) * 1099511628211)
def hashN (u : ByteArray) : Nat → Int
  | 0 => 14695981039346656037
  | i + 1 => hashStep (hashN u i) (u.data.getD i 0)
def hashF (u : ByteArray) : Int := hashN u u.size
theorem hashF_ok (u : ByteArray) : 0 ≤ hashF u ∧ hashF u < 18446744073709551616 := by
  unfold hashF
  cases u.size with
  | zero => simp only [hashN]; omega
  | succ i =>
    simp only [hashN, hashStep]
    rw [IntKind.wrap_u64]
    omega
theorem hash_Of (u : ByteArray) (hl : u.size ≤ 1000000) : PCall P 100 [str u] (fun x => x = u64 (hashF u)) := by
  refine q0d tyOk Tryz.func100 rfl rfl ?_
  intro K hK
  simp only [Tryz.ntmps100, List.length_cons, List.length_nil, Nat.reduceAdd, Nat.reduceSub, List.replicate, List.cons_append, List.nil_append]
  try simp only [seval, go_sem]
  refine q12 tyOk (α := Nat) 0 [0, 3, 6, 7] (fun i => i ≤ u.size)
    (fun i => ⟨[str u, .any, .any, u64 (hashN u i), .any, .any, i64 u.size, i64 i, .any, .any, .any, .any, .any, .any, .any, .any, .any, .any, .any, .any], []⟩)
    (fun i => u.size - i) 0 (Nat.zero_le _) (Nat.zero_le _) rfl ?_
  intro i hi
  try simp only [seval, go_sem]
  (first | refine q05 ?_ ?_ | refine q08 ?_ ?_ | refine q09 ?_ ?_ | refine q07 ?_ ?_ | refine q06 ?_ ?_) <;> intro h <;> try simp only [seval, go_sem]
  · have hlt : i < u.size := by simpa using h
    have c1 : (0 : Int) ≤ (i : Int) ∧ Int.toNat (i : Int) < u.size := by omega
    have ew : IntKind.i64.wrap ((i : Int) + 1) = ((i + 1 : Nat) : Int) := by rw [wrap_i64 (by omega) (by omega)]; rfl
    try simp only [seval, go_sem, c1, ew]
    simp only [q0f, St.trunc, St.keep, q00, q01, keepV, List.elem_cons, List.elem_nil, List.take_zero, List.map_nil, Nat.reduceAdd, Nat.reduceBEq, Nat.zero_add, Bool.false_eq_true, ↓reduceIte]
    exact ⟨i + 1, hlt, by omega, rfl⟩
  · have hge : i = u.size := by have : ¬ ((i : Int) < (u.size : Int)) := by simpa using h
                                omega
    subst hge
    apply hK
    simp only [Tryz.results100, retK, ares, List.take_nil, Bool.and_true, Bool.true_and, AV.ofResults, St.trunc, q00, q01, List.getD_cons_zero, List.getD_cons_succ, List.map_nil, true_and, and_true, List.cons.injEq, exists_eq_left']
    rfl
def strI (n : Int) (u : ByteArray) : Int := (hashF u).tmod n
theorem strI_ok {n : Int} (h1 : 1 ≤ n) (h2 : n ≤ 1000) (u : ByteArray) : 0 ≤ strI n u ∧ strI n u < n := by
  have := hashF_ok u
  unfold strI
  rw [Int.tmod_eq_emod_of_nonneg this.1]
  exact ⟨Int.emod_nonneg _ (by omega), Int.emod_lt_of_pos _ (by omega)⟩
theorem hash_Stripe (u : ByteArray) (n : Int) (hl : u.size ≤ 1000000) (h1 : 1 ≤ n) (h2 : n ≤ 1000) : PCall P 72 [str u, i64 n] (fun x => x = i64 (strI n u)) := by
  refine q0d tyOk Tryz.func72 rfl rfl ?_
  intro K hK
  simp only [Tryz.ntmps72, List.length_cons, List.length_nil, Nat.reduceAdd, Nat.reduceSub, List.replicate, List.cons_append, List.nil_append]
  have d1 : decide (n < 1) = false := decide_eq_false (by omega)
  have w1 : IntKind.u64.wrap n = n := by rw [IntKind.wrap_u64]; omega
  have hs := strI_ok h1 h2 u
  have w2 : IntKind.i64.wrap ((hashF u).tmod n) = strI n u := (by rw [IntKind.wrap_i64]; unfold strI at *; omega)
  have hn : ¬ n = 0 := by omega
  try simp only [seval, go_sem, d1]
  (refine q02 (hash_Of u hl) rfl ?_; rintro _ rfl)
  try simp only [seval, go_sem, w1, w2, hn]
  apply hK
  simp only [Tryz.results72, retK, ares, List.take_nil, Bool.and_true, Bool.true_and, AV.ofResults, St.trunc, q00, q01, List.getD_cons_zero, List.getD_cons_succ, List.map_nil, true_and, and_true, List.cons.injEq, exists_eq_left']
def nameB (u : ByteArray) : Bool := (!(u.toList == ByteArray.toList ⟨#[]⟩)) && decide ((u.size : Int) ≤ 16)
theorem q3z (u : ByteArray) : PCall P 34 [str u] (fun x => x = bool (nameB u)) := by
  refine q0d tyOk Tryz.func34 rfl rfl ?_
  intro K hK
  simp only [Tryz.ntmps34, List.length_cons, List.length_nil, Nat.reduceAdd, Nat.reduceSub, List.replicate, List.cons_append, List.nil_append]
  try simp only [seval, go_sem]
  unfold nameB at hK
  (first | refine q05 ?_ ?_ | refine q08 ?_ ?_ | refine q09 ?_ ?_ | refine q07 ?_ ?_ | refine q06 ?_ ?_) <;> intro h
  · rw [h] at hK
    try simp only [seval, go_sem]
    apply hK
    simp only [Tryz.results34, retK, ares, List.take_nil, Bool.and_true, Bool.true_and, AV.ofResults, St.trunc, q00, q01, List.getD_cons_zero, List.getD_cons_succ, List.map_nil, true_and, and_true, List.cons.injEq, exists_eq_left']
    try rw [Bool.true_and]
  · rw [h] at hK
    try simp only [seval, go_sem]
    apply hK
    simp only [Tryz.results34, retK, ares, List.take_nil, Bool.and_true, Bool.true_and, AV.ofResults, St.trunc, q00, q01, List.getD_cons_zero, List.getD_cons_succ, List.map_nil, true_and, and_true, List.cons.injEq, exists_eq_left']
    try rw [Bool.false_and]
theorem tick_Pass (t : Tm) (by_ : Int) : PCall P 77 [.agg [u64 t.now, u64 t.seq, bool t.cl], u64 by_] (fun x => x = .agg [u64 (addW t.now by_), u64 t.seq, bool t.cl]) := by
  refine q0d tyOk Tryz.func77 rfl rfl ?_
  intro K hK
  simp only [Tryz.ntmps77, List.length_cons, List.length_nil, Nat.reduceAdd, Nat.reduceSub, List.replicate, List.cons_append, List.nil_append]
  try simp only [seval, go_sem]
  (refine q02 (tick_Add t.now by_) rfl ?_; rintro _ rfl)
  try simp only [seval, go_sem]
  apply hK
  simp only [Tryz.results77, retK, ares, List.take_nil, Bool.and_true, Bool.true_and, AV.ofResults, St.trunc, q00, q01, aload, acell, T, TI.isAgg, List.getD_cons_zero, List.getD_cons_succ, List.take_zero, List.take_succ_cons, List.drop_zero, List.map_nil, List.getElem?_cons_zero, List.getElem?_cons_succ, List.length_cons, List.length_nil, Nat.reduceAdd, Nat.le_refl, true_and, and_true, ↓reduceIte, List.cons.injEq, exists_eq_left']
theorem tick_Shut (t : Tm) : PCall P 44 [.agg [u64 t.now, u64 t.seq, bool t.cl]] (fun x => x = .agg [u64 t.now, u64 t.seq, bool true]) := by
  refine q0d tyOk Tryz.func44 rfl rfl ?_
  intro K hK
  simp only [Tryz.ntmps44, List.length_cons, List.length_nil, Nat.reduceAdd, Nat.reduceSub, List.replicate, List.cons_append, List.nil_append]
  try simp only [seval, go_sem]
  apply hK
  simp only [Tryz.results44, retK, ares, List.take_nil, Bool.and_true, Bool.true_and, AV.ofResults, St.trunc, q00, q01, aload, acell, T, TI.isAgg, List.getD_cons_zero, List.getD_cons_succ, List.take_zero, List.take_succ_cons, List.drop_zero, List.map_nil, List.getElem?_cons_zero, List.getElem?_cons_succ, List.length_cons, List.length_nil, Nat.reduceAdd, Nat.le_refl, true_and, and_true, ↓reduceIte, List.cons.injEq, exists_eq_left']
theorem tick_Take (t : Tm) : PCall P 90 [.agg [u64 t.now, u64 t.seq, bool t.cl]] (fun x => x = .tup [.agg [u64 t.now, u64 (addW t.seq 1), bool t.cl], u64 (addW t.seq 1)]) := by
  refine q0d tyOk Tryz.func90 rfl rfl ?_
  intro K hK
  simp only [Tryz.ntmps90, List.length_cons, List.length_nil, Nat.reduceAdd, Nat.reduceSub, List.replicate, List.cons_append, List.nil_append]
  try simp only [seval, go_sem]
  (refine q02 (tick_Add t.seq 1) rfl ?_; rintro _ rfl)
  try simp only [seval, go_sem]
  refine q0k tyOk (by rfl) (by simp only [List.length_cons, List.length_nil, Nat.reduceAdd, Nat.zero_le]) (by kernel_rfl) rfl ?_
  try simp only [seval, go_sem]
  refine ⟨by kernel_rfl, ?_⟩
  try simp only [seval, go_sem]
  apply hK
  simp only [Tryz.results90, retK, ares, List.take_nil, Bool.and_true, Bool.true_and, AV.ofResults, St.trunc, q00, q01, aload, acell, T, TI.isAgg, List.getD_cons_zero, List.getD_cons_succ, List.take_zero, List.take_succ_cons, List.drop_zero, List.map_nil, List.getElem?_cons_zero, List.getElem?_cons_succ, List.length_cons, List.length_nil, Nat.reduceAdd, Nat.le_refl, true_and, and_true, ↓reduceIte, List.cons.injEq, exists_eq_left']
def inB (n low high : Int) : Bool := decide (low ≤ n) && decide (n ≤ high)
theorem q2j (n low high : Int) : PCall P 36 [i64 n, i64 low, i64 high] (fun x => x = bool (inB n low high)) := by
  refine q0d tyOk Tryz.func36 rfl rfl ?_
  intro K hK
  simp only [Tryz.ntmps36, List.length_cons, List.length_nil, Nat.reduceAdd, Nat.reduceSub, List.replicate, List.cons_append, List.nil_append]
  try simp only [seval, go_sem]
  unfold inB at hK
  (first | refine q05 ?_ ?_ | refine q08 ?_ ?_ | refine q09 ?_ ?_ | refine q07 ?_ ?_ | refine q06 ?_ ?_) <;> intro h
  · have h : decide (low ≤ n) = true := h
    rw [h] at hK
    try simp only [seval, go_sem]
    apply hK
    simp only [Tryz.results36, retK, ares, List.take_nil, Bool.and_true, Bool.true_and, AV.ofResults, St.trunc, q00, q01, List.getD_cons_zero, List.getD_cons_succ, List.map_nil, true_and, and_true, List.cons.injEq, exists_eq_left']
    try rw [Bool.true_and]
  · have h : decide (low ≤ n) = false := h
    rw [h] at hK
    try simp only [seval, go_sem]
    apply hK
    simp only [Tryz.results36, retK, ares, List.take_nil, Bool.and_true, Bool.true_and, AV.ofResults, St.trunc, q00, q01, List.getD_cons_zero, List.getD_cons_succ, List.map_nil, true_and, and_true, List.cons.injEq, exists_eq_left']
    try rw [Bool.false_and]
def Cf.av (c : Cf) : AV := .agg [i64 c.s, i64 c.k, i64 c.q, i64 c.w, i64 c.r, u64 c.e, u64 c.st]
def Cf.right (c : Cf) : Bool := inB c.s 1 8 && inB c.k 1 8 && inB c.q 1 16 && inB c.w 1 8 && inB c.r 0 4
theorem model_Right (c : Cf) : PCall P 24 [c.av] (fun x => x = bool c.right) := by
  refine q0d tyOk Tryz.func24 rfl rfl ?_
  intro K hK
  simp only [Tryz.ntmps24, List.length_cons, List.length_nil, Nat.reduceAdd, Nat.reduceSub, List.replicate, List.cons_append, List.nil_append]
  unfold Cf.right at hK
  have h1 := q2j c.s 1 8
  have h2 := q2j c.k 1 8
  have h3 := q2j c.q 1 16
  have h4 := q2j c.w 1 8
  have h5 := q2j c.r 0 4
  generalize inB c.s 1 8 = b1 at *
  generalize inB c.k 1 8 = b2 at *
  generalize inB c.q 1 16 = b3 at *
  generalize inB c.w 1 8 = b4 at *
  generalize inB c.r 0 4 = b5 at *
  try simp only [seval, go_sem, Cf.av]
  (refine q02 h1 rfl ?_; rintro _ rfl)
  cases b1
  · try simp only [seval, go_sem]
    apply hK
    simp only [Tryz.results24, retK, ares, Bool.and_true, Bool.true_and, AV.ofResults, St.trunc, q00, q01, List.getD_cons_zero, List.getD_cons_succ, List.take_zero, List.map_nil, true_and, and_true, List.cons.injEq, exists_eq_left']
    simp only [Bool.false_and, Bool.and_false, Bool.true_and]
  try simp only [seval, go_sem]
  (refine q02 h2 rfl ?_; rintro _ rfl)
  cases b2
  · try simp only [seval, go_sem]
    apply hK
    simp only [Tryz.results24, retK, ares, Bool.and_true, Bool.true_and, AV.ofResults, St.trunc, q00, q01, List.getD_cons_zero, List.getD_cons_succ, List.take_zero, List.map_nil, true_and, and_true, List.cons.injEq, exists_eq_left']
    simp only [Bool.false_and, Bool.and_false, Bool.true_and]
  try simp only [seval, go_sem]
  (refine q02 h3 rfl ?_; rintro _ rfl)
  cases b3
  · try simp only [seval, go_sem]
    apply hK
    simp only [Tryz.results24, retK, ares, Bool.and_self, Bool.and_true, Bool.true_and, AV.ofResults, St.trunc, q00, q01, List.getD_cons_zero, List.getD_cons_succ, List.take_zero, List.map_nil, true_and, and_true, List.cons.injEq, exists_eq_left']
    simp only [Bool.false_and, Bool.and_false, Bool.true_and]
  try simp only [seval, go_sem]
  (refine q02 h4 rfl ?_; rintro _ rfl)
  cases b4
  · try simp only [seval, go_sem]
    apply hK
    simp only [Tryz.results24, retK, ares, Bool.and_self, Bool.and_true, Bool.true_and, AV.ofResults, St.trunc, q00, q01, List.getD_cons_zero, List.getD_cons_succ, List.take_zero, List.map_nil, true_and, and_true, List.cons.injEq, exists_eq_left']
    simp only [Bool.false_and, Bool.and_false, Bool.true_and]
  try simp only [seval, go_sem]
  (refine q02 h5 rfl ?_; rintro _ rfl)
  try simp only [seval, go_sem]
  apply hK
  simp only [Tryz.results24, retK, ares, Bool.and_self, Bool.and_true, Bool.true_and, AV.ofResults, St.trunc, q00, q01, List.getD_cons_zero, List.getD_cons_succ, List.take_zero, List.map_nil, true_and, and_true, List.cons.injEq, exists_eq_left']
end Go.Proofs.YtdkcpcflfnakdaaGreat
namespace Go.Proofs.YtdkcpcflfnakdaaGreat
open Go Go.Proofs.YtdkcpcflfnakdaaGreat.Sym
set_option maxRecDepth 100000
set_option maxHeartbeats 1000000
theorem ml_z {n : Nat} : (mlen n = 0) = False := by simp [mlen]
theorem ml_1 {n : Nat} : (1 ≤ mlen n) = True := by simp [mlen]; omega
theorem ml_n0 {n : Nat} : (mlen n ≤ 0) = False := by simp [mlen]
theorem ml_n1 {n : Nat} : (mlen n ≤ 1) = False := by simp [mlen]; omega
theorem ml_n2 {n : Nat} : (mlen n ≤ 2) = False := by simp [mlen]; omega
theorem ml_nf {n k : Nat} (h : k < n) : (mlen n ≤ fb k) = False := by simp [mlen, fb]; omega
theorem ml_k0 {n k : Nat} : (mlen n + k ≤ 0) = False := by simp [mlen]
theorem ml_k2 {n k : Nat} : (mlen n + k ≤ 2) = False := by simp [mlen]; omega
theorem ml_kl {n k j : Nat} : (mlen n + k ≤ mlen n + j) = (k ≤ j) := by simp
theorem ml_kl0 {n k : Nat} : (mlen n + k ≤ mlen n) = (k ≤ 0) := propext (by constructor <;> omega)
theorem ml_l {n k : Nat} : (mlen n = mlen n + k) = (k = 0) := by simp
theorem ml_r {n k : Nat} : (mlen n + k = mlen n) = (k = 0) := by simp
theorem ml_b {n j k : Nat} : (mlen n + j = mlen n + k) = (j = k) := by simp
theorem ml_le {n k : Nat} : (mlen n ≤ mlen n + k) = True := by simp
theorem ml_0 {n : Nat} : (0 = mlen n) = False := by simp [mlen]; omega
theorem ml_0k {n k : Nat} : (0 = mlen n + k) = False := by simp [mlen]; omega
theorem mm_ids {n pad i : Nat} {M : Md} {cs : List AV} (h : (modM n pad M)[i]? = some (.box cs)) : ∀ b ∈ q03 cs, b < mlen n := by
  intro b hb
  have hl := (List.getElem?_eq_some_iff.1 h).1
  rw [q0c] at hl
  rcases mm_split (n := n) (pad := pad) (i := i) (M := M) (r := []) with h1 | ⟨s, j, h1, h2, rfl⟩ | h1
  · have c : i = 0 ∨ i = 1 ∨ i = 2 := by omega
    rcases c with rfl | rfl | rfl
    · rw [mm_0n] at h; cases h
      simp only [q03, bks, List.nil_append, List.append_nil, List.not_mem_nil, or_false, List.cons_append, List.mem_cons] at hb
      simp only [mlen]; omega
    · rw [mm_1n] at h; cases h
    · rw [mm_2n] at h; cases h
      obtain ⟨j, hj, rfl⟩ := ptrs_bks n pad b hb
      simp only [fb, mlen]; omega
  · have := mm_feed M [] h1 h2 (pad := pad)
    rw [List.append_nil, h] at this
    cases hg : (feedM (M.f s))[j]? with
    | none => rw [hg] at this; cases this
    | some blk =>
      rw [hg] at this
      simp only [Option.map_some, Option.some.injEq] at this
      cases blk with
      | box cs0 =>
        simp only [AB.ren, AB.box.injEq] at this
        subst this
        obtain ⟨c, hc, rfl, _⟩ := q39 cs0 (feed_box hg) b hb
        simp only [fb, mlen]; omega
      | row _ _ _ => simp [AB.ren] at this
      | rowc _ _ _ _ => simp [AB.ren] at this
      | gone => simp [AB.ren] at this
      | tr _ _ => simp [AB.ren] at this
  · omega
theorem mm_fix {n pad : Nat} {M : Md} {f : AB → AB} (h1 : ∀ cs, (∀ b ∈ q03 cs, b < mlen n) → f (.box cs) = .box cs) (h2 : ∀ blk, (∀ cs, blk ≠ .box cs) → f blk = blk) : (modM n pad M).map f = modM n pad M := by
  apply List.ext_getElem?
  intro i
  rw [List.getElem?_map]
  cases h : (modM n pad M)[i]? with
  | none => rfl
  | some blk =>
    simp only [Option.map_some]
    congr 1
    by_cases hb : ∃ cs, blk = .box cs
    · obtain ⟨cs, rfl⟩ := hb
      exact h1 cs (mm_ids h)
    · exact h2 blk (fun cs hc => hb ⟨cs, hc⟩)
mutual
theorem truncV_id {m : List AB} {N : Nat} : ∀ x : AV, (∀ b ∈ bks x, b < N) → q01 m N x = x
  | .v _, _ => rfl
  | .agg xs, h => by simp only [q01]; rw [q3c xs h]
  | .tup xs, h => by simp only [q01]; rw [q3c xs h]
  | .sl _ _, _ => rfl
  | .rp _, _ => rfl
  | .own b _ _ _, h => by have := h b (by simp [bks]); simp only [q01]; rw [if_neg (by omega)]
  | .ptr b _, h => by have := h b (by simp [bks]); simp only [q01]; rw [if_neg (by omega)]
  | .ep b _ _ _, h => by have := h b (by simp [bks]); simp only [q01]; rw [if_neg (by omega)]
  | .fn _ caps, h => by simp only [q01]; rw [q3c caps h]
  | .any, _ => rfl
theorem q3c {m : List AB} {N : Nat} : ∀ xs : List AV, (∀ b ∈ q03 xs, b < N) → q00 m N xs = xs
  | [], _ => rfl
  | x :: xs, h => by
    simp only [q00]
    rw [truncV_id x (fun b hb => h b (by simp [q03, hb])), q3c xs (fun b hb => h b (by simp [q03, hb]))]
end
mutual
theorem killV_id {c : Nat} : ∀ x : AV, (∀ b ∈ bks x, b ≠ c) → killV c x = x
  | .v _, _ => rfl
  | .agg xs, h => by simp only [killV]; rw [killVs_id xs h]
  | .tup xs, h => by simp only [killV]; rw [killVs_id xs h]
  | .sl _ _, _ => rfl
  | .rp _, _ => rfl
  | .own b _ _ _, h => by have := h b (by simp [bks]); simp only [killV]; rw [if_neg this]
  | .ptr b _, h => by have := h b (by simp [bks]); simp only [killV]; rw [if_neg this]
  | .ep b _ _ _, h => by have := h b (by simp [bks]); simp only [killV]; rw [if_neg this]
  | .fn _ caps, h => by simp only [killV]; rw [killVs_id caps h]
  | .any, _ => rfl
theorem killVs_id {c : Nat} : ∀ xs : List AV, (∀ b ∈ q03 xs, b ≠ c) → q17 c xs = xs
  | [], _ => rfl
  | x :: xs, h => by
    simp only [q17]
    rw [killV_id x (fun b hb => h b (by simp [q03, hb])), killVs_id xs (fun b hb => h b (by simp [q03, hb]))]
end
mutual
theorem shutV_id {m : List AB} {c : Nat} : ∀ x : AV, (∀ b ∈ bks x, b ≠ c) → shutV m c x = x
  | .v _, _ => rfl
  | .agg xs, h => by simp only [shutV]; rw [shutVs_id xs h]
  | .tup xs, h => by simp only [shutV]; rw [shutVs_id xs h]
  | .sl _ _, _ => rfl
  | .rp _, _ => rfl
  | .own b _ _ _, h => by have := h b (by simp [bks]); simp only [shutV]; rw [if_neg this]
  | .ptr b _, h => by have := h b (by simp [bks]); simp only [shutV]; rw [if_neg this]
  | .ep b _ _ _, h => by have := h b (by simp [bks]); simp only [shutV]; rw [if_neg this]
  | .fn _ caps, h => by simp only [shutV]; rw [shutVs_id caps h]
  | .any, _ => rfl
theorem shutVs_id {m : List AB} {c : Nat} : ∀ xs : List AV, (∀ b ∈ q03 xs, b ≠ c) → shutVs m c xs = xs
  | [], _ => rfl
  | x :: xs, h => by
    simp only [shutVs]
    rw [shutV_id x (fun b hb => h b (by simp [q03, hb])), shutVs_id xs (fun b hb => h b (by simp [q03, hb]))]
end
mutual
theorem ren_id {N : Nat} : ∀ x : AV, (∀ b ∈ bks x, b < N) → ren (List.range' 0 N) x = x
  | .v _, _ => rfl
  | .agg xs, h => by simp only [ren]; rw [q3a xs h]
  | .tup xs, h => by simp only [ren]; rw [q3a xs h]
  | .sl _ _, _ => rfl
  | .rp _, _ => rfl
  | .own b _ _ _, h => by have := h b (by simp [bks]); simp only [ren]; rw [q2w this, Nat.zero_add]
  | .ptr b _, h => by have := h b (by simp [bks]); simp only [ren]; rw [q2w this, Nat.zero_add]
  | .ep b _ _ _, h => by have := h b (by simp [bks]); simp only [ren]; rw [q2w this, Nat.zero_add]
  | .fn _ caps, h => by simp only [ren]; rw [q3a caps h]
  | .any, _ => rfl
theorem q3a {N : Nat} : ∀ xs : List AV, (∀ b ∈ q03 xs, b < N) → q0e (List.range' 0 N) xs = xs
  | [], _ => rfl
  | x :: xs, h => by
    simp only [q0e]
    rw [ren_id x (fun b hb => h b (by simp [q03, hb])), q3a xs (fun b hb => h b (by simp [q03, hb]))]
end
section
variable (n pad : Nat) (M : Md) (r : List AB)
theorem mm_trunc {X : List AB} {N : Nat} (h : mlen n ≤ N) : (modM n pad M).map (AB.trunc X N) = modM n pad M :=
  mm_fix (fun cs hc => by simp only [AB.trunc]; rw [q3c cs (fun b hb => Nat.lt_of_lt_of_le (hc b hb) h)]) (fun blk hb => by cases blk <;> first | rfl | exact absurd rfl (hb _))
theorem mm_kill {b : Nat} (h : mlen n ≤ b) : (modM n pad M).map (AB.kill b) = modM n pad M :=
  mm_fix (fun cs hc => by simp only [AB.kill]; rw [killVs_id cs (fun c hb => by have := hc c hb; omega)]) (fun blk hb => by cases blk <;> first | rfl | exact absurd rfl (hb _))
theorem mm_shut {X : List AB} {b : Nat} (h : mlen n ≤ b) : (modM n pad M).map (AB.shut X b) = modM n pad M :=
  mm_fix (fun cs hc => by simp only [AB.shut]; rw [shutVs_id cs (fun c hb => by have := hc c hb; omega)]) (fun blk hb => by cases blk <;> first | rfl | exact absurd rfl (hb _))
theorem mm_killA (k : Nat) : (modM n pad M ++ r).map (AB.kill (mlen n + k)) = modM n pad M ++ r.map (AB.kill (mlen n + k)) := by rw [List.map_append, mm_kill n pad M (by omega)]
theorem mm_killA0 : (modM n pad M ++ r).map (AB.kill (mlen n)) = modM n pad M ++ r.map (AB.kill (mlen n)) := mm_killA n pad M r 0
theorem mm_shutA {X : List AB} (k : Nat) : (modM n pad M ++ r).map (AB.shut X (mlen n + k)) = modM n pad M ++ r.map (AB.shut X (mlen n + k)) := by rw [List.map_append, mm_shut n pad M (by omega)]
theorem mm_shutA0 {X : List AB} : (modM n pad M ++ r).map (AB.shut X (mlen n)) = modM n pad M ++ r.map (AB.shut X (mlen n)) := mm_shutA n pad M r 0
theorem mm_tk (k : Nat) : (modM n pad M ++ r).take (mlen n + k) = modM n pad M ++ r.take k := by
  rw [List.take_append, q0c, List.take_of_length_le (by rw [q0c]; omega), show mlen n + k - mlen n = k by omega]
theorem q23 {X : List AB} : ((modM n pad M ++ r).take (mlen n)).map (AB.trunc X (mlen n)) = modM n pad M := by
  have := mm_tk n pad M r 0
  rw [Nat.add_zero] at this
  rw [this, List.take_zero, List.append_nil, mm_trunc n pad M (Nat.le_refl _)]
theorem q36 {X : List AB} : ((modM n pad M).take (mlen n)).map (AB.trunc X (mlen n)) = modM n pad M := by
  have := q23 n pad M [] (X := X)
  rwa [List.append_nil] at this
theorem mm_rn {X : List AB} (k : Nat) : ((modM n pad M ++ r).take (mlen n + k)).map (AB.trunc X (mlen n + k)) = modM n pad M ++ (r.take k).map (AB.trunc X (mlen n + k)) := by
  rw [mm_tk, List.map_append, mm_trunc n pad M (by omega)]
theorem mm_rn3 {X : List AB} : ((modM n pad M ++ r).take (mlen n + 3)).map (AB.trunc X (mlen n + 3)) = modM n pad M ++ (r.take 3).map (AB.trunc X (mlen n + 3)) := mm_rn n pad M r 3
theorem mm_rn4 {X : List AB} : ((modM n pad M ++ r).take (mlen n + 4)).map (AB.trunc X (mlen n + 4)) = modM n pad M ++ (r.take 4).map (AB.trunc X (mlen n + 4)) := mm_rn n pad M r 4
theorem mm_ren : renM (List.range' 0 (mlen n)) (modM n pad M) = modM n pad M := by
  have : ∀ l : List AB, renM (List.range' 0 (mlen n)) l = l.map (AB.ren (List.range' 0 (mlen n))) := by
    intro l; induction l with
    | nil => rfl
    | cons b l ih => rw [renM, ih]; rfl
  rw [this]
  exact mm_fix (fun cs hc => by simp only [AB.ren]; rw [q3a cs hc]) (fun blk hb => by cases blk <;> first | rfl | exact absurd rfl (hb _))
theorem mm_inR : (modM n pad M).all (AB.inR (mlen n)) = true := by
  refine List.all_eq_true.2 fun blk hb => ?_
  obtain ⟨i, hi⟩ := List.getElem?_of_mem hb
  cases blk with
  | box cs => exact List.all_eq_true.2 fun b hb => decide_eq_true (mm_ids hi b hb)
  | _ => rfl
theorem mm_atAll : (List.range' 0 (mlen n)).map (fun b => (modM n pad M ++ r)[b]?) = (modM n pad M).map some := by
  apply List.ext_getElem?
  intro i
  by_cases hi : i < mlen n
  · rw [List.getElem?_map, q1y hi, List.getElem?_map]
    simp only [Option.map_some, Nat.zero_add]
    rw [List.getElem?_append_left (by rw [q0c]; exact hi), List.getElem?_eq_getElem (by rw [q0c]; exact hi)]
    rfl
  · rw [List.getElem?_eq_none (by simp; omega), List.getElem?_eq_none (by simp [q0c]; omega)]
theorem mm_putAll (M' : Md) : putL (modM n pad M ++ r) (List.range' 0 (mlen n)) (modM n pad M') = modM n pad M' ++ r := by
  apply List.ext_getElem?
  intro i
  by_cases hi : i < mlen n
  · have hg : (modM n pad M')[i]? = some ((modM n pad M')[i]'(by rw [q0c]; exact hi)) := List.getElem?_eq_getElem _
    rw [putL_in _ _ _ i i _ List.nodup_range' (by rw [q1y hi, Nat.zero_add]) hg (by rw [mm_alen]; omega), List.getElem?_append_left (by rw [q0c]; exact hi), hg]
  · rw [q3t _ _ _ _ (fun hm => by have := (q1c.1 hm).2; omega)]
    obtain ⟨k, rfl⟩ := Nat.exists_eq_add_of_le (Nat.le_of_not_lt hi)
    rw [mm_at, mm_at]
end
def kpX (n b : Nat) : Bool := decide (b < 3) || decide (mlen n ≤ b)
theorem mod_in {g : FuncId} {args : List AV} {K0 K : AV → List AB → Prop} {n pad : Nat} {M : Md} {r : List AB} (h : ACall P g (modM n pad M) args K0) (hb : (q03 args).all (fun b => decide (b < 3)) = true)
    (hK : ∀ x m', K0 x m' → bks x = [] ∧ ∃ M', m' = modM n pad M' ∧ K x (modM n pad M' ++ r)) : ACall P g (modM n pad M ++ r) args K := by
  have hb' : ∀ b ∈ q03 args, b < mlen n := fun b hm => by have := List.all_eq_true.1 hb b hm; simp only [decide_eq_true_eq] at this; simp only [mlen]; omega
  refine h.frame (List.range' 0 (mlen n)) List.nodup_range' (by rw [mm_ren]; exact mm_atAll n pad M r) (q3a args hb').symm (by rw [List.length_range']; exact List.all_eq_true.2 fun b hm => decide_eq_true (hb' b hm)) (by rw [List.length_range']; exact mm_inR n pad M) ?_
  intro x m' hx
  obtain ⟨hbx, M', rfl, hv⟩ := hK x m' hx
  exact ⟨by rw [q0c, q0c], by rw [mm_ren, mm_putAll, ren_id x (by rw [hbx]; intro b hb; cases hb)]; exact hv⟩
theorem mod_inX {g : FuncId} {args : List AV} {K0 K : AV → List AB → Prop} {n pad : Nat} {M : Md} {r : List AB} (h : q0h P 3 g (modM n pad M) args K0) (hb : (q03 args).all (fun b => decide (b < 3)) = true) (hr : r.all (AB.calm n) = true)
    (hK : ∀ x m', K0 x m' → bks x = [] ∧ ∃ M', m' = modM n pad M' ∧ K x (modM n pad M' ++ r)) : q0j P (kpX n) g (modM n pad M ++ r) args K := by
  have hb' : ∀ b ∈ q03 args, b < mlen n := fun b hm => by have := List.all_eq_true.1 hb b hm; simp only [decide_eq_true_eq] at this; simp only [mlen]; omega
  have key : ∀ b, kpX n b = true → kpOf (fun b => decide (b < 3)) (List.range' 0 (mlen n)) 0 b = true := by
    intro b hb
    by_cases hm : b < mlen n
    · rw [kpOf_in (j := b) List.nodup_range' (by rw [q1y hm, Nat.zero_add])]
      simp only [kpX, Bool.or_eq_true, decide_eq_true_eq] at hb
      simp only [decide_eq_true_eq]; omega
    · exact q3q (fun h => by have := (q1c.1 h).2; omega)
  refine q0j.keeps (kp := kpOf (fun b => decide (b < 3)) (List.range' 0 (mlen n)) 0) ?_ (fun b _ hb => key b hb)
  refine h.toX.frame (List.range' 0 (mlen n)) List.nodup_range' (by rw [mm_ren]; exact mm_atAll n pad M r) (q3a args hb').symm (by rw [List.length_range']; exact List.all_eq_true.2 fun b hm => decide_eq_true (hb' b hm)) (by rw [List.length_range']; exact mm_inR n pad M) ?_ ?_
  · refine q3n fun i cs hi => ?_
    rw [Nat.zero_add]
    by_cases hm : i < mlen n
    · exact .inl (q1c.2 ⟨Nat.zero_le _, by omega⟩)
    · obtain ⟨k, rfl⟩ := Nat.exists_eq_add_of_le (Nat.le_of_not_lt hm)
      rw [mm_at] at hi
      have := List.all_eq_true.1 hr _ (List.mem_of_getElem? hi)
      exact .inr (List.all_eq_true.2 fun b hb => key b (List.all_eq_true.1 this b hb))
  · intro x m' hx
    obtain ⟨hbx, M', rfl, hv⟩ := hK x m' hx
    exact ⟨by rw [q0c, q0c], by rw [mm_ren, mm_putAll, ren_id x (by rw [hbx]; intro b hb; cases hb)]; exact hv⟩
attribute [go_sem] mm_0 mm_1 mm_2 mm_0n mm_1n mm_2n mm_at0 mm_at1 mm_at2 mm_at3 mm_at4 mm_s0 mm_s1 mm_s2 mm_s3 mm_setT mm_setTn q0c mm_alen mm_add mm_killA mm_killA0 mm_shutA mm_shutA0 ml_z ml_1 ml_l ml_r ml_b ml_le ml_0 ml_0k
end Go.Proofs.YtdkcpcflfnakdaaGreat
namespace Go.Proofs.YtdkcpcflfnakdaaGreat
open Go Go.Proofs.YtdkcpcflfnakdaaGreat.Sym
set_option maxRecDepth 100000
set_option maxHeartbeats 1000000
theorem sess_Right (id st pr : Int) : PCall P 35 [i64 id, i64 st, i64 pr] (fun x => x = bool (decide (0 ≤ id) && decide (id ≤ 255) && decide (1 ≤ st) && decide (st ≤ 9) && decide (0 ≤ pr) && decide (pr ≤ 9))) := by
  refine q0d tyOk Tryz.func35 rfl rfl ?_
  intro K hK
  simp only [Tryz.ntmps35, List.length_cons, List.length_nil, Nat.reduceAdd, Nat.reduceSub, List.replicate, List.cons_append, List.nil_append]
  try simp only [seval, go_sem]
  (first | refine q05 ?_ ?_ | refine q08 ?_ ?_ | refine q09 ?_ ?_ | refine q07 ?_ ?_ | refine q06 ?_ ?_) <;> intro h1
  rotate_left
  · try simp only [seval, go_sem]
    apply hK
    simp only [Tryz.results35, retK, ares, List.take_nil, Bool.and_true, Bool.true_and, AV.ofResults, St.trunc, q00, q01, List.getD_cons_zero, List.getD_cons_succ, List.map_nil, true_and, and_true, List.cons.injEq, exists_eq_left']
    simp only [h1, Bool.false_and]
  try simp only [seval, go_sem]
  (first | refine q05 ?_ ?_ | refine q08 ?_ ?_ | refine q09 ?_ ?_ | refine q07 ?_ ?_ | refine q06 ?_ ?_) <;> intro h2
  rotate_left
  · try simp only [seval, go_sem]
    apply hK
    simp only [Tryz.results35, retK, ares, List.take_nil, Bool.and_true, Bool.true_and, AV.ofResults, St.trunc, q00, q01, List.getD_cons_zero, List.getD_cons_succ, List.map_nil, true_and, and_true, List.cons.injEq, exists_eq_left']
    simp only [h1, h2, Bool.false_and, Bool.and_false]
  try simp only [seval, go_sem]
  (first | refine q05 ?_ ?_ | refine q08 ?_ ?_ | refine q09 ?_ ?_ | refine q07 ?_ ?_ | refine q06 ?_ ?_) <;> intro h3
  rotate_left
  · try simp only [seval, go_sem]
    apply hK
    simp only [Tryz.results35, retK, ares, List.take_nil, Bool.and_true, Bool.true_and, AV.ofResults, St.trunc, q00, q01, List.getD_cons_zero, List.getD_cons_succ, List.map_nil, true_and, and_true, List.cons.injEq, exists_eq_left']
    simp only [h1, h2, h3, Bool.and_true, Bool.false_and, Bool.and_false]
  try simp only [seval, go_sem]
  (first | refine q05 ?_ ?_ | refine q08 ?_ ?_ | refine q09 ?_ ?_ | refine q07 ?_ ?_ | refine q06 ?_ ?_) <;> intro h4
  rotate_left
  · try simp only [seval, go_sem]
    apply hK
    simp only [Tryz.results35, retK, ares, List.take_nil, Bool.and_true, Bool.true_and, AV.ofResults, St.trunc, q00, q01, List.getD_cons_zero, List.getD_cons_succ, List.map_nil, true_and, and_true, List.cons.injEq, exists_eq_left']
    simp only [h1, h2, h3, h4, Bool.and_true, Bool.false_and, Bool.and_false]
  try simp only [seval, go_sem]
  (first | refine q05 ?_ ?_ | refine q08 ?_ ?_ | refine q09 ?_ ?_ | refine q07 ?_ ?_ | refine q06 ?_ ?_) <;> intro h5
  rotate_left
  · try simp only [seval, go_sem]
    apply hK
    simp only [Tryz.results35, retK, ares, List.take_nil, Bool.and_true, Bool.true_and, AV.ofResults, St.trunc, q00, q01, List.getD_cons_zero, List.getD_cons_succ, List.map_nil, true_and, and_true, List.cons.injEq, exists_eq_left']
    simp only [h1, h2, h3, h4, h5, Bool.and_true, Bool.false_and, Bool.and_false]
  try simp only [seval, go_sem]
  apply hK
  simp only [Tryz.results35, retK, ares, List.take_nil, Bool.and_true, Bool.true_and, AV.ofResults, St.trunc, q00, q01, List.getD_cons_zero, List.getD_cons_succ, List.map_nil, true_and, and_true, List.cons.injEq, exists_eq_left']
  simp only [h1, h2, h3, h4, h5, Bool.true_and, Bool.and_true]
def sumL (m : Bk) : Nat := (m.map fun p => p.2.l.length).sum
theorem sum_next {m : Bk} {i : Nat} (h : i < m.length) : sumL (m.take (i + 1)) = sumL (m.take i) + m[i].2.l.length := by
  rw [q1f h, sumL, List.map_append, List.sum_append]; simp [sumL]
theorem sum_le {n : Nat} {m : Bk} (h : q2i n m) : ∀ i, sumL (m.take i) ≤ n * i := by
  intro i
  induction i with
  | zero => simp [sumL]
  | succ i ih =>
    by_cases hi : i < m.length
    · rw [sum_next hi, Nat.mul_succ]
      have := (h.2.2 _ (List.getElem_mem hi)).2
      omega
    · rw [List.take_of_length_le (by omega)]
      rw [List.take_of_length_le (by omega)] at ih
      rw [Nat.mul_succ]; omega
theorem stored_call (m : Bk) (h : q2i 200 m) : PCall P 61 [q0n m] (fun x => x = i64 (sumL m : Nat)) := by
  refine pcall_goY tyOk Tryz.func61 rfl rfl ?_
  intro K hK
  simp only [Tryz.ntmps61, List.length_cons, List.length_nil, Nat.reduceAdd, Nat.reduceSub, List.replicate, List.cons_append, List.nil_append]
  have hml := h.2.1
  have hall := all_call_se m
  unfold q0n at hall
  try simp only [seval, go_sem, q0n]
  (refine q02 hall rfl ?_; rintro _ rfl)
  try simp only [seval, go_sem]
  refine range_rule tyOk (seq_se m (by omega)) (α := Nat) 2 2 [1, 3] ([.any, .ptr 0 0, .any, .ptr 1 0, .any, .any, .any, .any, .any, .any, .any, .any, .any, .any, .any, .any]) (fun xs i => i = xs.length ∧ i ≤ m.length)
    (fun i => [ebox m, .box [i64 (sumL (m.take i) : Nat)]]) 0 rfl rfl
    (fun x hx => by simp only [q2r, List.mem_map] at hx; obtain ⟨p, _, rfl⟩ := hx; rfl) (Nat.zero_le _) (by decide) (by rfl) ⟨rfl, Nat.zero_le _⟩ rfl ?_ ?_
  · rintro xs x _ hpre ⟨rfl, hle⟩
    obtain ⟨hi, _, rfl⟩ := q4v hpre
    have hn := sum_next hi
    have hs := sum_le h xs.length
    have hel := (h.2.2 _ (List.getElem_mem hi)).2
    generalize m[xs.length] = p at *
    have ev0 : En.av p.2 = .agg [.sl 4 (avs p.2.l), i64 p.2.t.st, i64 p.2.t.pr, i64 p.2.t.n] := rfl
    have ew : IntKind.i64.wrap (((sumL (m.take xs.length) : Nat) : Int) + ((p.2.l.length : Nat) : Int)) = ((sumL (m.take xs.length) + p.2.l.length : Nat) : Int) := by
      have : 200 * xs.length ≤ 200 * 200 := Nat.mul_le_mul_left _ (by omega)
      rw [wrap_i64 (by omega) (by omega)]; rfl
    try simp only [seval, go_sem, ev0, q0p, ew]
    simp only [q2o, St.trunc, q00, q01, AB.trunc, q0r, AV.pure, Bool.and_self, List.drop_zero, List.take_succ_cons, List.take_zero, List.map_cons, List.map_nil, List.getElem?_cons_zero, List.getElem?_cons_succ, Nat.reduceLeDiff, Nat.le_refl, ↓reduceIte]
    exact ⟨xs.length + 1, ⟨by first | rfl | simp, by omega⟩, by rw [hn]⟩
  · rintro _ ⟨rfl, hle⟩
    have e1 : (q2r m).length = m.length := by simp [q2r]
    rw [e1, List.take_length]
    try simp only [seval, go_sem]
    apply hK
    simp only [Tryz.results61, retK, ares, Bool.and_true, Bool.true_and, AV.ofResults, St.trunc, q00, q01, List.getD_cons_zero, List.getD_cons_succ, List.take_zero, List.map_nil, true_and, and_true, List.cons.injEq, exists_eq_left']
theorem presence_call (n : Nat) (m : Bk) (u : ByteArray) (now : Int) (h : q2i n m) (hn : n ≤ 700000) :
    PCall P 46 [q0n m, str u, u64 now] (fun x => x = .agg [i64 (ofP (wasOf m u).l now).st, i64 (ofP (wasOf m u).l now).pr, i64 (ofP (wasOf m u).l now).n]) := by
  refine q0d tyOk Tryz.func46 rfl rfl ?_
  intro K hK
  simp only [Tryz.ntmps46, List.length_cons, List.length_nil, Nat.reduceAdd, Nat.reduceSub, List.replicate, List.cons_append, List.nil_append]
  have hml := h.2.1
  have hw := (was_ok h u).2
  try simp only [seval, go_sem, q0n]
  (refine q02 (get_open m u h.1 (by omega)) rfl ?_; rintro _ rfl)
  try simp only [seval, go_sem]
  (refine q02 (of_call (wasOf m u).l now (by omega)) rfl ?_; rintro _ rfl)
  try simp only [seval, go_sem]
  apply hK
  simp only [Tryz.results46, retK, ares, List.take_nil, Bool.and_true, Bool.true_and, AV.ofResults, St.trunc, q00, q01, aload, acell, T, TI.isAgg, List.getD_cons_zero, List.getD_cons_succ, List.take_zero, List.take_succ_cons, List.drop_zero, List.map_nil, List.getElem?_cons_zero, List.getElem?_cons_succ, List.length_cons, List.length_nil, Nat.reduceAdd, Nat.le_refl, true_and, and_true, ↓reduceIte, List.cons.injEq, exists_eq_left']
  try rfl
end Go.Proofs.YtdkcpcflfnakdaaGreat
namespace Go.Proofs.YtdkcpcflfnakdaaGreat
open Go Go.Proofs.YtdkcpcflfnakdaaGreat.Sym
set_option maxRecDepth 100000
set_option maxHeartbeats 1000000
set_option maxHeartbeats 1000000
def q2d (t : Tm) : AV := .agg [u64 t.now, u64 t.seq, bool t.cl]
theorem q3g (n pad : Nat) (M : Md) : ACall P 22 (modM n pad M) [.ptr 0 0] (fun x m' => x = q2d M.t ∧ m' = modM n pad M) := by
  refine q2q tyOk Tryz.func22 rfl rfl ?_
  intro K hK
  rw [q0c] at hK ⊢
  simp only [Tryz.ntmps22, List.length_cons, List.length_nil, Nat.reduceAdd, Nat.reduceSub, List.replicate, List.cons_append, List.nil_append]
  try simp only [seval, go_sem, Nat.add_assoc, AB.calm, kpX, kpM, Nat.one_ne_zero]
  apply hK
  simp only [Tryz.results22, retK, ares, Bool.and_true, AV.ofResults, St.trunc, q00, q01, aload, acell, T, TI.isAgg, List.getD_cons_zero, List.getD_cons_succ, List.drop_zero, and_true, ↓reduceIte, List.cons.injEq, exists_eq_left']
  simp only [mm_at0, List.getElem?_cons_zero, List.take_succ_cons, List.take_zero, q23, and_true, true_and, List.length_cons, List.length_nil, q00, q01, Nat.reduceAdd, Nat.le_refl]
  rfl
def stN (n : Nat) (u : ByteArray) : Nat := (strI n u).toNat
theorem stN_lt {n : Nat} (h1 : 1 ≤ n) (h2 : n ≤ 8) (u : ByteArray) : stN n u < n ∧ strI n u = (stN n u : Int) := by
  have := strI_ok (n := n) (by omega) (by omega) u
  unfold stN
  omega
theorem n_cases {n : Nat} (h1 : 1 ≤ n) (h2 : n ≤ 8) : n = 1 ∨ n = 2 ∨ n = 3 ∨ n = 4 ∨ n = 5 ∨ n = 6 ∨ n = 7 ∨ n = 8 := by omega
structure MOk (n B : Nat) (M : Md) : Prop where
  n1 : 1 ≤ n
  n8 : n ≤ 8
  s : M.c.s = n
  b : ∀ j, q2i B (M.b j)
  m : ∀ j, q2h (M.f j).m
  ml : ∀ j, (M.f j).m.length ≤ B
  q : ∀ j k, ((M.f j).q k).1.length ≤ 100
  B : B ≤ 900
theorem model_stripe {n pad B : Nat} {M : Md} (h : MOk n B M) (u : ByteArray) (hl : u.size ≤ 1000000) : ACall P 42 (modM n pad M) [.ptr 0 0, str u] (fun x m' => x = i64 (stN n u : Nat) ∧ m' = modM n pad M) := by
  refine q2q tyOk Tryz.func42 rfl rfl ?_
  intro K hK
  rw [q0c] at hK ⊢
  simp only [Tryz.ntmps42, List.length_cons, List.length_nil, Nat.reduceAdd, Nat.reduceSub, List.replicate, List.cons_append, List.nil_append]
  have hs := stN_lt h.n1 h.n8 u
  have hS := hash_Stripe u M.c.s hl (by rw [h.s]; have := h.n1; omega) (by rw [h.s]; have := h.n8; omega)
  rw [h.s, hs.2] at hS
  try simp only [seval, go_sem, Nat.add_assoc, AB.calm, kpX, kpM, Nat.one_ne_zero, h.s]
  (refine q02 hS rfl ?_; rintro _ rfl)
  try simp only [seval, go_sem, Nat.add_assoc, AB.calm, kpX, kpM, Nat.one_ne_zero]
  apply hK
  simp only [Tryz.results42, retK, ares, Bool.and_true, Bool.true_and, AV.ofResults, St.trunc, q00, q01, List.getD_cons_zero, List.getD_cons_succ, true_and, and_true, List.cons.injEq, exists_eq_left']
  rw [q36]
theorem stripe_in {n pad B : Nat} {M : Md} (h : MOk n B M) (u : ByteArray) (hl : u.size ≤ 1000000) (r : List AB) : ACall P 42 (modM n pad M ++ r) [.ptr 0 0, str u] (fun x m' => x = i64 (stN n u : Nat) ∧ m' = modM n pad M ++ r) :=
  mod_in (model_stripe h u hl) rfl (by rintro x m' ⟨rfl, rfl⟩; exact ⟨rfl, M, rfl, rfl, rfl⟩)
def presOf (n : Nat) (M : Md) (u : ByteArray) : Pr := ofP (wasOf (M.b (stN n u)) u).l M.t.now
theorem model_Presence {n pad B : Nat} {M : Md} (h : MOk n B M) (u : ByteArray) (hl : u.size ≤ 1000000) : ACall P 21 (modM n pad M) [.ptr 0 0, str u] (fun x m' => x = (presOf n M u).av ∧ m' = modM n pad M) := by
  refine q2q tyOk Tryz.func21 rfl rfl ?_
  intro K hK
  rw [q0c] at hK ⊢
  simp only [Tryz.ntmps21, List.length_cons, List.length_nil, Nat.reduceAdd, Nat.reduceSub, List.replicate, List.cons_append, List.nil_append]
  have hs := (stN_lt h.n1 h.n8 u).1
  have hb := bk_at M.b hs
  have c1 : (0 : Int) ≤ ((stN n u : Nat) : Int) ∧ Int.toNat ((stN n u : Nat) : Int) < n := by omega
  have hP := presence_call B (M.b (stN n u)) u M.t.now (h.b _) (by have := h.B; omega)
  unfold q0n at hP
  try simp only [seval, go_sem, Nat.add_assoc, AB.calm, kpX, kpM, Nat.one_ne_zero]
  refine q0k tyOk (by rfl) (by simp only [mm_alen, List.length_cons, List.length_nil, mlen]; omega) (by kernel_rfl) rfl ?_
  try simp only [seval, go_sem, Nat.add_assoc, AB.calm, kpX, kpM, Nat.one_ne_zero]
  refine q55 (stripe_in h u hl _) (by rfl) ?_
  try simp only [seval, go_sem, Nat.add_assoc, AB.calm, kpX, kpM, Nat.one_ne_zero, c1, hb, q3p]
  refine q3l hP rfl ?_
  try simp only [seval, go_sem, Nat.add_assoc, AB.calm, kpX, kpM, Nat.one_ne_zero]
  refine ⟨by kernel_rfl, ?_⟩
  try simp only [seval, go_sem, Nat.add_assoc, AB.calm, kpX, kpM, Nat.one_ne_zero]
  apply hK
  simp only [Tryz.results21, retK, ares, Bool.and_true, AV.ofResults, St.trunc, q00, q01, aload, acell, T, TI.isAgg, List.getD_cons_zero, List.getD_cons_succ, List.drop_zero, and_true, ↓reduceIte, List.cons.injEq, exists_eq_left']
  simp only [mm_at0, List.getElem?_cons_zero, List.take_succ_cons, List.take_zero, q23, and_true, true_and, List.length_cons, List.length_nil, q00, q01, Nat.reduceAdd, Nat.le_refl]
  rfl
end Go.Proofs.YtdkcpcflfnakdaaGreat
namespace Go.Proofs.YtdkcpcflfnakdaaGreat
open Go Go.Proofs.YtdkcpcflfnakdaaGreat.Sym
set_option maxRecDepth 100000
set_option maxHeartbeats 1000000
set_option maxHeartbeats 1000000
def Md.tick (M : Md) (by_ : Int) : Md := { M with t := ⟨addW M.t.now by_, M.t.seq, M.t.cl⟩ }
def Md.take (M : Md) : Md := { M with t := ⟨M.t.now, addW M.t.seq 1, M.t.cl⟩ }
def Md.shut (M : Md) : Md := { M with t := ⟨M.t.now, M.t.seq, true⟩ }
theorem model_Tick (n pad : Nat) (M : Md) (by_ : Int) : ACall P 45 (modM n pad M) [.ptr 0 0, u64 by_] (fun x m' => x = .tup [] ∧ m' = modM n pad (M.tick by_)) := by
  refine q2q tyOk Tryz.func45 rfl rfl ?_
  intro K hK
  rw [q0c] at hK ⊢
  simp only [Tryz.ntmps45, List.length_cons, List.length_nil, Nat.reduceAdd, Nat.reduceSub, List.replicate, List.cons_append, List.nil_append]
  try simp only [seval, go_sem, Nat.add_assoc, AB.calm, kpX, kpM, Nat.one_ne_zero]
  (refine q02 (tick_Pass M.t by_) rfl ?_; rintro _ rfl)
  try simp only [seval, go_sem, Nat.add_assoc, AB.calm, kpX, kpM, Nat.one_ne_zero]
  apply hK
  simp only [Tryz.results45, retK, ares, Bool.and_true, Bool.true_and, AV.ofResults, St.trunc, q00, q01, true_and, and_true, List.cons.injEq, exists_eq_left']
  simp only [q36]
  rfl
theorem model_take (n pad : Nat) (M : Md) : ACall P 62 (modM n pad M) [.ptr 0 0] (fun x m' => x = u64 (addW M.t.seq 1) ∧ m' = modM n pad M.take) := by
  refine q2q tyOk Tryz.func62 rfl rfl ?_
  intro K hK
  rw [q0c] at hK ⊢
  simp only [Tryz.ntmps62, List.length_cons, List.length_nil, Nat.reduceAdd, Nat.reduceSub, List.replicate, List.cons_append, List.nil_append]
  try simp only [seval, go_sem, Nat.add_assoc, AB.calm, kpX, kpM, Nat.one_ne_zero]
  (refine q02 (tick_Take M.t) rfl ?_; rintro _ rfl)
  try simp only [seval, go_sem, Nat.add_assoc, AB.calm, kpX, kpM, Nat.one_ne_zero]
  apply hK
  simp only [Tryz.results62, retK, ares, Bool.and_true, Bool.true_and, AV.ofResults, St.trunc, q00, q01, List.getD_cons_zero, List.getD_cons_succ, true_and, and_true, List.cons.injEq, exists_eq_left']
  simp only [q36]
  rfl
theorem mm_setBn {n pad s : Nat} (M : Md) (v : Bk) (h : s < n) : (modM n pad M).set 1 (.row 87 2 ((bkRow n M.b).set (Int.toNat (s : Int)) (.agg [.sl 1 (v.map fun p => str p.1), .sl 4 (v.map fun p => En.av p.2)]))) = modM n pad (M.setB s v) := by
  have := mm_setB (pad := pad) M [] v h
  simpa using this
theorem ptr_load {n pad s : Nat} (h : s < n) : (List.drop (Int.toNat (s : Int) * 1) (ptrs n pad)).headD .any = .ptr (fb s) 0 ∧ 0 < (List.drop (Int.toNat (s : Int) * 1) (ptrs n pad)).length := by
  rw [Int.toNat_natCast]; exact ptr_drop h
def Md.tell (M : Md) (s : Nat) (l : List Chg) (seq : Int) : Md := M.setF s (tellF (M.f s) l seq)
theorem Tell_in {n pad B s : Nat} {M : Md} (h : MOk n B M) (r : List AB) (hr : r.all (AB.calm n) = true) (hs : s < n) (l : List Chg) (seq : Int) (hl : l.length ≤ 50000) :
    q0j P (kpM n) 64 (modM n pad M ++ r) [.ptr (fb s) 0, .sl 7 (chgs l), u64 seq] (fun x m' => m' = modM n pad (M.tell s l seq) ++ r) :=
  feed_in M r hs (feed_Tell (M.f s) l seq (h.m s) (by have := h.ml s; have := h.B; omega) hl (fun k => by have := h.q s k; omega)).toX rfl rfl hr (by rintro x m' rfl; exact ⟨_, rfl, rfl⟩)
def Md.sweep (n : Nat) (M : Md) (s : Int) : Md :=
  if (decide (s < 0) || decide ((n : Int) ≤ s)) = true then M
  else (M.take.setB s.toNat (q1j (M.b s.toNat) M.t.now).1).tell s.toNat (q1j (M.b s.toNat) M.t.now).2 (addW M.t.seq 1)
theorem model_Sweep {n pad B : Nat} {M : Md} (h : MOk n B M) (s : Int) : q0h P 3 33 (modM n pad M) [.ptr 0 0, i64 s] (fun x m' => x = .tup [] ∧ m' = modM n pad (M.sweep n s)) := by
  refine q2p tyOk Tryz.func33 rfl rfl (by rw [q0c, mlen]; omega) ?_
  intro K hK
  rw [q0c] at hK
  simp only [Tryz.ntmps33, List.length_cons, List.length_nil, Nat.reduceAdd, Nat.reduceSub, List.replicate, List.cons_append, List.nil_append]
  unfold Md.sweep at hK
  try simp only [seval, go_sem, Nat.add_assoc, AB.calm, kpX, kpM, Nat.one_ne_zero]
  cases h1 : decide (s < 0) with
  | true =>
    rw [h1] at hK
    try simp only [seval, go_sem, Nat.add_assoc, AB.calm, kpX, kpM, Nat.one_ne_zero]
    apply hK
    simp only [Tryz.results33, retK, ares, Bool.and_true, Bool.true_and, AV.ofResults, St.trunc, q00, q01, true_and, and_true, List.cons.injEq, exists_eq_left']
    simp only [q36]
    rfl
  | false =>
    rw [h1] at hK
    try simp only [seval, go_sem, Nat.add_assoc, AB.calm, kpX, kpM, Nat.one_ne_zero]
    (first | refine q05 ?_ ?_ | refine q08 ?_ ?_ | refine q09 ?_ ?_ | refine q07 ?_ ?_ | refine q06 ?_ ?_) <;> intro h2
    · have h2 : decide ((n : Int) ≤ s) = true := h2
      rw [h2] at hK
      try simp only [seval, go_sem, Nat.add_assoc, AB.calm, kpX, kpM, Nat.one_ne_zero]
      apply hK
      simp only [Tryz.results33, retK, ares, Bool.and_true, Bool.true_and, AV.ofResults, St.trunc, q00, q01, true_and, and_true, List.cons.injEq, exists_eq_left']
      simp only [q36]
      rfl
    · have h2 : decide ((n : Int) ≤ s) = false := h2
      rw [h2] at hK
      have hs0 : ¬ s < 0 := of_decide_eq_false h1
      have hs1 : ¬ (n : Int) ≤ s := of_decide_eq_false h2
      obtain ⟨k, rfl⟩ : ∃ k : Nat, s = (k : Int) := ⟨s.toNat, by omega⟩
      have hk : k < n := by omega
      have hb := bk_at M.b hk
      have c1 : (0 : Int) ≤ ((k : Nat) : Int) ∧ Int.toNat ((k : Nat) : Int) < n := by omega
      have hS := sweep_call B (M.b k) M.t.now (h.b _) (by have := h.B; omega)
      unfold q0n at hS
      have hset := mm_setBn (pad := pad) ⟨M.c, ⟨M.t.now, addW M.t.seq 1, M.t.cl⟩, M.b, M.f⟩ (q1j (M.b k) M.t.now).1 hk
      obtain ⟨hp1, hp2⟩ := ptr_load (pad := pad) hk
      have hcl : (q1j (M.b k) M.t.now).2.length ≤ B := by
        have h3 := (sweep_ok (h.b k).1 M.t.now (M.b k).length).2.2
        have h4 := (h.b k).2.1
        unfold q15 at h3
        rw [List.take_length] at h3
        unfold q1j
        omega
      have hM1 : MOk n B (M.take.setB k (q1j (M.b k) M.t.now).1) := ⟨h.n1, h.n8, h.s, fun j => by
        simp only [Md.setB]
        split
        · exact book_sweep (h.b k) M.t.now
        · exact h.b j, h.m, h.ml, h.q, h.B⟩
      have hT := Tell_in (pad := pad) hM1 [] rfl hk (q1j (M.b k) M.t.now).2 (addW M.t.seq 1) (by have := h.B; omega)
      rw [List.append_nil] at hT
      try simp only [seval, go_sem, Nat.add_assoc, AB.calm, kpX, kpM, Nat.one_ne_zero]
      refine q0t (Sym.ACall.mono (model_take n pad M) ?_)
      rintro _ _ ⟨rfl, rfl⟩
      try simp only [seval, go_sem, Nat.add_assoc, AB.calm, kpX, kpM, Nat.one_ne_zero]
      refine q0k tyOk (by rfl) (by simp only [q0c, mlen]; omega) (by kernel_rfl) rfl ?_
      try simp only [seval, go_sem, Nat.add_assoc, AB.calm, kpX, kpM, Nat.one_ne_zero, c1, hb, q3p, Md.take]
      refine q3l hS rfl ?_
      try simp only [seval, go_sem, Nat.add_assoc, AB.calm, kpX, kpM, Nat.one_ne_zero, c1, hb, q3p]
      refine ⟨by kernel_rfl, ?_⟩
      try simp only [seval, go_sem, Nat.add_assoc, AB.calm, kpX, kpM, Nat.one_ne_zero, hset, c1, hp1, hp2]
      refine q2u (kp := kpM n) (fun b hb => by simp [kpM, hb]) (hT.mono ?_)
      rintro x m' rfl
      rw [List.append_nil]
      try simp only [seval, go_sem, Nat.add_assoc, AB.calm, kpX, kpM, Nat.one_ne_zero]
      apply hK
      simp only [Tryz.results33, retK, ares, Bool.and_true, Bool.true_and, AV.ofResults, St.trunc, q00, q01, true_and, and_true, List.cons.injEq, exists_eq_left']
      simp only [q36]
      simp only [Int.toNat_natCast]
      rfl
end Go.Proofs.YtdkcpcflfnakdaaGreat
namespace Go.Proofs.YtdkcpcflfnakdaaGreat
open Go Go.Proofs.YtdkcpcflfnakdaaGreat.Sym
set_option maxRecDepth 100000
set_option maxHeartbeats 1000000
set_option maxHeartbeats 1000000
def slO (sz : Nat) : Option (List AV) → AV
  | none => .v (.slice none 0 0)
  | some l => .sl sz l
def prs (l : List Pr) : List AV := l.map Pr.av
structure Rp where
  err : Int
  vals : Option (List Pr)
  evs : Option (List Ev)
  lost : Bool
def Rp.av (r : Rp) : AV := .agg [i64 r.err, slO 3 (r.vals.map prs), slO 8 (r.evs.map evts), bool r.lost]
def errR (e : Int) : Rp := ⟨e, none, none, false⟩
def Md.write (n : Nat) (M : Md) (o : Opb) : Md :=
  if M.t.cl = true then M.take else (M.take.setB (stN n o.u) (q29 (M.b (stN n o.u)) o M.t.now M.c.k)).tell (stN n o.u) (writeC (M.b (stN n o.u)) o M.t.now M.c.k) (addW M.t.seq 1)
def writeR (n : Nat) (M : Md) (o : Opb) : Rp := if M.t.cl = true then errR 5 else errR (q24 (M.b (stN n o.u)) o M.t.now M.c.k).2
theorem mok_write {n B : Nat} {M : Md} (h : MOk n B M) (o : Opb) (hB : B + 1 ≤ 900) : MOk n (B + 1) (M.take.setB (stN n o.u) (q29 (M.b (stN n o.u)) o M.t.now M.c.k)) :=
  ⟨h.n1, h.n8, h.s, fun j => by
    simp only [Md.setB]
    split
    · exact book_write (h.b _) o _ _
    · exact (h.b j).mono (Nat.le_succ _), h.m, fun j => Nat.le_succ_of_le (h.ml j), h.q, hB⟩
theorem model_write {n pad B : Nat} {M : Md} (h : MOk n B M) (hB : B + 1 ≤ 900) (o : Opb) (hu : o.u.size ≤ 1000000) : q0h P 3 39 (modM n pad M) [.ptr 0 0, o.av] (fun x m' => x = (writeR n M o).av ∧ m' = modM n pad (M.write n o)) := by
  refine q2p tyOk Tryz.func39 rfl rfl (by rw [q0c, mlen]; omega) ?_
  intro K hK
  rw [q0c] at hK
  simp only [Tryz.ntmps39, List.length_cons, List.length_nil, Nat.reduceAdd, Nat.reduceSub, List.replicate, List.cons_append, List.nil_append]
  unfold Md.write writeR at hK
  try simp only [seval, go_sem, Nat.add_assoc, AB.calm, kpX, kpM, Nat.one_ne_zero, Opb.av]
  refine q0t (mod_in (model_take n pad M) rfl ?_)
  rintro _ _ ⟨rfl, rfl⟩
  refine ⟨rfl, _, rfl, ?_⟩
  have hs := (stN_lt h.n1 h.n8 o.u).1
  have hM1 := mok_write h o hB
  have hT1 : MOk n B M.take := ⟨h.n1, h.n8, h.s, h.b, h.m, h.ml, h.q, h.B⟩
  have e1 : M.take.t.cl = M.t.cl := rfl
  have e2 : M.take.t.now = M.t.now := rfl
  have e3 : M.take.b = M.b := rfl
  have e4 : M.take.c = M.c := rfl
  have hw := write_call B (M.b (stN n o.u)) o M.t.now M.c.k (h.b _) (by have := h.B; omega)
  have hcl : (writeC (M.b (stN n o.u)) o M.t.now M.c.k).length ≤ 50000 := by have := settleC_len (M.b (stN n o.u)) o.u (q24 (M.b (stN n o.u)) o M.t.now M.c.k).1 M.t.now; unfold writeC; omega
  have hstr := stripe_in (pad := pad) hT1 o.u hu
  generalize M.take = M1 at *
  cases hc : M.t.cl with
  | true =>
    rw [hc, if_pos rfl, if_pos rfl] at hK
    rw [hc] at e1
    try simp only [seval, go_sem, Nat.add_assoc, AB.calm, kpX, kpM, Nat.one_ne_zero, e1]
    apply hK
    simp only [Tryz.results39, retK, ares, Bool.and_true, AV.ofResults, St.trunc, q00, q01, aload, acell, T, TI.isAgg, List.getD_cons_zero, List.getD_cons_succ, List.drop_zero, and_true, ↓reduceIte, List.cons.injEq, exists_eq_left']
    simp only [mm_at1, List.getElem?_cons_zero, List.getElem?_cons_succ, List.take_succ_cons, List.take_zero, q23, and_true, true_and, List.length_cons, List.length_nil, q00, q01, Nat.reduceAdd, Nat.le_refl]
    rfl
  | false =>
    rw [hc, if_neg (by decide), if_neg (by decide)] at hK
    rw [hc] at e1
    generalize stN n o.u = k at *
    have hb := bk_at M.b hs
    have c1 : (0 : Int) ≤ ((k : Nat) : Int) ∧ Int.toNat ((k : Nat) : Int) < n := by omega
    unfold q0n at hw
    have hset := fun r => mm_setB (pad := pad) M1 r (q29 (M.b k) o M.t.now M.c.k) hs
    rw [e3] at hset
    obtain ⟨hp1, hp2⟩ := ptr_load (pad := pad) hs
    unfold Opb.av at hw
    try simp only [seval, go_sem, Nat.add_assoc, AB.calm, kpX, kpM, Nat.one_ne_zero, e1]
    refine q0t (Sym.ACall.mono (hstr _) ?_)
    rintro _ _ ⟨rfl, rfl⟩
    try simp only [seval, go_sem, Nat.add_assoc, AB.calm, kpX, kpM, Nat.one_ne_zero]
    refine q0k tyOk (by rfl) (by simp only [mm_alen, List.length_cons, List.length_nil, mlen]; omega) (by kernel_rfl) rfl ?_
    try simp only [seval, go_sem, Nat.add_assoc, AB.calm, kpX, kpM, Nat.one_ne_zero, c1, e2, e3, e4, hb, q3p]
    refine q3l hw rfl ?_
    try simp only [seval, go_sem, Nat.add_assoc, AB.calm, kpX, kpM, Nat.one_ne_zero, c1, hb, q3p]
    refine ⟨by (rcases n_cases h.n1 h.n8 with rfl | rfl | rfl | rfl | rfl | rfl | rfl | rfl <;> kernel_rfl), ?_⟩
    try simp only [seval, go_sem, Nat.add_assoc, AB.calm, kpX, kpM, Nat.one_ne_zero, c1, hb, q3p]
    refine q0k tyOk (by rfl) (by simp only [mm_alen, List.length_cons, List.length_nil, mlen]; omega) (by kernel_rfl) rfl ?_
    try simp only [seval, go_sem, Nat.add_assoc, AB.calm, kpX, kpM, Nat.one_ne_zero, c1, e3, hb, q3p]
    refine ⟨by kernel_rfl, ?_⟩
    try simp only [seval, go_sem, Nat.add_assoc, AB.calm, kpX, kpM, Nat.one_ne_zero, hset, c1, hp1, hp2]
    refine q2u (kp := kpM n) (fun b hb => by simp [kpM, hb]) ((Tell_in hM1 _ ?_ hs _ _ hcl).mono ?_)
    · rfl
    rintro x m' rfl
    try simp only [seval, go_sem, Nat.add_assoc, AB.calm, kpX, kpM, Nat.one_ne_zero]
    apply hK
    simp only [Tryz.results39, retK, ares, Bool.and_true, AV.ofResults, St.trunc, q00, q01, aload, acell, T, TI.isAgg, List.getD_cons_zero, List.getD_cons_succ, List.drop_zero, and_true, ↓reduceIte, List.cons.injEq, exists_eq_left']
    simp only [mm_at1, List.getElem?_cons_zero, List.getElem?_cons_succ, List.take_succ_cons, List.take_zero, q23, and_true, true_and, List.length_cons, List.length_nil, q00, q01, Nat.reduceAdd, Nat.le_refl]
    rfl
end Go.Proofs.YtdkcpcflfnakdaaGreat
namespace Go.Proofs.YtdkcpcflfnakdaaGreat
open Go Go.Proofs.YtdkcpcflfnakdaaGreat.Sym
set_option maxRecDepth 100000
set_option maxHeartbeats 1000000
set_option maxHeartbeats 1000000
def countM (M : Md) (who : Int) (i : Nat) : Nat := ((List.range i).map fun j => cntM (M.f j).m who).sum
theorem countM_next (M : Md) (who : Int) (i : Nat) : countM M who (i + 1) = countM M who i + cntM (M.f i).m who := by
  simp [countM, List.range_succ]
theorem countM_le {n B : Nat} {M : Md} (h : MOk n B M) (who : Int) : ∀ i, countM M who i ≤ B * i
  | 0 => by simp [countM]
  | i + 1 => by
    have h1 := countM_le h who i
    have h2 := cnt_le (M.f i).m who
    have h3 := h.ml i
    rw [countM_next, Nat.mul_succ]
    omega
theorem Count_in {n pad B s : Nat} {M : Md} (h : MOk n B M) (r : List AB) (hs : s < n) (who : Int) :
    ACall P 69 (modM n pad M ++ r) [.ptr (fb s) 0, i64 who] (fun x m' => x = i64 (cntM (M.f s).m who : Nat) ∧ m' = modM n pad M ++ r) :=
  feed_inA M r hs (feed_Count (M.f s) who (by have := h.ml s; have := h.B; omega)) rfl rfl (by rintro x m' ⟨rfl, rfl⟩; exact ⟨_, rfl, rfl, by rw [setF_same]⟩)
theorem Watching_in {n pad B s : Nat} {M : Md} (h : MOk n B M) (r : List AB) (hs : s < n) (who : Int) (u : ByteArray) :
    ACall P 70 (modM n pad M ++ r) [.ptr (fb s) 0, i64 who, str u] (fun x m' => x = bool (watF (M.f s).m who u) ∧ m' = modM n pad M ++ r) :=
  feed_inA M r hs (feed_Watching (M.f s) who u (h.m s) (by have := h.ml s; have := h.B; omega)) rfl rfl (by rintro x m' ⟨rfl, rfl⟩; exact ⟨_, rfl, rfl, by rw [setF_same]⟩)
def Md.watchF (M : Md) (s : Nat) (who : Int) (u : ByteArray) : Md := M.setF s { M.f s with m := watchM (M.f s).m who u }
def Md.unwatchF (M : Md) (s : Nat) (who : Int) (u : ByteArray) : Md := M.setF s { M.f s with m := unwatchM (M.f s).m who u }
theorem Watch_in {n pad B s : Nat} {M : Md} (h : MOk n B M) (r : List AB) (hs : s < n) (who : Int) (u : ByteArray) :
    ACall P 71 (modM n pad M ++ r) [.ptr (fb s) 0, i64 who, str u] (fun x m' => m' = modM n pad (M.watchF s who u) ++ r) :=
  feed_inA M r hs (feed_Watch (M.f s) who u (h.m s) (by have := h.ml s; have := h.B; omega)) rfl rfl (by rintro x m' rfl; exact ⟨_, rfl, rfl⟩)
theorem Unwatch_in {n pad B s : Nat} {M : Md} (h : MOk n B M) (r : List AB) (hs : s < n) (who : Int) (u : ByteArray) :
    ACall P 43 (modM n pad M ++ r) [.ptr (fb s) 0, i64 who, str u] (fun x m' => m' = modM n pad (M.unwatchF s who u) ++ r) :=
  feed_inA M r hs (feed_Unwatch (M.f s) who u (h.m s) (by have := h.ml s; have := h.B; omega)) rfl rfl (by rintro x m' rfl; exact ⟨_, rfl, rfl⟩)
theorem Drain_in {n pad B s : Nat} {M : Md} (h : MOk n B M) (r : List AB) (hr : r.all (AB.calm n) = true) (hs : s < n) (who : Int) (hw : cli who = true) :
    q0j P (kpM n) 67 (modM n pad M ++ r) [.ptr (fb s) 0, i64 who] (fun x m' => x = .tup [.sl 8 (evts ((M.f s).q who.toNat).1), bool ((M.f s).q who.toNat).2] ∧ m' = modM n pad (M.setF s ((M.f s).drain who)) ++ r) := by
  refine feed_in M r hs (feed_Drain (M.f s) who (fun k => by have := h.q s k; omega)) rfl rfl hr ?_
  rintro x m' ⟨rfl, rfl⟩
  rw [if_pos hw, drainL, if_pos hw, drainB, if_pos hw]
  exact ⟨_, rfl, rfl, rfl⟩
def fullW (n : Nat) (M : Md) (who : Int) (u : ByteArray) : Bool := (!watF (M.f (stN n u)).m who u) && decide (M.c.w ≤ (countM M who n : Nat))
theorem model_watch {n pad B : Nat} {M : Md} (h : MOk n B M) (who : Int) (u : ByteArray) (hu : u.size ≤ 1000000) : ACall P 41 (modM n pad M) [.ptr 0 0, i64 who, str u]
    (fun x m' => x = i64 (if fullW n M who u = true then 4 else 0) ∧ m' = modM n pad (if fullW n M who u = true then M else M.watchF (stN n u) who u)) := by
  refine q2q tyOk Tryz.func41 rfl rfl ?_
  intro K hK
  rw [q0c] at hK ⊢
  simp only [Tryz.ntmps41, List.length_cons, List.length_nil, Nat.reduceAdd, Nat.reduceSub, List.replicate, List.cons_append, List.nil_append]
  have hs := (stN_lt h.n1 h.n8 u).1
  unfold fullW at hK
  have hstr := stripe_in (pad := pad) h u hu
  generalize stN n u = k at *
  have c1 : (0 : Int) ≤ ((k : Nat) : Int) ∧ Int.toNat ((k : Nat) : Int) < n := by omega
  obtain ⟨hp1, hp2⟩ := ptr_load (pad := pad) hs
  have hstr0 := hstr []
  rw [List.append_nil] at hstr0
  try simp only [seval, go_sem, Nat.add_assoc, AB.calm, kpX, kpM, Nat.one_ne_zero]
  refine q0k tyOk (by rfl) (by simp only [q0c, mlen]; omega) (by kernel_rfl) rfl ?_
  try simp only [seval, go_sem, Nat.add_assoc, AB.calm, kpX, kpM, Nat.one_ne_zero]
  have hg : modM n pad M ++ List.replicate 0 AB.gone = modM n pad M := by simp
  refine q55 hstr0 (by rfl) ?_
  try simp only [seval, go_sem, Nat.add_assoc, AB.calm, kpX, kpM, Nat.one_ne_zero, c1, hp1, hp2]
  refine ⟨by kernel_rfl, ?_⟩
  try simp only [seval, go_sem, Nat.add_assoc, AB.calm, kpX, kpM, Nat.one_ne_zero]
  refine q12 tyOk (α := Nat) (mlen n) [0, 1, 2, 7, 8, 23, 24, 25] (fun i => i ≤ n)
    (fun i => ⟨[.ptr 0 0, i64 who, str u, .any, .any, .any, .any, .ptr (fb k) 0, i64 (countM M who i : Nat), .any, .any, .any, .any, .any, .any, .any, .any, .any, .any, .any, .any, .any, .any, .own 2 1 0 n, i64 n, i64 i, .any, .any, .any, .any, .any, .any, .any, .any, .any, .any, .any, .any, .any, .any, .any, .any, .any, .any, .any, .any, .any, .any, .any, .any, .any, .any, .any], modM n pad M⟩)
    (fun i => n - i) 0 (Nat.le_refl _) (Nat.zero_le _) ?_ ?_
  · simp only [St.trunc, St.keep, q00, q01, keepV, ml_n0, ml_n2, q36, ml_nf hs, List.elem_cons, List.elem_nil, Nat.reduceAdd, Nat.reduceBEq, Nat.zero_add, Bool.false_eq_true, ↓reduceIte]
    rfl
  intro i hi
  try simp only [seval, go_sem, Nat.add_assoc, AB.calm, kpX, kpM, Nat.one_ne_zero]
  (first | refine q05 ?_ ?_ | refine q08 ?_ ?_ | refine q09 ?_ ?_ | refine q07 ?_ ?_ | refine q06 ?_ ?_) <;> intro hc
  · have hlt : i < n := by simpa using hc
    have c2 : (0 : Int) ≤ ((i : Nat) : Int) ∧ Int.toNat ((i : Nat) : Int) < n := by omega
    obtain ⟨hq1, hq2⟩ := ptr_load (pad := pad) hlt
    have hC := Count_in (pad := pad) h [] hlt who
    rw [List.append_nil] at hC
    have hcl := countM_le h who i
    have hcl2 := cnt_le (M.f i).m who
    have hcl3 := h.ml i
    have hB := h.B
    have hn8 := h.n8
    have hmul : B * i ≤ 900 * 8 := Nat.mul_le_mul hB (by omega)
    have ew : IntKind.i64.wrap (((countM M who i : Nat) : Int) + ((cntM (M.f i).m who : Nat) : Int)) = ((countM M who i + cntM (M.f i).m who : Nat) : Int) := by rw [wrap_i64 (by omega) (by omega)]; omega
    have ew2 : IntKind.i64.wrap ((i : Int) + 1) = ((i + 1 : Nat) : Int) := by rw [wrap_i64 (by omega) (by omega)]; rfl
    try simp only [seval, go_sem, Nat.add_assoc, AB.calm, kpX, kpM, Nat.one_ne_zero, c2, hq1, hq2]
    refine q0t (Sym.ACall.mono hC ?_)
    rintro _ _ ⟨rfl, rfl⟩
    try simp only [seval, go_sem, Nat.add_assoc, AB.calm, kpX, kpM, Nat.one_ne_zero, ew, ew2]
    simp only [q0f, St.trunc, St.keep, q00, q01, keepV, ml_n0, ml_n2, q36, ml_nf hs, ml_nf hlt, List.elem_cons, List.elem_nil, Nat.reduceAdd, Nat.reduceBEq, Nat.zero_add, Bool.false_eq_true, ↓reduceIte]
    exact ⟨i + 1, hlt, by omega, by rw [countM_next]⟩
  · have hge : i = n := by have : ¬ ((i : Int) < (n : Int)) := by simpa using hc
                           omega
    subst hge
    try simp only [seval, go_sem, Nat.add_assoc, AB.calm, kpX, kpM, Nat.one_ne_zero]
    have hn8 := h.n8
    have hW := Watching_in (pad := pad) h [] hs who u
    rw [List.append_nil] at hW
    refine q0t (Sym.ACall.mono hW ?_)
    rintro _ _ ⟨rfl, rfl⟩
    try simp only [seval, go_sem, Nat.add_assoc, AB.calm, kpX, kpM, Nat.one_ne_zero]
    cases hw : watF (M.f k).m who u with
    | true =>
      rw [hw, Bool.not_true, Bool.false_and, if_neg (by decide), if_neg (by decide)] at hK
      try simp only [seval, go_sem, Nat.add_assoc, AB.calm, kpX, kpM, Nat.one_ne_zero]
      have hC := Watch_in (pad := pad) h [] hs who u
      rw [List.append_nil] at hC
      refine q0t (Sym.ACall.mono hC ?_)
      rintro _ _ rfl
      rw [List.append_nil]
      try simp only [seval, go_sem, Nat.add_assoc, AB.calm, kpX, kpM, Nat.one_ne_zero]
      apply hK
      simp only [Tryz.results41, retK, ares, Bool.and_true, Bool.true_and, AV.ofResults, St.trunc, q00, q01, List.getD_cons_zero, List.getD_cons_succ, true_and, and_true, List.cons.injEq, exists_eq_left']
      simp only [q36]
    | false =>
      rw [hw, Bool.not_false, Bool.true_and] at hK
      try simp only [seval, go_sem, Nat.add_assoc, AB.calm, kpX, kpM, Nat.one_ne_zero]
      (first | refine q05 ?_ ?_ | refine q08 ?_ ?_ | refine q09 ?_ ?_ | refine q07 ?_ ?_ | refine q06 ?_ ?_) <;> intro hf
      · rw [show decide (M.c.w ≤ ((countM M who i : Nat) : Int)) = true from hf, if_pos rfl, if_pos rfl] at hK
        try simp only [seval, go_sem, Nat.add_assoc, AB.calm, kpX, kpM, Nat.one_ne_zero]
        apply hK
        simp only [Tryz.results41, retK, ares, Bool.and_true, Bool.true_and, AV.ofResults, St.trunc, q00, q01, List.getD_cons_zero, List.getD_cons_succ, true_and, and_true, List.cons.injEq, exists_eq_left']
        simp only [q36]
      · rw [show decide (M.c.w ≤ ((countM M who i : Nat) : Int)) = false from hf, if_neg (by decide), if_neg (by decide)] at hK
        try simp only [seval, go_sem, Nat.add_assoc, AB.calm, kpX, kpM, Nat.one_ne_zero]
        have hC := Watch_in (pad := pad) h [] hs who u
        rw [List.append_nil] at hC
        refine q0t (Sym.ACall.mono hC ?_)
        rintro _ _ rfl
        rw [List.append_nil]
        try simp only [seval, go_sem, Nat.add_assoc, AB.calm, kpX, kpM, Nat.one_ne_zero]
        apply hK
        simp only [Tryz.results41, retK, ares, Bool.and_true, Bool.true_and, AV.ofResults, St.trunc, q00, q01, List.getD_cons_zero, List.getD_cons_succ, true_and, and_true, List.cons.injEq, exists_eq_left']
        simp only [q36]
def Md.drains (M : Md) (who : Int) (i : Nat) : Md := { M with f := fun j => if j < i then (M.f j).drain who else M.f j }
theorem drains_0 (M : Md) (who : Int) : M.drains who 0 = M := by
  simp only [Md.drains, Nat.not_lt_zero, if_false]
theorem drains_next (M : Md) (who : Int) (i : Nat) : (M.drains who i).setF i (((M.drains who i).f i).drain who) = M.drains who (i + 1) := by
  simp only [Md.drains, Md.setF, Nat.lt_irrefl, if_false]
  congr 1
  funext j
  by_cases h1 : j = i
  · subst h1; simp
  · have e : (j < i + 1) = (j < i) := by simp; omega
    simp only [if_neg h1, e]
theorem drains_at (M : Md) (who : Int) (i : Nat) : (M.drains who i).f i = M.f i := by simp [Md.drains]
theorem mok_drains {n B : Nat} {M : Md} (h : MOk n B M) (who : Int) (i : Nat) : MOk n B (M.drains who i) :=
  ⟨h.n1, h.n8, h.s, h.b, fun j => by
    simp only [Md.drains]
    split
    · unfold Fd.drain; split <;> exact h.m j
    · exact h.m j, fun j => by
    simp only [Md.drains]
    split
    · unfold Fd.drain; split <;> exact h.ml j
    · exact h.ml j, fun j k => by
    simp only [Md.drains]
    split
    · unfold Fd.drain
      split
      · simp only [Fd.setQ]
        split
        · simp
        · exact h.q j k
      · exact h.q j k
    · exact h.q j k, h.B⟩
def rowsW (M : Md) (who : Int) (i : Nat) : Rws := (List.range i).map fun j => ((M.f j).q who.toNat).1
def lostW (M : Md) (who : Int) (i : Nat) : Bool := (List.range i).any fun j => ((M.f j).q who.toNat).2
theorem rowsW_next (M : Md) (who : Int) (i : Nat) : rowsW M who (i + 1) = rowsW M who i ++ [((M.f i).q who.toNat).1] := by simp [rowsW, List.range_succ]
theorem lostW_next (M : Md) (who : Int) (i : Nat) : lostW M who (i + 1) = (lostW M who i || ((M.f i).q who.toNat).2) := by simp [lostW, List.range_succ]
theorem rowsW_len (M : Md) (who : Int) (i : Nat) : (rowsW M who i).length = i := by simp [rowsW]
theorem model_poll {n pad B : Nat} {M : Md} (h : MOk n B M) (who : Int) (hw : cli who = true) : q0h P 3 40 (modM n pad M) [.ptr 0 0, i64 who]
    (fun x m' => x = Rp.av ⟨0, none, some (mergeF (rowsW M who n)), lostW M who n⟩ ∧ m' = modM n pad (M.drains who n)) := by
  refine q2p tyOk Tryz.func40 rfl rfl (by rw [q0c, mlen]; omega) ?_
  intro K hK
  rw [q0c] at hK
  simp only [Tryz.ntmps40, List.length_cons, List.length_nil, Nat.reduceAdd, Nat.reduceSub, List.replicate, List.cons_append, List.nil_append]
  try simp only [seval, go_sem, Nat.add_assoc, AB.calm, kpX, kpM, Nat.one_ne_zero]
  refine loopK_turn (Turns.adopt (i := 6) 39 1 rfl) ?_
  try simp only [seval, go_sem, Nat.add_assoc, AB.calm, kpX, kpM, Nat.one_ne_zero]
  refine q12 tyOk (α := Nat) (mlen n + 3) [0, 1, 4, 5, 6, 14, 15, 16] (fun i => i ≤ n)
    (fun i => ⟨[.ptr 0 0, i64 who, .any, .any, .ptr (mlen n) 0, .ptr (mlen n + 1) 0, .own (mlen n + 2) 1 0 i, .any, .any, .any, .any, .any, .any, .any, .own 2 1 0 n, i64 n, i64 i, .any, .any, .any, .any, .any, .any, .any, .any, .any, .any, .any, .any, .any, .any, .any, .any, .any, .any, .any, .any, .any, .any, .any, .any], modM n pad (M.drains who i) ++ [.box [i64 0, .v (.slice none 0 0), .v (.slice none 0 0), bool false], .box [i64 0, .v (.slice none 0 0), .v (.slice none 0 0), bool (lostW M who i)], .row 39 1 (rws (rowsW M who i))]⟩)
    (fun i => n - i) 0 (by omega) (Nat.zero_le _) ?_ ?_
  · rw [drains_0]
    simp only [St.trunc, St.keep, q00, q01, AB.trunc, keepV, ml_k0, ml_k2, ml_kl, ml_kl0, mm_rn3, Nat.reduceLeDiff, List.elem_cons, List.elem_nil, List.take_succ_cons, List.take_zero, List.map_cons, List.map_nil, Nat.reduceAdd, Nat.reduceBEq, Nat.zero_add, Bool.false_eq_true, ↓reduceIte]
    rfl
  intro i hi
  try simp only [seval, go_sem, Nat.add_assoc, AB.calm, kpX, kpM, Nat.one_ne_zero]
  (first | refine q05 ?_ ?_ | refine q08 ?_ ?_ | refine q09 ?_ ?_ | refine q07 ?_ ?_ | refine q06 ?_ ?_) <;> intro hc
  · have hlt : i < n := by simpa using hc
    have c2 : (0 : Int) ≤ ((i : Nat) : Int) ∧ Int.toNat ((i : Nat) : Int) < n := by omega
    obtain ⟨hq1, hq2⟩ := ptr_load (pad := pad) hlt
    have hn8 := h.n8
    have ew2 : IntKind.i64.wrap ((i : Int) + 1) = ((i + 1 : Nat) : Int) := by rw [wrap_i64 (by omega) (by omega)]; rfl
    have hl := rowsW_len M who i
    try simp only [seval, go_sem, Nat.add_assoc, AB.calm, kpX, kpM, Nat.one_ne_zero, c2, hq1, hq2]
    refine q2u (kp := kpM n) (fun b hb => by simp [kpM, show b < 3 by omega]) ((Drain_in (mok_drains h who i) _ ?_ hlt who hw).mono ?_)
    · rfl
    rintro x m' ⟨rfl, rfl⟩
    rw [drains_next, drains_at]
    try simp only [seval, go_sem, Nat.add_assoc, AB.calm, kpX, kpM, Nat.one_ne_zero, rws_len, hl]
    refine ⟨⟨by simp only [maxLen]; omega, by omega⟩, ?_⟩
    have er : rws (rowsW M who i) ++ [.sl 8 (evts ((M.f i).q who.toNat).1)] = rws (rowsW M who (i + 1)) := by rw [rowsW_next, rws, rws, List.map_append]; rfl
    have el := lostW_next M who i
    cases hL : lostW M who i with
    | true =>
      rw [hL, Bool.true_or] at el
      try simp only [seval, go_sem, Nat.add_assoc, AB.calm, kpX, kpM, Nat.one_ne_zero, ew2]
      simp only [q0f, St.trunc, St.keep, q00, q01, AB.trunc, keepV, ml_k0, ml_k2, ml_kl, ml_kl0, mm_rn3, Nat.reduceLeDiff, er, List.drop_zero, List.elem_cons, List.elem_nil, List.take_succ_cons, List.take_zero, List.map_cons, List.map_nil, Nat.reduceAdd, Nat.reduceBEq, Nat.le_refl, Nat.zero_add, Bool.false_eq_true, ↓reduceIte]
      exact ⟨i + 1, hlt, by omega, by rw [el]⟩
    | false =>
      rw [hL, Bool.false_or] at el
      try simp only [seval, go_sem, Nat.add_assoc, AB.calm, kpX, kpM, Nat.one_ne_zero, ew2]
      simp only [q0f, St.trunc, St.keep, q00, q01, AB.trunc, keepV, ml_k0, ml_k2, ml_kl, ml_kl0, mm_rn3, Nat.reduceLeDiff, er, List.drop_zero, List.elem_cons, List.elem_nil, List.take_succ_cons, List.take_zero, List.map_cons, List.map_nil, Nat.reduceAdd, Nat.reduceBEq, Nat.le_refl, Nat.zero_add, Bool.false_eq_true, ↓reduceIte]
      exact ⟨i + 1, hlt, by omega, by rw [el]⟩
  · have hge : i = n := by have : ¬ ((i : Int) < (n : Int)) := by simpa using hc
                           omega
    subst hge
    have hn8 := h.n8
    have hl := rowsW_len M who i
    have hM := feed_Merge (rowsW M who i) (by omega) (by
      have : ∀ k, total (rowsW M who k) ≤ 100 * k := by
        intro k
        induction k with
        | zero => simp [rowsW, total]
        | succ k ih =>
          have h1 := h.q k who.toNat
          rw [rowsW_next]
          simp only [total, List.map_append, List.sum_append, List.map_cons, List.map_nil, List.sum_cons, List.sum_nil] at ih ⊢
          omega
      have := this i
      omega) (by
      intro j
      by_cases hj : j < i
      · have := h.q j who.toNat
        simp only [rowsW, List.getD_eq_getElem?_getD, List.getElem?_map, List.getElem?_range hj, Option.map_some, Option.getD_some]
        omega
      · rw [List.getD_eq_getElem?_getD, List.getElem?_eq_none (by omega)]
        simp)
    try simp only [seval, go_sem, Nat.add_assoc, AB.calm, kpX, kpM, Nat.one_ne_zero]
    refine callO_shut ?_
    try simp only [seval, go_sem, Nat.add_assoc, AB.calm, kpX, kpM, Nat.one_ne_zero, rws_len, hl]
    rw [List.take_of_length_le (by rw [rws_len, hl]; exact Nat.le_refl _)]
    (refine q02 hM rfl ?_; rintro _ rfl)
    try simp only [seval, go_sem, Nat.add_assoc, AB.calm, kpX, kpM, Nat.one_ne_zero]
    apply hK
    simp only [Tryz.results40, retK, ares, Bool.and_true, AV.ofResults, St.trunc, q00, q01, aload, acell, T, TI.isAgg, List.getD_cons_zero, List.getD_cons_succ, List.drop_zero, and_true, ↓reduceIte, List.cons.injEq, exists_eq_left']
    simp only [mm_at0, List.getElem?_cons_zero, List.take_succ_cons, List.take_zero, q23, and_true, true_and, List.length_cons, List.length_nil, q00, q01, Nat.reduceAdd, Nat.le_refl]
    first | rfl | exact ⟨rfl, rfl⟩
end Go.Proofs.YtdkcpcflfnakdaaGreat
namespace Go.Proofs.YtdkcpcflfnakdaaGreat
open Go Go.Proofs.YtdkcpcflfnakdaaGreat.Sym
set_option maxRecDepth 100000
set_option maxHeartbeats 1000000
set_option maxHeartbeats 2000000
def badN (us : List ByteArray) : Bool := us.any fun u => !nameB u
def badO (o : Opb) : Bool :=
  if (o.kind == 1) = true then (!nameB o.u) || !(decide (0 ≤ o.id) && decide (o.id ≤ 255) && decide (1 ≤ o.st) && decide (o.st ≤ 9) && decide (0 ≤ o.pr) && decide (o.pr ≤ 9))
  else if (o.kind == 2 || o.kind == 3) = true then (!nameB o.u) || !inB o.id 0 255
  else if (o.kind == 4 || (o.kind == 6 || o.kind == 7)) = true then !nameB o.u
  else if (o.kind == 5) = true then badN o.us || !inB o.us.length 1 8
  else !(o.kind == 8 || o.kind == 9)
theorem bad_next {us : List ByteArray} {i : Nat} (h : i < us.length) : badN (us.take (i + 1)) = (badN (us.take i) || !nameB us[i]) := by
  rw [q1f h, badN, List.any_append]; simp [badN]
theorem model_Bad (o : Opb) (hu : o.us.length ≤ 1000) : PCall P 14 [o.av] (fun x => x = bool (badO o)) := by
  refine q0d tyOk Tryz.func14 rfl rfl ?_
  intro K hK
  simp only [Tryz.ntmps14, List.length_cons, List.length_nil, Nat.reduceAdd, Nat.reduceSub, List.replicate, List.cons_append, List.nil_append]
  unfold badO at hK
  try simp only [seval, go_sem, Opb.av]
  cases h1 : (o.kind == 1)
  · rw [h1, if_neg (by decide)] at hK
    try simp only [seval, go_sem]
    cases h2 : (o.kind == 2)
    · cases h3 : (o.kind == 3)
      · rw [h2, h3, if_neg (by decide)] at hK
        try simp only [seval, go_sem, h3]
        cases h4 : (o.kind == 4)
        · try simp only [seval, go_sem]
          cases h6 : (o.kind == 6)
          · try simp only [seval, go_sem]
            cases h7 : (o.kind == 7)
            · rw [h4, h6, h7, if_neg (by decide)] at hK
              try simp only [seval, go_sem]
              cases h5 : (o.kind == 5)
              · rw [h5, if_neg (by decide)] at hK
                try simp only [seval, go_sem]
                cases h8 : (o.kind == 8)
                · try simp only [seval, go_sem]
                  cases h9 : (o.kind == 9)
                  · rw [h8, h9] at hK
                    try simp only [seval, go_sem]
                    apply hK
                    simp only [Tryz.results14, retK, ares, Bool.and_true, Bool.true_and, AV.ofResults, St.trunc, q00, q01, List.getD_cons_zero, List.getD_cons_succ, List.take_zero, List.map_nil, true_and, and_true, List.cons.injEq, exists_eq_left']
                    try rfl
                  · rw [h8, h9] at hK
                    try simp only [seval, go_sem]
                    apply hK
                    simp only [Tryz.results14, retK, ares, Bool.and_true, Bool.true_and, AV.ofResults, St.trunc, q00, q01, List.getD_cons_zero, List.getD_cons_succ, List.take_zero, List.map_nil, true_and, and_true, List.cons.injEq, exists_eq_left']
                    try rfl
                · rw [h8] at hK
                  try simp only [seval, go_sem]
                  apply hK
                  simp only [Tryz.results14, retK, ares, Bool.and_true, Bool.true_and, AV.ofResults, St.trunc, q00, q01, List.getD_cons_zero, List.getD_cons_succ, List.take_zero, List.map_nil, true_and, and_true, List.cons.injEq, exists_eq_left']
                  try rfl
              · rw [h5, if_pos rfl] at hK
                try simp only [seval, go_sem]
                refine q12 tyOk (α := Nat) 1 [1, 47, 48, 49] (fun i => i ≤ o.us.length ∧ badN (o.us.take i) = false)
                  (fun i => ⟨[.any, .ptr 0 0, .any, .any, .any, .any, .any, .any, .any, .any, .any, .any, .any, .any, .any, .any, .any, .any, .any, .any, .any, .any, .any, .any, .any, .any, .any, .any, .any, .any, .any, .any, .any, .any, .any, .any, .any, .any, .any, .any, .any, .any, .any, .any, .any, .any, .any, .sl 1 (o.us.map fun x => str x), i64 (o.us.map fun x => str x).length, i64 i, .any, .any, .any, .any, .any, .any, .any, .any, .any, .any, .any, .any, .any, .any, .any], [.box [i64 o.kind, str o.u, i64 o.id, i64 o.st, i64 o.pr, u64 o.ttl, .sl 1 (o.us.map fun x => str x)]]⟩)
                  (fun i => o.us.length - i) 0 (Nat.zero_le _) ⟨Nat.zero_le _, rfl⟩ rfl ?_
                rintro i ⟨hi, hbad⟩
                try simp only [seval, go_sem, List.length_map]
                (first | refine q05 ?_ ?_ | refine q08 ?_ ?_ | refine q09 ?_ ?_ | refine q07 ?_ ?_ | refine q06 ?_ ?_) <;> intro hc
                · have hlt : i < o.us.length := by simpa using hc
                  have c1 : (0 : Int) ≤ (i : Int) ∧ Int.toNat (i : Int) < o.us.length := by omega
                  have eg : (o.us.map fun x => str x).getD (Int.toNat (i : Int)) .any = str o.us[i] := by
                    simp [List.getD_eq_getElem?_getD, hlt]
                  have ew : IntKind.i64.wrap ((i : Int) + 1) = ((i + 1 : Nat) : Int) := by rw [wrap_i64 (by omega) (by omega)]; rfl
                  have hn := bad_next hlt
                  try simp only [seval, go_sem, c1, eg, List.length_map]
                  (refine q02 (q3z o.us[i]) rfl ?_; rintro _ rfl)
                  try simp only [seval, go_sem]
                  cases hb : nameB o.us[i]
                  · have hbt : badN o.us = true := by
                      rw [badN, List.any_eq_true]
                      exact ⟨o.us[i], List.getElem_mem hlt, by rw [hb]; rfl⟩
                    rw [hbt, Bool.true_or] at hK
                    try simp only [seval, go_sem]
                    apply hK
                    simp only [Tryz.results14, retK, ares, Bool.and_true, Bool.true_and, AV.ofResults, St.trunc, q00, q01, List.getD_cons_zero, List.getD_cons_succ, List.take_zero, List.map_nil, true_and, and_true, List.cons.injEq, exists_eq_left']
                    try rfl
                  · try simp only [seval, go_sem, ew]
                    simp only [q0f, St.trunc, St.keep, q00, q01, AB.trunc, keepV, List.elem_cons, List.elem_nil, List.take_succ_cons, List.take_zero, List.map_cons, List.map_nil, Nat.reduceAdd, Nat.reduceBEq, Nat.reduceLeDiff, Nat.zero_add, Bool.false_eq_true, ↓reduceIte]
                    exact ⟨i + 1, ⟨hlt, by rw [hn, hbad, hb]; rfl⟩, by omega, by first | rfl | simp⟩
                · have hge : i = o.us.length := by have : ¬ ((i : Int) < (o.us.length : Int)) := by simpa using hc
                                                   omega
                  subst hge
                  rw [List.take_length] at hbad
                  rw [hbad, Bool.false_or] at hK
                  try simp only [seval, go_sem, List.length_map]
                  (refine q02 (q2j o.us.length 1 8) rfl ?_; rintro _ rfl)
                  try simp only [seval, go_sem]
                  apply hK
                  simp only [Tryz.results14, retK, ares, Bool.and_true, Bool.true_and, AV.ofResults, St.trunc, q00, q01, List.getD_cons_zero, List.getD_cons_succ, List.take_zero, List.map_nil, true_and, and_true, List.cons.injEq, exists_eq_left']
                  try rfl
            · rw [h4, h6, h7, if_pos (by rfl)] at hK
              try simp only [seval, go_sem]
              (refine q02 (q3z o.u) rfl ?_; rintro _ rfl)
              try simp only [seval, go_sem]
              apply hK
              simp only [Tryz.results14, retK, ares, Bool.and_true, Bool.true_and, AV.ofResults, St.trunc, q00, q01, List.getD_cons_zero, List.getD_cons_succ, List.take_zero, List.map_nil, true_and, and_true, List.cons.injEq, exists_eq_left']
              try rfl
          · rw [h4, h6, if_pos (by rfl)] at hK
            try simp only [seval, go_sem]
            (refine q02 (q3z o.u) rfl ?_; rintro _ rfl)
            try simp only [seval, go_sem]
            apply hK
            simp only [Tryz.results14, retK, ares, Bool.and_true, Bool.true_and, AV.ofResults, St.trunc, q00, q01, List.getD_cons_zero, List.getD_cons_succ, List.take_zero, List.map_nil, true_and, and_true, List.cons.injEq, exists_eq_left']
            try rfl
        · rw [h4, if_pos (by rfl)] at hK
          try simp only [seval, go_sem]
          (refine q02 (q3z o.u) rfl ?_; rintro _ rfl)
          try simp only [seval, go_sem]
          apply hK
          simp only [Tryz.results14, retK, ares, Bool.and_true, Bool.true_and, AV.ofResults, St.trunc, q00, q01, List.getD_cons_zero, List.getD_cons_succ, List.take_zero, List.map_nil, true_and, and_true, List.cons.injEq, exists_eq_left']
          try rfl
      · rw [h2, h3, if_pos (by rfl)] at hK
        try simp only [seval, go_sem, h3]
        (refine q02 (q3z o.u) rfl ?_; rintro _ rfl)
        try simp only [seval, go_sem]
        cases hn : nameB o.u
        · rw [hn] at hK
          try simp only [seval, go_sem]
          apply hK
          simp only [Tryz.results14, retK, ares, Bool.and_true, Bool.true_and, AV.ofResults, St.trunc, q00, q01, List.getD_cons_zero, List.getD_cons_succ, List.take_zero, List.map_nil, true_and, and_true, List.cons.injEq, exists_eq_left']
          try rfl
        · rw [hn] at hK
          try simp only [seval, go_sem]
          (refine q02 (q2j o.id 0 255) rfl ?_; rintro _ rfl)
          try simp only [seval, go_sem]
          apply hK
          simp only [Tryz.results14, retK, ares, Bool.and_true, Bool.true_and, AV.ofResults, St.trunc, q00, q01, List.getD_cons_zero, List.getD_cons_succ, List.take_zero, List.map_nil, true_and, and_true, List.cons.injEq, exists_eq_left']
          try rfl
    · rw [h2, if_pos (by rfl)] at hK
      try simp only [seval, go_sem]
      (refine q02 (q3z o.u) rfl ?_; rintro _ rfl)
      try simp only [seval, go_sem]
      cases hn : nameB o.u
      · rw [hn] at hK
        try simp only [seval, go_sem]
        apply hK
        simp only [Tryz.results14, retK, ares, Bool.and_true, Bool.true_and, AV.ofResults, St.trunc, q00, q01, List.getD_cons_zero, List.getD_cons_succ, List.take_zero, List.map_nil, true_and, and_true, List.cons.injEq, exists_eq_left']
        try rfl
      · rw [hn] at hK
        try simp only [seval, go_sem]
        (refine q02 (q2j o.id 0 255) rfl ?_; rintro _ rfl)
        try simp only [seval, go_sem]
        apply hK
        simp only [Tryz.results14, retK, ares, Bool.and_true, Bool.true_and, AV.ofResults, St.trunc, q00, q01, List.getD_cons_zero, List.getD_cons_succ, List.take_zero, List.map_nil, true_and, and_true, List.cons.injEq, exists_eq_left']
        try rfl
  · rw [h1, if_pos rfl] at hK
    try simp only [seval, go_sem]
    (refine q02 (q3z o.u) rfl ?_; rintro _ rfl)
    try simp only [seval, go_sem]
    cases hn : nameB o.u
    · rw [hn] at hK
      try simp only [seval, go_sem]
      apply hK
      simp only [Tryz.results14, retK, ares, Bool.and_true, Bool.true_and, AV.ofResults, St.trunc, q00, q01, List.getD_cons_zero, List.getD_cons_succ, List.take_zero, List.map_nil, true_and, and_true, List.cons.injEq, exists_eq_left']
      try rfl
    · rw [hn] at hK
      try simp only [seval, go_sem]
      (refine q02 (sess_Right o.id o.st o.pr) rfl ?_; rintro _ rfl)
      try simp only [seval, go_sem]
      apply hK
      simp only [Tryz.results14, retK, ares, Bool.and_true, Bool.true_and, AV.ofResults, St.trunc, q00, q01, List.getD_cons_zero, List.getD_cons_succ, List.take_zero, List.map_nil, true_and, and_true, List.cons.injEq, exists_eq_left']
      try rfl
end Go.Proofs.YtdkcpcflfnakdaaGreat
namespace Go.Proofs.YtdkcpcflfnakdaaGreat
open Go Go.Proofs.YtdkcpcflfnakdaaGreat.Sym
set_option maxRecDepth 100000
set_option maxHeartbeats 1000000
set_option maxHeartbeats 2000000
def usersO (o : Opb) : List ByteArray := if (o.kind == 4) = true then [o.u] else o.us
abbrev strs (l : List ByteArray) : List AV := l.map fun x => str x
theorem strs_len (l : List ByteArray) : (strs l).length = l.length := by simp [strs]
theorem model_Users (o : Opb) (hk : (o.kind == 4 || o.kind == 5) = true) (hl : o.us.length ≤ 1000) : PCall P 13 [o.av] (fun x => x = .sl 1 (strs (usersO o))) := by
  refine q0d tyOk Tryz.func13 rfl rfl ?_
  intro K hK
  simp only [Tryz.ntmps13, List.length_cons, List.length_nil, Nat.reduceAdd, Nat.reduceSub, List.replicate, List.cons_append, List.nil_append]
  unfold usersO at hK
  try simp only [seval, go_sem, Opb.av]
  cases h4 : (o.kind == 4)
  · rw [h4, Bool.false_or] at hk
    rw [h4, if_neg (by decide)] at hK
    try simp only [seval, go_sem, hk, List.length_map]
    refine ⟨⟨by simp only [maxLen]; omega, by omega⟩, ?_⟩
    apply hK
    simp only [Tryz.results13, retK, ares, Bool.and_true, Bool.true_and, AV.ofResults, St.trunc, q00, q01, List.getD_cons_zero, List.getD_cons_succ, List.take_zero, List.drop_zero, List.map_nil, List.getElem?_cons_zero, List.getElem?_cons_succ, Nat.reduceLeDiff, true_and, and_true, ↓reduceIte, List.cons.injEq, exists_eq_left']
    rw [q20 (by simp)]
  · rw [h4, if_pos rfl] at hK
    try simp only [seval, go_sem]
    apply hK
    simp only [Tryz.results13, retK, ares, List.take_nil, Bool.and_true, Bool.true_and, AV.ofResults, St.trunc, q00, q01, List.getD_cons_zero, List.getD_cons_succ, List.take_zero, List.take_succ_cons, List.drop_zero, List.map_nil, List.map_cons, List.getElem?_cons_zero, List.getElem?_cons_succ, List.length_cons, List.length_nil, Nat.reduceAdd, Nat.reduceLeDiff, Nat.le_refl, true_and, and_true, ↓reduceIte, List.cons.injEq, exists_eq_left']
    try rfl
def doR (n : Nat) (M : Md) (who : Int) (o : Opb) : Rp :=
  if (badO o || !inB who 0 7) = true then errR 1
  else if (o.kind == 1 || (o.kind == 2 || o.kind == 3)) = true then writeR n M o
  else if (o.kind == 8) = true then ⟨0, none, some (mergeF (rowsW M who n)), lostW M who n⟩
  else if M.t.cl = true then errR 5
  else if (o.kind == 6) = true then errR (if fullW n M who o.u = true then 4 else 0)
  else if (o.kind == 7) = true then errR 0
  else if (o.kind == 9) = true then errR 0
  else ⟨0, some ((usersO o).map (presOf n M)), none, false⟩
def doM (n : Nat) (M : Md) (who : Int) (o : Opb) : Md :=
  if (badO o || !inB who 0 7) = true then M
  else if (o.kind == 1 || (o.kind == 2 || o.kind == 3)) = true then M.write n o
  else if (o.kind == 8) = true then M.drains who n
  else if M.t.cl = true then M
  else if (o.kind == 6) = true then (if fullW n M who o.u = true then M else M.watchF (stN n o.u) who o.u)
  else if (o.kind == 7) = true then M.unwatchF (stN n o.u) who o.u
  else if (o.kind == 9) = true then M.shut
  else M
structure OpOk (o : Opb) : Prop where
  u : o.u.size ≤ 1000
  l : o.us.length ≤ 1000
  us : ∀ u ∈ o.us, u.size ≤ 1000
theorem kinds {o : Opb} (h : badO o = false) (h1 : (o.kind == 1 || (o.kind == 2 || o.kind == 3)) = false) (h8 : (o.kind == 8) = false) (h6 : (o.kind == 6) = false) (h7 : (o.kind == 7) = false) (h9 : (o.kind == 9) = false) : (o.kind == 4 || o.kind == 5) = true := by
  simp only [Bool.or_eq_false_iff] at h1
  unfold badO at h
  rw [h1.1, h1.2.1, h1.2.2, h6, h7, h8, h9] at h
  cases h4 : (o.kind == 4) with
  | true => rfl
  | false =>
    cases h5 : (o.kind == 5) with
    | true => rfl
    | false => rw [h4, h5] at h; simp at h
theorem in_cli {who : Int} (h : inB who 0 7 = true) : cli who = true := by
  simp only [inB, cli, Bool.and_eq_true, decide_eq_true_eq] at h ⊢
  omega
theorem draw_lastD {P : Program} {T : TypeId → Option TI} {L : Nat} (hT : TyOk P T) (hm : P.follows .mixedOrders = true) {ops : Array Oper} {id : Nat} {k : List Fr} {s : St} {K : AExit → St → Prop} {c : Nat} {last : Oper}
    (hops : ops.toList.getLast? = some last) (hg : last.guard = none) (hnl : isNew last.op = false) (hL : L ≤ s.mem.length) (hb : backOk ops.toList 0 = true) (hc : q0g ops.toList.dropLast = c) (hla : lateAll (masks ops.toList []) ops.toList.dropLast.length = true)
    (h : drawR P T L ops ops.toList.dropLast 0 s.mem.length [] (.ops ops [last] :: k) { s with mem := s.mem ++ List.replicate c .gone } K) : restK P T L (.region id ops true) k s K :=
  draw_last hT hm (by obtain ⟨ys, e⟩ := List.getLast?_eq_some_iff.1 hops; rw [e, List.dropLast_concat]) hg hnl hL hb hc hla h
theorem Presence_in {n pad B : Nat} {M : Md} (h : MOk n B M) (u : ByteArray) (hl : u.size ≤ 1000000) (r : List AB) : ACall P 21 (modM n pad M ++ r) [.ptr 0 0, str u] (fun x m' => x = (presOf n M u).av ∧ m' = modM n pad M ++ r) :=
  mod_in (model_Presence h u hl) rfl (by rintro x m' ⟨rfl, rfl⟩; exact ⟨rfl, M, rfl, rfl, rfl⟩)
def wrE (n : Nat) (M : Md) (o : Opb) : Int := if M.t.cl = true then 5 else (q24 (M.b (stN n o.u)) o M.t.now M.c.k).2
theorem wr_av (n : Nat) (M : Md) (o : Opb) : (writeR n M o).av = .agg [i64 (wrE n M o), .v (.slice none 0 0), .v (.slice none 0 0), bool false] := by
  unfold writeR wrE
  split <;> rfl
theorem wr_bks (n : Nat) (M : Md) (o : Opb) : bks (writeR n M o).av = [] := by rw [wr_av]; rfl
theorem model_Do {n pad B : Nat} {M : Md} (h : MOk n B M) (hB : B + 1 ≤ 900) (who : Int) (o : Opb) (ho : OpOk o) : q0h P 3 19 (modM n pad M) [.ptr 0 0, i64 who, o.av]
    (fun x m' => x = (doR n M who o).av ∧ m' = modM n pad (doM n M who o)) := by
  refine q2p tyOk Tryz.func19 rfl rfl (by rw [q0c, mlen]; omega) ?_
  intro K hK
  rw [q0c] at hK
  simp only [Tryz.ntmps19, List.length_cons, List.length_nil, Nat.reduceAdd, Nat.reduceSub, List.replicate, List.cons_append, List.nil_append]
  unfold doR doM at hK
  have hBad := model_Bad o ho.l
  unfold Opb.av at hBad
  try simp only [seval, go_sem, Nat.add_assoc, AB.calm, kpX, kpM, Nat.one_ne_zero, Opb.av]
  (refine q02 hBad rfl ?_; rintro _ rfl)
  cases hb : badO o with
  | true =>
    simp only [hb, Bool.true_or, ↓reduceIte] at hK
    try simp only [seval, go_sem, Nat.add_assoc, AB.calm, kpX, kpM, Nat.one_ne_zero]
    apply hK
    simp only [Tryz.results19, retK, ares, Bool.and_true, AV.ofResults, St.trunc, q00, q01, aload, acell, T, TI.isAgg, List.getD_cons_zero, List.getD_cons_succ, List.drop_zero, and_true, ↓reduceIte, List.cons.injEq, exists_eq_left']
    simp only [mm_at1, List.getElem?_cons_zero, List.getElem?_cons_succ, List.take_succ_cons, List.take_zero, q23, and_true, true_and, List.length_cons, List.length_nil, q00, q01, Nat.reduceAdd, Nat.le_refl]
    first | rfl | exact ⟨rfl, rfl⟩
  | false =>
  try simp only [seval, go_sem, Nat.add_assoc, AB.calm, kpX, kpM, Nat.one_ne_zero]
  (refine q02 (q2j who 0 7) rfl ?_; rintro _ rfl)
  cases hw : inB who 0 7 with
  | false =>
    simp only [hb, hw, Bool.or_true, Bool.not_false, ↓reduceIte] at hK
    try simp only [seval, go_sem, Nat.add_assoc, AB.calm, kpX, kpM, Nat.one_ne_zero]
    apply hK
    simp only [Tryz.results19, retK, ares, Bool.and_true, AV.ofResults, St.trunc, q00, q01, aload, acell, T, TI.isAgg, List.getD_cons_zero, List.getD_cons_succ, List.drop_zero, and_true, ↓reduceIte, List.cons.injEq, exists_eq_left']
    simp only [mm_at1, List.getElem?_cons_zero, List.getElem?_cons_succ, List.take_succ_cons, List.take_zero, q23, and_true, true_and, List.length_cons, List.length_nil, q00, q01, Nat.reduceAdd, Nat.le_refl]
    first | rfl | exact ⟨rfl, rfl⟩
  | true =>
  simp only [hb, hw, Bool.not_true, Bool.or_self, Bool.false_eq_true, ↓reduceIte] at hK
  have hWr := model_write (pad := pad) h hB o (by have := ho.u; omega)
  unfold Opb.av at hWr
  have hcl := in_cli hw
  cases h1 : (o.kind == 1 || (o.kind == 2 || o.kind == 3)) with
  | true =>
    simp only [h1, ↓reduceIte] at hK
    have key : (P : Prop) → (K2 : Prop) → K2 → K2 := fun _ _ h => h
    cases k1 : (o.kind == 1) with
    | true =>
      try simp only [seval, go_sem, Nat.add_assoc, AB.calm, kpX, kpM, Nat.one_ne_zero, k1]
      refine q2u (kp := kpX n) (fun b hb => by simp [kpX, show b < 3 by omega]) (mod_inX hWr rfl ?_ ?_)
      · rfl
      rintro x m' ⟨rfl, rfl⟩
      refine ⟨wr_bks n M o, _, rfl, ?_⟩
      rw [wr_av n M o]
      try simp only [seval, go_sem, Nat.add_assoc, AB.calm, kpX, kpM, Nat.one_ne_zero]
      apply hK
      simp only [Tryz.results19, retK, ares, Bool.and_true, AV.ofResults, St.trunc, q00, q01, aload, acell, T, TI.isAgg, List.getD_cons_zero, List.getD_cons_succ, List.drop_zero, and_true, ↓reduceIte, List.cons.injEq, exists_eq_left']
      simp only [mm_at1, List.getElem?_cons_zero, List.getElem?_cons_succ, List.take_succ_cons, List.take_zero, q23, and_true, true_and, List.length_cons, List.length_nil, q00, q01, Nat.reduceAdd, Nat.le_refl]
      first | exact (wr_av n M o).symm | exact ⟨(wr_av n M o).symm, rfl⟩
    | false =>
      rw [k1, Bool.false_or] at h1
      cases k2 : (o.kind == 2) with
      | true =>
        try simp only [seval, go_sem, Nat.add_assoc, AB.calm, kpX, kpM, Nat.one_ne_zero, k1, k2]
        refine q2u (kp := kpX n) (fun b hb => by simp [kpX, show b < 3 by omega]) (mod_inX hWr rfl ?_ ?_)
        · rfl
        rintro x m' ⟨rfl, rfl⟩
        refine ⟨wr_bks n M o, _, rfl, ?_⟩
        rw [wr_av n M o]
        try simp only [seval, go_sem, Nat.add_assoc, AB.calm, kpX, kpM, Nat.one_ne_zero]
        apply hK
        simp only [Tryz.results19, retK, ares, Bool.and_true, AV.ofResults, St.trunc, q00, q01, aload, acell, T, TI.isAgg, List.getD_cons_zero, List.getD_cons_succ, List.drop_zero, and_true, ↓reduceIte, List.cons.injEq, exists_eq_left']
        simp only [mm_at1, List.getElem?_cons_zero, List.getElem?_cons_succ, List.take_succ_cons, List.take_zero, q23, and_true, true_and, List.length_cons, List.length_nil, q00, q01, Nat.reduceAdd, Nat.le_refl]
        first | exact (wr_av n M o).symm | exact ⟨(wr_av n M o).symm, rfl⟩
      | false =>
        rw [k2, Bool.false_or] at h1
        try simp only [seval, go_sem, Nat.add_assoc, AB.calm, kpX, kpM, Nat.one_ne_zero, k1, k2, h1]
        refine q2u (kp := kpX n) (fun b hb => by simp [kpX, show b < 3 by omega]) (mod_inX hWr rfl ?_ ?_)
        · rfl
        rintro x m' ⟨rfl, rfl⟩
        refine ⟨wr_bks n M o, _, rfl, ?_⟩
        rw [wr_av n M o]
        try simp only [seval, go_sem, Nat.add_assoc, AB.calm, kpX, kpM, Nat.one_ne_zero]
        apply hK
        simp only [Tryz.results19, retK, ares, Bool.and_true, AV.ofResults, St.trunc, q00, q01, aload, acell, T, TI.isAgg, List.getD_cons_zero, List.getD_cons_succ, List.drop_zero, and_true, ↓reduceIte, List.cons.injEq, exists_eq_left']
        simp only [mm_at1, List.getElem?_cons_zero, List.getElem?_cons_succ, List.take_succ_cons, List.take_zero, q23, and_true, true_and, List.length_cons, List.length_nil, q00, q01, Nat.reduceAdd, Nat.le_refl]
        first | exact (wr_av n M o).symm | exact ⟨(wr_av n M o).symm, rfl⟩
  | false =>
  have k1 : (o.kind == 1) = false := by simp only [Bool.or_eq_false_iff] at h1; exact h1.1
  have k2 : (o.kind == 2) = false := by simp only [Bool.or_eq_false_iff] at h1; exact h1.2.1
  have k3 : (o.kind == 3) = false := by simp only [Bool.or_eq_false_iff] at h1; exact h1.2.2
  simp only [h1, Bool.false_eq_true, ↓reduceIte] at hK
  cases h8 : (o.kind == 8) with
  | true =>
    simp only [h8, ↓reduceIte] at hK
    have hPo := model_poll (pad := pad) h who hcl
    try simp only [seval, go_sem, Nat.add_assoc, AB.calm, kpX, kpM, Nat.one_ne_zero, k1, k2, k3, h8]
    refine q2u (kp := kpX n) (fun b hb => by simp [kpX, show b < 3 by omega]) (mod_inX hPo rfl ?_ ?_)
    · rfl
    rintro x m' ⟨rfl, rfl⟩
    refine ⟨by rfl, _, rfl, ?_⟩
    try simp only [seval, go_sem, Nat.add_assoc, AB.calm, kpX, kpM, Nat.one_ne_zero, Rp.av, Option.map_none, Option.map_some, slO]
    apply hK
    simp only [Tryz.results19, retK, ares, Bool.and_true, AV.ofResults, St.trunc, q00, q01, aload, acell, T, TI.isAgg, List.getD_cons_zero, List.getD_cons_succ, List.drop_zero, and_true, ↓reduceIte, List.cons.injEq, exists_eq_left']
    simp only [mm_at1, List.getElem?_cons_zero, List.getElem?_cons_succ, List.take_succ_cons, List.take_zero, q23, and_true, true_and, List.length_cons, List.length_nil, q00, q01, Nat.reduceAdd, Nat.le_refl]
    first | rfl | exact ⟨rfl, rfl⟩
  | false =>
  simp only [h8, Bool.false_eq_true, ↓reduceIte] at hK
  cases hc : M.t.cl with
  | true =>
    simp only [hc, ↓reduceIte] at hK
    try simp only [seval, go_sem, Nat.add_assoc, AB.calm, kpX, kpM, Nat.one_ne_zero, k1, k2, k3, h8, hc]
    apply hK
    simp only [Tryz.results19, retK, ares, Bool.and_true, AV.ofResults, St.trunc, q00, q01, aload, acell, T, TI.isAgg, List.getD_cons_zero, List.getD_cons_succ, List.drop_zero, and_true, ↓reduceIte, List.cons.injEq, exists_eq_left']
    simp only [mm_at1, List.getElem?_cons_zero, List.getElem?_cons_succ, List.take_succ_cons, List.take_zero, q23, and_true, true_and, List.length_cons, List.length_nil, q00, q01, Nat.reduceAdd, Nat.le_refl]
    first | rfl | exact ⟨rfl, rfl⟩
  | false =>
  simp only [hc, Bool.false_eq_true, ↓reduceIte] at hK
  cases h6 : (o.kind == 6) with
  | true =>
    simp only [h6, ↓reduceIte] at hK
    try simp only [seval, go_sem, Nat.add_assoc, AB.calm, kpX, kpM, Nat.one_ne_zero, k1, k2, k3, h8, hc, h6]
    refine q0t (mod_in (model_watch h who o.u (by have := ho.u; omega)) rfl ?_)
    rintro _ _ ⟨rfl, rfl⟩
    refine ⟨rfl, _, rfl, ?_⟩
    try simp only [seval, go_sem, Nat.add_assoc, AB.calm, kpX, kpM, Nat.one_ne_zero]
    apply hK
    simp only [Tryz.results19, retK, ares, Bool.and_true, AV.ofResults, St.trunc, q00, q01, aload, acell, T, TI.isAgg, List.getD_cons_zero, List.getD_cons_succ, List.drop_zero, and_true, ↓reduceIte, List.cons.injEq, exists_eq_left']
    simp only [mm_at1, List.getElem?_cons_zero, List.getElem?_cons_succ, List.take_succ_cons, List.take_zero, q23, and_true, true_and, List.length_cons, List.length_nil, q00, q01, Nat.reduceAdd, Nat.le_refl]
    first | rfl | exact ⟨rfl, rfl⟩
  | false =>
  simp only [h6, Bool.false_eq_true, ↓reduceIte] at hK
  cases h7 : (o.kind == 7) with
  | true =>
    simp only [h7, ↓reduceIte] at hK
    try simp only [seval, go_sem, Nat.add_assoc, AB.calm, kpX, kpM, Nat.one_ne_zero, k1, k2, k3, h8, hc, h6, h7]
    have hs := (stN_lt h.n1 h.n8 o.u).1
    have hstr := stripe_in (pad := pad) h o.u (by have := ho.u; omega)
    generalize stN n o.u = k at *
    have c1 : (0 : Int) ≤ ((k : Nat) : Int) ∧ Int.toNat ((k : Nat) : Int) < n := by omega
    obtain ⟨hp1, hp2⟩ := ptr_load (pad := pad) hs
    refine draw_lastD tyOk (by rfl) rfl rfl rfl (by simp only [mm_alen, List.length_cons, List.length_nil, mlen]; omega) (by kernel_rfl) rfl (by kernel_rfl) ?_
    simp only [List.dropLast, List.getLast]
    try simp only [seval, go_sem, Nat.add_assoc, AB.calm, kpX, kpM, Nat.one_ne_zero]
    refine q55 (hstr _) (by rfl) ?_
    try simp only [seval, go_sem, Nat.add_assoc, AB.calm, kpX, kpM, Nat.one_ne_zero, c1, hp1, hp2]
    refine ⟨by kernel_rfl, ?_⟩
    try simp only [seval, go_sem, Nat.add_assoc, AB.calm, kpX, kpM, Nat.one_ne_zero]
    refine q0t ((Unwatch_in h _ hs who o.u).mono ?_)
    rintro _ _ rfl
    try simp only [seval, go_sem, Nat.add_assoc, AB.calm, kpX, kpM, Nat.one_ne_zero]
    apply hK
    simp only [Tryz.results19, retK, ares, Bool.and_true, AV.ofResults, St.trunc, q00, q01, aload, acell, T, TI.isAgg, List.getD_cons_zero, List.getD_cons_succ, List.drop_zero, and_true, ↓reduceIte, List.cons.injEq, exists_eq_left']
    simp only [mm_at1, List.getElem?_cons_zero, List.getElem?_cons_succ, List.take_succ_cons, List.take_zero, q23, and_true, true_and, List.length_cons, List.length_nil, q00, q01, Nat.reduceAdd, Nat.le_refl]
    first | rfl | exact ⟨rfl, rfl⟩
  | false =>
  simp only [h7, Bool.false_eq_true, ↓reduceIte] at hK
  cases h9 : (o.kind == 9) with
  | true =>
    simp only [h9, ↓reduceIte] at hK
    try simp only [seval, go_sem, Nat.add_assoc, AB.calm, kpX, kpM, Nat.one_ne_zero, k1, k2, k3, h8, hc, h6, h7, h9]
    have hSh := tick_Shut M.t
    rw [hc] at hSh
    (refine q02 hSh rfl ?_; rintro _ rfl)
    try simp only [seval, go_sem, Nat.add_assoc, AB.calm, kpX, kpM, Nat.one_ne_zero]
    apply hK
    simp only [Tryz.results19, retK, ares, Bool.and_true, AV.ofResults, St.trunc, q00, q01, aload, acell, T, TI.isAgg, List.getD_cons_zero, List.getD_cons_succ, List.drop_zero, and_true, ↓reduceIte, List.cons.injEq, exists_eq_left']
    simp only [mm_at1, List.getElem?_cons_zero, List.getElem?_cons_succ, List.take_succ_cons, List.take_zero, q23, true_and, List.length_cons, List.length_nil, q00, q01, Nat.reduceAdd, Nat.le_refl]
    first | rfl | exact ⟨rfl, rfl⟩
  | false =>
  simp only [h9, Bool.false_eq_true, ↓reduceIte] at hK
  have hk := kinds hb h1 h8 h6 h7 h9
  have hU := model_Users o hk ho.l
  unfold Opb.av at hU
  try simp only [seval, go_sem, Nat.add_assoc, AB.calm, kpX, kpM, Nat.one_ne_zero, k1, k2, k3, h8, hc, h6, h7, h9]
  (refine q02 hU rfl ?_; rintro _ rfl)
  try simp only [seval, go_sem, Nat.add_assoc, AB.calm, kpX, kpM, Nat.one_ne_zero, strs_len]
  refine loopK_turn (Turns.adoptIn (b := mlen n + 2) (c := 1) 44 3 (mm_at2 _ _ _ _) rfl) ?_
  have hus : (usersO o).length ≤ 1000 := by
    unfold usersO
    split
    · simp
    · exact ho.l
  have husz : ∀ u ∈ usersO o, u.size ≤ 1000 := by
    unfold usersO
    split
    · intro u hu; rw [List.mem_singleton.1 hu]; exact ho.u
    · exact ho.us
  generalize usersO o = us at *
  try simp only [seval, go_sem, Nat.add_assoc, AB.calm, kpX, kpM, Nat.one_ne_zero, strs_len]
  refine q12 tyOk (α := Nat) (mlen n + 4) [0, 5, 6, 7, 41, 42, 43] (fun i => i ≤ us.length)
    (fun i => ⟨[.ptr 0 0, .any, .any, .any, .any, .ptr (mlen n) 0, .ptr (mlen n + 1) 0, .ptr (mlen n + 2) 0, .any, .any, .any, .any, .any, .any, .any, .any, .any, .any, .any, .any, .any, .any, .any, .any, .any, .any, .any, .any, .any, .any, .any, .any, .any, .any, .any, .any, .any, .any, .any, .any, .any, .sl 1 (strs us), i64 us.length, i64 i, .any, .any, .any, .any, .any, .any, .any, .any, .any, .any, .any, .any, .any, .any, .any, .any, .any, .any, .any, .any, .any, .any, .any, .any, .any, .any, .any, .any, .any, .any, .any, .any, .any, .any, .any, .any, .any, .any, .any, .any, .any, .any, .any, .any, .any, .any, .any], modM n pad M ++ [.box [i64 o.kind, str o.u, i64 o.id, i64 o.st, i64 o.pr, u64 o.ttl, .sl 1 (o.us.map fun x => str x)], .box [i64 0, .v (.slice none 0 0), .v (.slice none 0 0), bool false], .box [i64 0, .own (mlen n + 3) 3 0 i, .v (.slice none 0 0), bool false], .row 44 3 (prs ((us.take i).map (presOf n M)))]⟩)
    (fun i => us.length - i) 0 (by omega) (Nat.zero_le _) ?_ ?_
  · simp only [St.trunc, St.keep, q00, q01, AB.trunc, keepV, ml_k0, ml_kl, ml_kl0, mm_rn4, Nat.reduceLeDiff, List.elem_cons, List.elem_nil, List.take_succ_cons, List.take_zero, List.map_cons, List.map_nil, Nat.reduceAdd, Nat.reduceBEq, Nat.zero_add, Bool.false_eq_true, ↓reduceIte]
    rfl
  intro i hi
  try simp only [seval, go_sem, Nat.add_assoc, AB.calm, kpX, kpM, Nat.one_ne_zero, strs_len]
  (first | refine q05 ?_ ?_ | refine q08 ?_ ?_ | refine q09 ?_ ?_ | refine q07 ?_ ?_ | refine q06 ?_ ?_) <;> intro hcc
  · have hlt : i < us.length := by simpa using hcc
    have c1 : (0 : Int) ≤ (i : Int) ∧ Int.toNat (i : Int) < us.length := by omega
    have eg : (strs us).getD (Int.toNat (i : Int)) .any = str us[i] := by
      simp [strs, List.getD_eq_getElem?_getD, hlt]
    have ew : IntKind.i64.wrap ((i : Int) + 1) = ((i + 1 : Nat) : Int) := by rw [wrap_i64 (by omega) (by omega)]; rfl
    have hPr := Presence_in (pad := pad) h us[i] (by have := husz _ (List.getElem_mem hlt); omega)
    have hpl : (prs ((us.take i).map (presOf n M))).length = i := by simp [prs]; omega
    try simp only [seval, go_sem, Nat.add_assoc, AB.calm, kpX, kpM, Nat.one_ne_zero, c1, eg, strs_len]
    refine q0k tyOk (by rfl) (by simp only [mm_alen, List.length_cons, List.length_nil, mlen]; omega) (by kernel_rfl) rfl ?_
    try simp only [seval, go_sem, Nat.add_assoc, AB.calm, kpX, kpM, Nat.one_ne_zero]
    refine q55 (hPr _) (by rfl) ?_
    try simp only [seval, go_sem, Nat.add_assoc, AB.calm, kpX, kpM, Nat.one_ne_zero, Pr.av, hpl]
    refine ⟨⟨by simp only [maxLen]; omega, by omega⟩, ?_⟩
    have er : prs ((us.take i).map (presOf n M)) ++ [.agg [i64 (presOf n M us[i]).st, i64 (presOf n M us[i]).pr, i64 (presOf n M us[i]).n]] = prs ((us.take (i + 1)).map (presOf n M)) := by
      rw [q1f hlt, List.map_append, prs, prs, List.map_append]; rfl
    refine ⟨by (rcases n_cases h.n1 h.n8 with rfl | rfl | rfl | rfl | rfl | rfl | rfl | rfl <;> kernel_rfl), ?_⟩
    try simp only [seval, go_sem, Nat.add_assoc, AB.calm, kpX, kpM, Nat.one_ne_zero, ew]
    simp only [q0f, St.trunc, St.keep, q00, q01, AB.trunc, keepV, ml_k0, ml_kl, ml_kl0, mm_rn4, Nat.reduceLeDiff, er, List.elem_cons, List.elem_nil, List.take_succ_cons, List.take_zero, List.map_cons, List.map_nil, Nat.reduceAdd, Nat.reduceBEq, Nat.zero_add, Bool.false_eq_true, ↓reduceIte]
    exact ⟨i + 1, hlt, by omega, by rfl⟩
  · have hge : i = us.length := by have : ¬ ((i : Int) < (us.length : Int)) := by simpa using hcc
                                   omega
    subst hge
    rw [List.take_length]
    try simp only [seval, go_sem, Nat.add_assoc, AB.calm, kpX, kpM, Nat.one_ne_zero]
    apply hK
    simp only [Tryz.results19, retK, ares, Bool.and_true, AV.ofResults, St.trunc, q00, q01, aload, acell, T, TI.isAgg, List.getD_cons_zero, List.getD_cons_succ, List.drop_zero, and_true, ↓reduceIte, List.cons.injEq, exists_eq_left']
    simp only [mm_at1, mm_at3, List.getElem?_cons_zero, List.getElem?_cons_succ, List.take_succ_cons, List.take_zero, q23, and_true, true_and, List.length_cons, List.length_nil, q00, q01, Nat.reduceAdd, Nat.le_refl]
    have hpl : (prs (us.map (presOf n M))).length = us.length := by simp [prs]
    simp only [ml_le, if_true, Nat.zero_add, hpl, Nat.le_refl, List.drop_zero]
    rw [List.take_of_length_le (by omega)]
    rfl
end Go.Proofs.YtdkcpcflfnakdaaGreat
