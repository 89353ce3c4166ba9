/- Events of several feeds put together, plainly. -/
import Derived.Test.YtdkcpcflfnakdaaGreatMf
namespace Go.Proofs.YtdkcpcflfnakdaaGreat
open Go Go.Proofs.YtdkcpcflfnakdaaGreat.Sym
set_option maxRecDepth 100000
set_option maxHeartbeats 1000000
set_option linter.unusedSimpArgs false
set_option linter.unusedVariables false

abbrev Rws := List (List Ev)
def upStep (R : Rws) (best : Option Nat) (i : Nat) : Option Nat :=
  match R.getD i [], best with
  | [], _ => best
  | _ :: _, none => some i
  | e :: _, some b => match R.getD b [] with
    | [] => some i
    | f :: _ => if e.seq < f.seq then some i else some b
theorem upStep_nil {R : Rws} {o : Option Nat} {i : Nat} (h : R.getD i [] = []) : upStep R o i = o := by
  unfold upStep; rw [h]
theorem upStep_none {R : Rws} {i : Nat} {e : Ev} {t : List Ev} (h : R.getD i [] = e :: t) : upStep R none i = some i := by
  unfold upStep; rw [h]
theorem upStep_some {R : Rws} {i b : Nat} {e f : Ev} {t u : List Ev} (h : R.getD i [] = e :: t) (h2 : R.getD b [] = f :: u) : upStep R (some b) i = if e.seq < f.seq then some i else some b := by
  unfold upStep; rw [h]; simp only [h2]
def up (R : Rws) : Nat → Option Nat
  | 0 => none
  | n + 1 => upStep R (up R n) n
def Best (R : Rws) (S : Nat → Prop) : Option Nat → Prop
  | none => ∀ i, S i → R.getD i [] = []
  | some b => S b ∧ ∃ e t, R.getD b [] = e :: t ∧ ∀ i, S i → ∀ f u, R.getD i [] = f :: u → e.seq < f.seq ∨ (e.seq = f.seq ∧ b ≤ i)
theorem up_best (R : Rws) : ∀ n, Best R (fun i => i < n) (up R n)
  | 0 => fun i hi => absurd hi (Nat.not_lt_zero i)
  | n + 1 => by
    have ih := up_best R n
    rw [up]
    generalize up R n = o at ih
    cases hR : R.getD n [] with
    | nil =>
      rw [upStep_nil hR]
      cases o with
      | none =>
        intro i hi
        rcases Nat.lt_succ_iff_lt_or_eq.1 hi with h | rfl
        · exact ih i h
        · exact hR
      | some b =>
        obtain ⟨h1, e, t, h2, h3⟩ := ih
        refine ⟨Nat.lt_succ_of_lt h1, e, t, h2, fun i hi f u hf => ?_⟩
        rcases Nat.lt_succ_iff_lt_or_eq.1 hi with h | rfl
        · exact h3 i h f u hf
        · rw [hR] at hf; cases hf
    | cons e t =>
      cases o with
      | none =>
        rw [upStep_none hR]
        refine ⟨Nat.lt_succ_self n, e, t, hR, fun i hi f u hf => ?_⟩
        rcases Nat.lt_succ_iff_lt_or_eq.1 hi with h | rfl
        · rw [ih i h] at hf; cases hf
        · rw [hR] at hf; cases hf; exact .inr ⟨rfl, Nat.le_refl _⟩
      | some b =>
        obtain ⟨h1, f, u, h2, h3⟩ := ih
        rw [upStep_some hR h2]
        by_cases hlt : e.seq < f.seq
        · rw [if_pos hlt]
          refine ⟨Nat.lt_succ_self n, e, t, hR, fun i hi g v hg => ?_⟩
          rcases Nat.lt_succ_iff_lt_or_eq.1 hi with h | rfl
          · have := h3 i h g v hg; omega
          · rw [hR] at hg; cases hg; exact .inr ⟨rfl, Nat.le_refl _⟩
        · rw [if_neg hlt]
          refine ⟨Nat.lt_succ_of_lt h1, f, u, h2, fun i hi g v hg => ?_⟩
          rcases Nat.lt_succ_iff_lt_or_eq.1 hi with h | rfl
          · exact h3 i h g v hg
          · rw [hR] at hg; cases hg; omega
def bestOf (R : Rws) : Option Nat := up R R.length
def total (R : Rws) : Nat := (R.map List.length).sum
/-- Without the first one of the b-th row. -/
def dropAt (R : Rws) (b : Nat) : Rws := R.set b (R.getD b []).tail
theorem total_drop : ∀ {R : Rws} {b : Nat} {e : Ev} {t : List Ev}, R.getD b [] = e :: t → total R = total (dropAt R b) + 1
  | [], b, e, t, h => by simp at h
  | r :: R, 0, e, t, h => by
    have h : r = e :: t := h
    subst h
    simp only [total, dropAt, List.set, List.getD_cons_zero, List.tail, List.map_cons, List.sum_cons, List.length_cons]; omega
  | r :: R, b + 1, e, t, h => by
    have h : R.getD b [] = e :: t := h
    have ih := total_drop h
    simp only [total, dropAt, List.set, List.getD_cons_succ, List.map_cons, List.sum_cons] at ih ⊢
    omega
def mergeN : Nat → Rws → List Ev
  | 0, _ => []
  | n + 1, R => match bestOf R with
    | none => []
    | some b => match R.getD b [] with
      | [] => []
      | e :: _ => e :: mergeN n (dropAt R b)
def mergeF (R : Rws) : List Ev := mergeN (total R) R
theorem best_some' {R : Rws} {b : Nat} (h : bestOf R = some b) : b < R.length ∧ ∃ e t, R.getD b [] = e :: t ∧ ∀ i, i < R.length → ∀ f u, R.getD i [] = f :: u → e.seq ≤ f.seq := by
  have := up_best R R.length
  rw [bestOf] at h
  rw [h] at this
  obtain ⟨h1, e, t, h2, h3⟩ := this
  exact ⟨h1, e, t, h2, fun i hi f u hf => by have := h3 i hi f u hf; omega⟩
theorem merge_none {R : Rws} (h : bestOf R = none) : mergeF R = [] := by
  unfold mergeF
  cases total R with
  | zero => rfl
  | succ n => rw [mergeN, h]
theorem merge_some {R : Rws} {b : Nat} {e : Ev} {t : List Ev} (h : bestOf R = some b) (h2 : R.getD b [] = e :: t) : mergeF R = e :: mergeF (dropAt R b) := by
  unfold mergeF
  rw [total_drop h2, mergeN, h]
  simp only [h2]
theorem merge_len : ∀ n (R : Rws), total R = n → (mergeF R).length = n
  | 0, R, h => by rw [mergeF, h]; rfl
  | n + 1, R, h => by
    cases hb : bestOf R with
    | none =>
      exfalso
      have hu := up_best R R.length
      rw [bestOf] at hb
      rw [hb] at hu
      have : total R = 0 := by
        clear hb h
        have hz : ∀ r ∈ R, r = [] := fun r hr => by
          obtain ⟨i, hi, rfl⟩ := List.mem_iff_getElem.1 hr
          have := hu i hi
          rwa [List.getD_eq_getElem?_getD, List.getElem?_eq_getElem hi] at this
        clear hu
        induction R with
        | nil => rfl
        | cons r R ih =>
          have h1 := hz r List.mem_cons_self
          have h2 := ih (fun x hx => hz x (List.mem_cons_of_mem _ hx))
          subst h1
          simpa [total] using h2
      omega
    | some b =>
      obtain ⟨h1, e, t, h2, h3⟩ := best_some' hb
      have ht := total_drop h2
      rw [merge_some hb h2, List.length_cons, merge_len n _ (by omega)]
theorem drop_getD {R : Rws} {b i : Nat} (hb : b < R.length) : (dropAt R b).getD i [] = if i = b then (R.getD b []).tail else R.getD i [] := by
  unfold dropAt
  simp only [List.getD_eq_getElem?_getD]
  by_cases h : i = b
  · subst h
    rw [List.getElem?_set_self hb, if_pos rfl]; rfl
  · rw [List.getElem?_set_ne (Ne.symm h), if_neg h]
end Go.Proofs.YtdkcpcflfnakdaaGreat
namespace Go.Proofs.YtdkcpcflfnakdaaGreat
open Go Go.Proofs.YtdkcpcflfnakdaaGreat.Sym
set_option maxRecDepth 100000
set_option maxHeartbeats 1000000
set_option linter.unusedSimpArgs false
set_option linter.unusedVariables false

/-! ### The program's Merge -/
def rws (R : Rws) : List AV := R.map fun r => .sl 8 (evts r)
theorem rws_len (R : Rws) : (rws R).length = R.length := by simp [rws]
theorem rws_at {R : Rws} {i : Nat} (h : i < R.length) : (rws R).getD (Int.toNat (i : Int)) .any = .sl 8 (evts (R.getD i [])) := by
  have := at_map (f := fun r : List Ev => AV.sl 8 (evts r)) h
  rw [List.getD_eq_getElem?_getD (l := R), List.getElem?_eq_getElem h]
  exact this
def ints (l : List Nat) : List AV := l.map fun a : Nat => i64 a
theorem ints_len (l : List Nat) : (ints l).length = l.length := by simp [ints]
theorem ints_at {l : List Nat} {i : Nat} (h : i < l.length) : (ints l).getD (Int.toNat (i : Int)) .any = i64 (l.getD i 0) := by
  have := at_map (f := fun a : Nat => i64 a) h
  rw [show l.getD i 0 = l[i] by rw [List.getD_eq_getElem?_getD, List.getElem?_eq_getElem h]; rfl]
  exact this
theorem ints_set (l : List Nat) (i v : Nat) : (ints l).set i (i64 v) = ints (l.set i v) := by rw [ints, ints, List.map_set]
/-- What is left behind these places. -/
def remF (R : Rws) (at_ : List Nat) : Rws := (List.range R.length).map fun i => (R.getD i []).drop (at_.getD i 0)
theorem rem_len (R : Rws) (at_ : List Nat) : (remF R at_).length = R.length := by simp [remF]
theorem rem_getD {R : Rws} {at_ : List Nat} {i : Nat} (h : i < R.length) : (remF R at_).getD i [] = (R.getD i []).drop (at_.getD i 0) := by
  simp [remF, List.getD_eq_getElem?_getD, h]
theorem rem_zero (R : Rws) : remF R (List.replicate R.length 0) = R := by
  apply List.ext_getElem
  · simp [remF]
  · intro i h1 h2
    simp [remF, List.getD_eq_getElem?_getD, h2]
theorem rem_next {R : Rws} {at_ : List Nat} {b : Nat} (hl : at_.length = R.length) (hb : b < R.length) : remF R (at_.set b (at_.getD b 0 + 1)) = dropAt (remF R at_) b := by
  apply List.ext_getElem
  · simp [remF, dropAt]
  · intro i h1 h2
    have hi : i < R.length := by simpa [remF] using h1
    have e1 : (remF R (at_.set b (at_.getD b 0 + 1)))[i] = (R.getD i []).drop ((at_.set b (at_.getD b 0 + 1)).getD i 0) := by
      have := rem_getD (at_ := at_.set b (at_.getD b 0 + 1)) hi
      rwa [List.getD_eq_getElem?_getD, List.getElem?_eq_getElem h1] at this
    have e2 : (dropAt (remF R at_) b)[i] = (dropAt (remF R at_) b).getD i [] := by rw [List.getD_eq_getElem?_getD, List.getElem?_eq_getElem h2]; rfl
    rw [e1, e2, drop_getD (by rw [rem_len]; exact hb)]
    by_cases h : i = b
    · subst h
      rw [if_pos rfl, rem_getD hi, List.tail_drop, List.getD_eq_getElem?_getD, List.getElem?_set_self (by omega)]; rfl
    · rw [if_neg h, rem_getD hi, List.getD_eq_getElem?_getD, List.getElem?_set_ne (Ne.symm h), ← List.getD_eq_getElem?_getD]
def bI : Option Nat → Int
  | none => -1
  | some b => b
theorem rem_cons {R : Rws} {at_ : List Nat} {i : Nat} (hi : i < R.length) {e : Ev} {t : List Ev} (h : (remF R at_).getD i [] = e :: t) :
    at_.getD i 0 < (R.getD i []).length ∧ ∀ (hlt : at_.getD i 0 < (R.getD i []).length), (R.getD i [])[at_.getD i 0] = e := by
  rw [rem_getD hi] at h
  have hlt : at_.getD i 0 < (R.getD i []).length := by
    apply Nat.lt_of_not_le
    intro hc
    rw [List.drop_of_length_le hc] at h; cases h
  refine ⟨hlt, fun _ => ?_⟩
  rw [List.drop_eq_getElem_cons hlt] at h
  cases h; rfl
theorem rem_nil {R : Rws} {at_ : List Nat} {i : Nat} (hi : i < R.length) (h : (remF R at_).getD i [] = []) : ¬ at_.getD i 0 < (R.getD i []).length := by
  rw [rem_getD hi] at h
  have := congrArg List.length h
  rw [List.length_drop, List.length_nil] at this
  omega
theorem ev_at {r : List Ev} {k : Nat} {e : Ev} (h : k < r.length) (he : ∀ (h : k < r.length), r[k] = e) : (evts r).getD (Int.toNat (k : Int)) .any = .agg [str e.u, i64 e.old.st, i64 e.old.pr, i64 e.old.n, i64 e.new.st, i64 e.new.pr, i64 e.new.n, u64 e.seq] := by
  have := at_map (f := Ev.av) h
  rw [he h] at this
  exact this
set_option maxHeartbeats 2000000 in
theorem feed_Merge (R : Rws) (hR : R.length ≤ 1000) (ht : total R ≤ 100000) (hr : ∀ i, (R.getD i []).length ≤ 100000) : PCall P 68 [.sl 1 (rws R)] (fun x => x = .sl 8 (evts (mergeF R))) := by
  refine q0u tyOk Tryz.func68 rfl rfl ?_
  intro K hK
  simp only [Tryz.ntmps68, List.length_cons, List.length_nil, Nat.reduceAdd, Nat.reduceSub, List.replicate, List.cons_append, List.nil_append]
  try simp (maxSteps := 1000000) only [seval, -Int.reduceToNat, -Int.reduceNatCast, -Int.reduceNatCast', -Nat.reduceSubDiff, T, eqc36, eqc44, eqc49, eqc52, q00, q01, q02, q03, rws_len]
  refine ⟨⟨by omega, by omega, by simp only [Int.toNat_natCast]; omega⟩, ?_⟩
  refine loopK_turn (Turns.adopt (i := 3) 49 8 rfl) ?_
  refine q1r tyOk (α := List Ev × List Nat) 2 [0, 3, 4] (fun s => s.2.length = R.length ∧ s.1 ++ mergeF (remF R s.2) = mergeF R)
    (fun s => ⟨[.sl 1 (rws R), .any, .any, .own 1 8 0 s.1.length, .own 0 1 0 R.length, .any, .any, .any, .any, .any, .any, .any, .any, .any, .any, .any, .any, .any, .any, .any, .any, .any, .any, .any, .any, .any, .any, .any, .any, .any, .any, .any, .any, .any, .any, .any, .any, .any, .any, .any, .any, .any, .any, .any, .any, .any, .any, .any, .any, .any, .any, .any, .any, .any, .any, .any, .any, .any, .any, .any, .any, .any, .any, .any, .any, .any, .any, .any, .any, .any, .any, .any, .any, .any, .any, .any, .any, .any], [.row 3 1 (ints s.2), .row 49 8 (evts s.1)]⟩)
    (fun s => total (remF R s.2)) ([], List.replicate R.length 0) (Nat.zero_le _) ⟨by simp, by rw [rem_zero]; rfl⟩ (by simp only [ints, List.map_replicate]; rfl) ?_
  rintro ⟨out, at_⟩ ⟨hl, hm⟩
  simp only at hl hm ⊢
  have hlen := congrArg List.length hm
  rw [List.length_append, merge_len _ _ rfl, merge_len _ _ rfl] at hlen
  have hRm : (remF R at_).length = R.length := rem_len R at_
  obtain ⟨Rm, hRe⟩ : ∃ Rm, remF R at_ = Rm := ⟨_, rfl⟩
  have hal : ∀ j, j < R.length → at_.getD j 0 < R.length + 100001 + at_.getD j 0 := fun j hj => by omega
  try simp (maxSteps := 1000000) only [seval, -Int.reduceToNat, -Int.reduceNatCast, -Int.reduceNatCast', -Nat.reduceSubDiff, T, eqc36, eqc44, eqc49, eqc52, q00, q01, q02, q03, rws_len]
  refine q1r tyOk (α := Nat) 2 [0, 3, 4, 5, 11, 12] (fun i => i ≤ R.length)
    (fun i => ⟨[.sl 1 (rws R), .any, .any, .own 1 8 0 out.length, .own 0 1 0 R.length, i64 (bI (up Rm i)), .any, .any, .any, .any, .any, i64 R.length, i64 i, .any, .any, .any, .any, .any, .any, .any, .any, .any, .any, .any, .any, .any, .any, .any, .any, .any, .any, .any, .any, .any, .any, .any, .any, .any, .any, .any, .any, .any, .any, .any, .any, .any, .any, .any, .any, .any, .any, .any, .any, .any, .any, .any, .any, .any, .any, .any, .any, .any, .any, .any, .any, .any, .any, .any, .any, .any, .any, .any, .any, .any, .any, .any, .any, .any], [.row 3 1 (ints at_), .row 49 8 (evts out)]⟩)
    (fun i => R.length - i) 0 (Nat.zero_le _) (Nat.zero_le _) rfl ?_
  intro i hi
  try simp (maxSteps := 1000000) only [seval, -Int.reduceToNat, -Int.reduceNatCast, -Int.reduceNatCast', -Nat.reduceSubDiff, T, eqc36, eqc44, eqc49, eqc52, q00, q01, q02, q03, rws_len]
  (first | refine q0a ?_ ?_ | refine q0g ?_ ?_ | refine q0h ?_ ?_ | refine q0i ?_ ?_ | refine q0b ?_ ?_) <;> intro h
  · have hlt : i < R.length := by have := of_decide_eq_true h; omega
    have eg := rws_at hlt
    have ea := ints_at (l := at_) (i := i) (by omega)
    have ew : IntKind.i64.wrap ((i : Int) + 1) = ((i + 1 : Nat) : Int) := by rw [wrap_i64 (by omega) (by omega)]; rfl
    have c1 : (0 : Int) ≤ (i : Int) ∧ Int.toNat (i : Int) < R.length := by omega
    have c2 : Int.toNat (i : Int) < at_.length := by omega
    have hup : up Rm (i + 1) = upStep Rm (up Rm i) i := rfl
    have hub := up_best Rm i
    try simp (maxSteps := 1000000) only [seval, -Int.reduceToNat, -Int.reduceNatCast, -Int.reduceNatCast', -Nat.reduceSubDiff, T, eqc36, eqc44, eqc49, eqc52, q00, q01, q02, q03]
    refine q0x tyOk (by rfl) (by simp only [List.length_cons, List.length_nil, Nat.reduceAdd, Nat.zero_le]) (by kernel_rfl) rfl ?_
    try simp (maxSteps := 1000000) only [seval, -Int.reduceToNat, -Int.reduceNatCast, -Int.reduceNatCast', -Nat.reduceSubDiff, T, eqc36, eqc44, eqc49, eqc52, q00, q01, q02, q03, eg, ea, c1, c2, rws_len, ints_len, evts_len]
    cases hRi : Rm.getD i [] with
    | nil =>
      have hz : decide (((at_.getD i 0 : Nat) : Int) < (((R.getD i []).length : Nat) : Int)) = false := decide_eq_false (by
        have := rem_nil hlt (hRe ▸ hRi); omega)
      rw [upStep_nil hRi] at hup
      try simp (maxSteps := 1000000) only [seval, -Int.reduceToNat, -Int.reduceNatCast, -Int.reduceNatCast', -Nat.reduceSubDiff, T, eqc36, eqc44, eqc49, eqc52, q00, q01, q02, q03, hz]
      refine ⟨by kernel_rfl, ?_⟩
      try simp (maxSteps := 1000000) only [seval, -Int.reduceToNat, -Int.reduceNatCast, -Int.reduceNatCast', -Nat.reduceSubDiff, T, eqc36, eqc44, eqc49, eqc52, q00, q01, q02, q03, ew]
      simp only [q0v, St.trunc, St.keep, q04, q05, AB.trunc, keepV, List.elem_cons, List.elem_nil, List.take_succ_cons, List.take_zero, List.map_cons, List.map_nil, Nat.reduceAdd, Nat.reduceBEq, Nat.reduceLeDiff, Nat.zero_add, Bool.false_eq_true, ↓reduceIte]
      exact ⟨i + 1, hlt, by omega, by rw [hup]⟩
    | cons e t =>
      obtain ⟨p1, p2⟩ := rem_cons hlt (hRe ▸ hRi)
      have hz : decide (((at_.getD i 0 : Nat) : Int) < (((R.getD i []).length : Nat) : Int)) = true := decide_eq_true (by omega)
      have eev := ev_at p1 p2
      have c3 : (0 : Int) ≤ ((at_.getD i 0 : Nat) : Int) ∧ Int.toNat ((at_.getD i 0 : Nat) : Int) < (R.getD i []).length := by omega
      cases hu : up Rm i with
      | none =>
        rw [hu, upStep_none hRi] at hup
        have hz2 : decide (bI none < 0) = true := by decide
        try simp (maxSteps := 1000000) only [seval, -Int.reduceToNat, -Int.reduceNatCast, -Int.reduceNatCast', -Nat.reduceSubDiff, T, eqc36, eqc44, eqc49, eqc52, q00, q01, q02, q03, hz, hu, hz2]
        refine ⟨by kernel_rfl, ?_⟩
        try simp (maxSteps := 1000000) only [seval, -Int.reduceToNat, -Int.reduceNatCast, -Int.reduceNatCast', -Nat.reduceSubDiff, T, eqc36, eqc44, eqc49, eqc52, q00, q01, q02, q03, ew]
        simp only [q0v, St.trunc, St.keep, q04, q05, AB.trunc, keepV, List.elem_cons, List.elem_nil, List.take_succ_cons, List.take_zero, List.map_cons, List.map_nil, Nat.reduceAdd, Nat.reduceBEq, Nat.reduceLeDiff, Nat.zero_add, Bool.false_eq_true, ↓reduceIte]
        exact ⟨i + 1, hlt, by omega, by rw [hup]; rfl⟩
      | some b =>
        rw [hu] at hub
        obtain ⟨u1, f, u, u2, u3⟩ := hub
        rw [hu, upStep_some hRi u2] at hup
        have hbl : b < R.length := by have : b < i := u1; omega
        have hz2 : decide ((b : Int) < 0) = false := decide_eq_false (by omega)
        have hbi : bI (some b) = (b : Int) := rfl
        obtain ⟨q1, q2⟩ := rem_cons hbl (hRe ▸ u2)
        have eev2 := ev_at q1 q2
        have eg2 := rws_at hbl
        have ea2 := ints_at (l := at_) (i := b) (by omega)
        have d1 : (0 : Int) ≤ (b : Int) ∧ Int.toNat (b : Int) < R.length := by omega
        have d2 : Int.toNat (b : Int) < at_.length := by omega
        have d3 : (0 : Int) ≤ ((at_.getD b 0 : Nat) : Int) ∧ Int.toNat ((at_.getD b 0 : Nat) : Int) < (R.getD b []).length := by omega
        try simp (maxSteps := 1000000) only [seval, -Int.reduceToNat, -Int.reduceNatCast, -Int.reduceNatCast', -Nat.reduceSubDiff, T, eqc36, eqc44, eqc49, eqc52, q00, q01, q02, q03, hz, hu, hz2, hbi, eg, ea, c1, c2, c3, eev, eg2, ea2, d1, d2, d3, eev2, rws_len, ints_len, evts_len]
        refine ⟨by kernel_rfl, ?_⟩
        (first | refine q0a ?_ ?_ | refine q0g ?_ ?_ | refine q0h ?_ ?_ | refine q0i ?_ ?_ | refine q0b ?_ ?_) <;> intro h3
        · have h3' : e.seq < f.seq := of_decide_eq_true h3
          rw [if_pos h3'] at hup
          try simp (maxSteps := 1000000) only [seval, -Int.reduceToNat, -Int.reduceNatCast, -Int.reduceNatCast', -Nat.reduceSubDiff, T, eqc36, eqc44, eqc49, eqc52, q00, q01, q02, q03, ew]
          simp only [q0v, St.trunc, St.keep, q04, q05, AB.trunc, keepV, List.elem_cons, List.elem_nil, List.take_succ_cons, List.take_zero, List.map_cons, List.map_nil, Nat.reduceAdd, Nat.reduceBEq, Nat.reduceLeDiff, Nat.zero_add, Bool.false_eq_true, ↓reduceIte]
          exact ⟨i + 1, hlt, by omega, by rw [hup]; rfl⟩
        · have h3' : ¬ e.seq < f.seq := of_decide_eq_false h3
          rw [if_neg h3'] at hup
          try simp (maxSteps := 1000000) only [seval, -Int.reduceToNat, -Int.reduceNatCast, -Int.reduceNatCast', -Nat.reduceSubDiff, T, eqc36, eqc44, eqc49, eqc52, q00, q01, q02, q03, ew]
          simp only [q0v, St.trunc, St.keep, q04, q05, AB.trunc, keepV, List.elem_cons, List.elem_nil, List.take_succ_cons, List.take_zero, List.map_cons, List.map_nil, Nat.reduceAdd, Nat.reduceBEq, Nat.reduceLeDiff, Nat.zero_add, Bool.false_eq_true, ↓reduceIte]
          exact ⟨i + 1, hlt, by omega, by rw [hup]; rfl⟩
  · obtain rfl : i = R.length := by have := of_decide_eq_false h; omega
    have hbo : up Rm R.length = bestOf Rm := by rw [bestOf, ← hRe, hRm]
    rw [hbo]
    cases hb : bestOf Rm with
    | none =>
      have hmn := merge_none hb
      rw [hRe, hmn, List.append_nil] at hm
      have hz2 : decide (bI none < 0) = true := by decide
      try simp (maxSteps := 1000000) only [seval, -Int.reduceToNat, -Int.reduceNatCast, -Int.reduceNatCast', -Nat.reduceSubDiff, T, eqc36, eqc44, eqc49, eqc52, q00, q01, q02, q03, hz2]
      apply hK
      simp only [Tryz.results68, retK, ares, Bool.and_true, Bool.true_and, AV.ofResults, St.trunc, q04, q05, List.getD_cons_zero, List.getD_cons_succ, List.take_zero, List.drop_zero, List.map_nil, List.getElem?_cons_zero, List.getElem?_cons_succ, Nat.reduceLeDiff, true_and, and_true, ↓reduceIte, List.cons.injEq, exists_eq_left']
      rw [sl_full (evts_len out), hm]
    | some b =>
      obtain ⟨b1, e, t, b2, b3⟩ := best_some' hb
      have hbl : b < R.length := by rw [← hRe, hRm] at b1; exact b1
      have hz2 : decide ((b : Int) < 0) = false := decide_eq_false (by omega)
      have hbi : bI (some b) = (b : Int) := rfl
      obtain ⟨q1, q2⟩ := rem_cons hbl (hRe ▸ b2)
      have eev := ev_at q1 q2
      have eg := rws_at hbl
      have ea := ints_at (l := at_) (i := b) (by omega)
      have d1 : (0 : Int) ≤ (b : Int) ∧ Int.toNat (b : Int) < R.length := by omega
      have d2 : Int.toNat (b : Int) < at_.length := by omega
      have d3 : (0 : Int) ≤ ((at_.getD b 0 : Nat) : Int) ∧ Int.toNat ((at_.getD b 0 : Nat) : Int) < (R.getD b []).length := by omega
      have hrb := hr b
      have ew : IntKind.i64.wrap (((at_.getD b 0 : Nat) : Int) + 1) = ((at_.getD b 0 + 1 : Nat) : Int) := by rw [wrap_i64 (by omega) (by omega)]; rfl
      have hms := merge_some hb b2
      have htd := total_drop b2
      have hnx := rem_next hl hbl
      rw [hRe] at hnx
      try simp (maxSteps := 1000000) only [seval, -Int.reduceToNat, -Int.reduceNatCast, -Int.reduceNatCast', -Nat.reduceSubDiff, T, eqc36, eqc44, eqc49, eqc52, q00, q01, q02, q03, hz2, hbi]
      refine q0x tyOk (by rfl) (by simp only [List.length_cons, List.length_nil, Nat.reduceAdd, Nat.zero_le]) (by kernel_rfl) rfl ?_
      try simp (maxSteps := 1000000) only [seval, -Int.reduceToNat, -Int.reduceNatCast, -Int.reduceNatCast', -Nat.reduceSubDiff, T, eqc36, eqc44, eqc49, eqc52, q00, q01, q02, q03, eg, ea, d1, d2, d3, eev, rws_len, ints_len, evts_len]
      refine ⟨⟨by simp only [maxLen]; omega, by omega⟩, ?_⟩
      refine ⟨by kernel_rfl, ?_⟩
      try simp (maxSteps := 1000000) only [seval, -Int.reduceToNat, -Int.reduceNatCast, -Int.reduceNatCast', -Nat.reduceSubDiff, T, eqc36, eqc44, eqc49, eqc52, q00, q01, q02, q03, eg, ea, d1, d2, d3, rws_len, ints_len, ew]
      simp only [q0v, St.trunc, St.keep, q04, q05, AB.trunc, keepV, List.elem_cons, List.elem_nil, List.take_succ_cons, List.take_zero, List.map_cons, List.map_nil, Nat.reduceAdd, Nat.reduceBEq, Nat.reduceLeDiff, Nat.zero_add, Bool.false_eq_true, ↓reduceIte]
      refine ⟨(out ++ [e], at_.set b (at_.getD b 0 + 1)), ⟨by rw [List.length_set]; exact hl, ?_⟩, ?_, ?_⟩
      · simp only
        rw [hnx, List.append_assoc, List.singleton_append, ← hms, ← hRe]
        exact hm
      · simp only
        rw [hnx, hRe]; omega
      · simp only [evts_snoc, List.length_append, List.length_singleton, Int.toNat_natCast]
        rw [← ints_set]
end Go.Proofs.YtdkcpcflfnakdaaGreat
namespace Go.Proofs.YtdkcpcflfnakdaaGreat
open Go Go.Proofs.YtdkcpcflfnakdaaGreat.Sym
set_option maxRecDepth 100000
set_option maxHeartbeats 1000000
set_option maxHeartbeats 1000000
set_option linter.unusedSimpArgs false
set_option linter.unusedVariables false

def countM (M : Md) (who : Int) (i : Nat) : Nat := ((List.range i).map fun j => cntM (M.f j).m who).sum
theorem countM_next (M : Md) (who : Int) (i : Nat) : countM M who (i + 1) = countM M who i + cntM (M.f i).m who := by
  simp [countM, List.range_succ]
theorem countM_le {n B : Nat} {M : Md} (h : MOk n B M) (who : Int) : ∀ i, countM M who i ≤ B * i
  | 0 => by simp [countM]
  | i + 1 => by
    have h1 := countM_le h who i
    have h2 := cnt_le (M.f i).m who
    have h3 := h.ml i
    rw [countM_next, Nat.mul_succ]
    omega
theorem Count_in {n pad B s : Nat} {M : Md} (h : MOk n B M) (r : List AB) (hs : s < n) (who : Int) :
    ACall P 69 (modM n pad M ++ r) [.ptr (fb s) 0, i64 who] (fun x m' => x = i64 (cntM (M.f s).m who : Nat) ∧ m' = modM n pad M ++ r) :=
  feed_inA M r hs (feed_Count (M.f s) who (by have := h.ml s; have := h.B; omega)) rfl rfl (by rintro x m' ⟨rfl, rfl⟩; exact ⟨_, rfl, rfl, by rw [setF_same]⟩)
theorem Watching_in {n pad B s : Nat} {M : Md} (h : MOk n B M) (r : List AB) (hs : s < n) (who : Int) (u : ByteArray) :
    ACall P 70 (modM n pad M ++ r) [.ptr (fb s) 0, i64 who, str u] (fun x m' => x = bool (watF (M.f s).m who u) ∧ m' = modM n pad M ++ r) :=
  feed_inA M r hs (feed_Watching (M.f s) who u (h.m s) (by have := h.ml s; have := h.B; omega)) rfl rfl (by rintro x m' ⟨rfl, rfl⟩; exact ⟨_, rfl, rfl, by rw [setF_same]⟩)
def Md.watchF (M : Md) (s : Nat) (who : Int) (u : ByteArray) : Md := M.setF s { M.f s with m := watchM (M.f s).m who u }
def Md.unwatchF (M : Md) (s : Nat) (who : Int) (u : ByteArray) : Md := M.setF s { M.f s with m := unwatchM (M.f s).m who u }
theorem Watch_in {n pad B s : Nat} {M : Md} (h : MOk n B M) (r : List AB) (hs : s < n) (who : Int) (u : ByteArray) :
    ACall P 71 (modM n pad M ++ r) [.ptr (fb s) 0, i64 who, str u] (fun x m' => m' = modM n pad (M.watchF s who u) ++ r) :=
  feed_inA M r hs (feed_Watch (M.f s) who u (h.m s) (by have := h.ml s; have := h.B; omega)) rfl rfl (by rintro x m' rfl; exact ⟨_, rfl, rfl⟩)
theorem Unwatch_in {n pad B s : Nat} {M : Md} (h : MOk n B M) (r : List AB) (hs : s < n) (who : Int) (u : ByteArray) :
    ACall P 43 (modM n pad M ++ r) [.ptr (fb s) 0, i64 who, str u] (fun x m' => m' = modM n pad (M.unwatchF s who u) ++ r) :=
  feed_inA M r hs (feed_Unwatch (M.f s) who u (h.m s) (by have := h.ml s; have := h.B; omega)) rfl rfl (by rintro x m' rfl; exact ⟨_, rfl, rfl⟩)
theorem Drain_in {n pad B s : Nat} {M : Md} (h : MOk n B M) (r : List AB) (hr : r.all (AB.calm n) = true) (hs : s < n) (who : Int) (hw : cli who = true) :
    q1b P (kpM n) 67 (modM n pad M ++ r) [.ptr (fb s) 0, i64 who] (fun x m' => x = .tup [.sl 8 (evts ((M.f s).q who.toNat).1), bool ((M.f s).q who.toNat).2] ∧ m' = modM n pad (M.setF s ((M.f s).drain who)) ++ r) := by
  refine feed_in M r hs (feed_Drain (M.f s) who (fun k => by have := h.q s k; omega)) rfl rfl hr ?_
  rintro x m' ⟨rfl, rfl⟩
  rw [if_pos hw, drainL, if_pos hw, drainB, if_pos hw]
  exact ⟨_, rfl, rfl, rfl⟩

def fullW (n : Nat) (M : Md) (who : Int) (u : ByteArray) : Bool := (!watF (M.f (stN n u)).m who u) && decide (M.c.w ≤ (countM M who n : Nat))
theorem model_watch {n pad B : Nat} {M : Md} (h : MOk n B M) (who : Int) (u : ByteArray) (hu : u.size ≤ 1000000) : ACall P 41 (modM n pad M) [.ptr 0 0, i64 who, str u]
    (fun x m' => x = i64 (if fullW n M who u = true then 4 else 0) ∧ m' = modM n pad (if fullW n M who u = true then M else M.watchF (stN n u) who u)) := by
  refine acall_go tyOk Tryz.func41 rfl rfl ?_
  intro K hK
  rw [q0c] at hK ⊢
  simp only [Tryz.ntmps41, List.length_cons, List.length_nil, Nat.reduceAdd, Nat.reduceSub, List.replicate, List.cons_append, List.nil_append]
  have hs := (stN_lt h.n1 h.n8 u).1
  unfold fullW at hK
  have hstr := stripe_in (pad := pad) h u hu
  generalize stN n u = k at *
  have c1 : (0 : Int) ≤ ((k : Nat) : Int) ∧ Int.toNat ((k : Nat) : Int) < n := by omega
  obtain ⟨hp1, hp2⟩ := ptr_load (pad := pad) hs
  have hstr0 := hstr []
  rw [List.append_nil] at hstr0
  try simp (maxSteps := 1000000) only [seval, -Int.reduceToNat, -Int.reduceNatCast, -Int.reduceNatCast', -Nat.reduceSubDiff, T, eqc36, eqc44, eqc49, eqc52, q00, q01, q02, q03, mm_0, mm_1, mm_2, mm_0n, mm_1n, mm_2n, q0o, q0l, q0p, q0q, q0r, mm_s0, mm_s1, mm_s2, mm_s3, q0k, q0f, q0c, q0j, q0s, q0d, q08, q0e, q09, Nat.add_assoc, AB.calm, kpX, kpM, ml_z, ml_1, ml_l, ml_r, ml_b, ml_le, ml_0, ml_0k, Nat.one_ne_zero, List.all_cons, List.all_nil]
  refine q0x tyOk (by rfl) (by simp only [q0c, mlen]; omega) (by kernel_rfl) rfl ?_
  try simp (maxSteps := 1000000) only [seval, -Int.reduceToNat, -Int.reduceNatCast, -Int.reduceNatCast', -Nat.reduceSubDiff, T, eqc36, eqc44, eqc49, eqc52, q00, q01, q02, q03, mm_0, mm_1, mm_2, mm_0n, mm_1n, mm_2n, q0o, q0l, q0p, q0q, q0r, mm_s0, mm_s1, mm_s2, mm_s3, q0k, q0f, q0c, q0j, q0s, q0d, q08, q0e, q09, Nat.add_assoc, AB.calm, kpX, kpM, ml_z, ml_1, ml_l, ml_r, ml_b, ml_le, ml_0, ml_0k, Nat.one_ne_zero, List.all_cons, List.all_nil]
  have hg : modM n pad M ++ List.replicate 0 AB.gone = modM n pad M := by simp
  refine drawCall_wide hstr0 (by rfl) ?_
  try simp (maxSteps := 1000000) only [seval, -Int.reduceToNat, -Int.reduceNatCast, -Int.reduceNatCast', -Nat.reduceSubDiff, T, eqc36, eqc44, eqc49, eqc52, q00, q01, q02, q03, mm_0, mm_1, mm_2, mm_0n, mm_1n, mm_2n, q0o, q0l, q0p, q0q, q0r, mm_s0, mm_s1, mm_s2, mm_s3, q0k, q0f, q0c, q0j, q0s, q0d, q08, q0e, q09, Nat.add_assoc, AB.calm, kpX, kpM, ml_z, ml_1, ml_l, ml_r, ml_b, ml_le, ml_0, ml_0k, Nat.one_ne_zero, List.all_cons, List.all_nil, c1, hp1, hp2]
  refine ⟨by kernel_rfl, ?_⟩
  try simp (maxSteps := 1000000) only [seval, -Int.reduceToNat, -Int.reduceNatCast, -Int.reduceNatCast', -Nat.reduceSubDiff, T, eqc36, eqc44, eqc49, eqc52, q00, q01, q02, q03, mm_0, mm_1, mm_2, mm_0n, mm_1n, mm_2n, q0o, q0l, q0p, q0q, q0r, mm_s0, mm_s1, mm_s2, mm_s3, q0k, q0f, q0c, q0j, q0s, q0d, q08, q0e, q09, Nat.add_assoc, AB.calm, kpX, kpM, ml_z, ml_1, ml_l, ml_r, ml_b, ml_le, ml_0, ml_0k, Nat.one_ne_zero, List.all_cons, List.all_nil]
  refine q1r tyOk (α := Nat) (mlen n) [0, 1, 2, 7, 8, 23, 24, 25] (fun i => i ≤ n)
    (fun i => ⟨[.ptr 0 0, i64 who, str u, .any, .any, .any, .any, .ptr (fb k) 0, i64 (countM M who i : Nat), .any, .any, .any, .any, .any, .any, .any, .any, .any, .any, .any, .any, .any, .any, .own 2 1 0 n, i64 n, i64 i, .any, .any, .any, .any, .any, .any, .any, .any, .any, .any, .any, .any, .any, .any, .any, .any, .any, .any, .any, .any, .any, .any, .any, .any, .any, .any, .any], modM n pad M⟩)
    (fun i => n - i) 0 (Nat.le_refl _) (Nat.zero_le _) ?_ ?_
  · simp only [St.trunc, St.keep, q04, q05, keepV, ml_n0, ml_n2, mm_retn, ml_nf hs, List.elem_cons, List.elem_nil, Nat.reduceAdd, Nat.reduceBEq, Nat.zero_add, Bool.false_eq_true, ↓reduceIte]
    rfl
  intro i hi
  try simp (maxSteps := 1000000) only [seval, -Int.reduceToNat, -Int.reduceNatCast, -Int.reduceNatCast', -Nat.reduceSubDiff, T, eqc36, eqc44, eqc49, eqc52, q00, q01, q02, q03, mm_0, mm_1, mm_2, mm_0n, mm_1n, mm_2n, q0o, q0l, q0p, q0q, q0r, mm_s0, mm_s1, mm_s2, mm_s3, q0k, q0f, q0c, q0j, q0s, q0d, q08, q0e, q09, Nat.add_assoc, AB.calm, kpX, kpM, ml_z, ml_1, ml_l, ml_r, ml_b, ml_le, ml_0, ml_0k, Nat.one_ne_zero, List.all_cons, List.all_nil]
  (first | refine q0a ?_ ?_ | refine q0g ?_ ?_ | refine q0h ?_ ?_ | refine q0i ?_ ?_ | refine q0b ?_ ?_) <;> intro hc
  · have hlt : i < n := by simpa using hc
    have c2 : (0 : Int) ≤ ((i : Nat) : Int) ∧ Int.toNat ((i : Nat) : Int) < n := by omega
    obtain ⟨hq1, hq2⟩ := ptr_load (pad := pad) hlt
    have hC := Count_in (pad := pad) h [] hlt who
    rw [List.append_nil] at hC
    have hcl := countM_le h who i
    have hcl2 := cnt_le (M.f i).m who
    have hcl3 := h.ml i
    have hB := h.B
    have hn8 := h.n8
    have hmul : B * i ≤ 900 * 8 := Nat.mul_le_mul hB (by omega)
    have ew : IntKind.i64.wrap (((countM M who i : Nat) : Int) + ((cntM (M.f i).m who : Nat) : Int)) = ((countM M who i + cntM (M.f i).m who : Nat) : Int) := by rw [wrap_i64 (by omega) (by omega)]; omega
    have ew2 : IntKind.i64.wrap ((i : Int) + 1) = ((i + 1 : Nat) : Int) := by rw [wrap_i64 (by omega) (by omega)]; rfl
    try simp (maxSteps := 1000000) only [seval, -Int.reduceToNat, -Int.reduceNatCast, -Int.reduceNatCast', -Nat.reduceSubDiff, T, eqc36, eqc44, eqc49, eqc52, q00, q01, q02, q03, mm_0, mm_1, mm_2, mm_0n, mm_1n, mm_2n, q0o, q0l, q0p, q0q, q0r, mm_s0, mm_s1, mm_s2, mm_s3, q0k, q0f, q0c, q0j, q0s, q0d, q08, q0e, q09, Nat.add_assoc, AB.calm, kpX, kpM, ml_z, ml_1, ml_l, ml_r, ml_b, ml_le, ml_0, ml_0k, Nat.one_ne_zero, List.all_cons, List.all_nil, c2, hq1, hq2]
    refine callG_A (Sym.ACall.mono hC ?_)
    rintro _ _ ⟨rfl, rfl⟩
    try simp (maxSteps := 1000000) only [seval, -Int.reduceToNat, -Int.reduceNatCast, -Int.reduceNatCast', -Nat.reduceSubDiff, T, eqc36, eqc44, eqc49, eqc52, q00, q01, q02, q03, mm_0, mm_1, mm_2, mm_0n, mm_1n, mm_2n, q0o, q0l, q0p, q0q, q0r, mm_s0, mm_s1, mm_s2, mm_s3, q0k, q0f, q0c, q0j, q0s, q0d, q08, q0e, q09, Nat.add_assoc, AB.calm, kpX, kpM, ml_z, ml_1, ml_l, ml_r, ml_b, ml_le, ml_0, ml_0k, Nat.one_ne_zero, List.all_cons, List.all_nil, ew, ew2]
    simp only [q0v, St.trunc, St.keep, q04, q05, keepV, ml_n0, ml_n2, mm_retn, ml_nf hs, ml_nf hlt, List.elem_cons, List.elem_nil, Nat.reduceAdd, Nat.reduceBEq, Nat.zero_add, Bool.false_eq_true, ↓reduceIte]
    exact ⟨i + 1, hlt, by omega, by rw [countM_next]⟩
  · have hge : i = n := by have : ¬ ((i : Int) < (n : Int)) := by simpa using hc
                           omega
    subst hge
    try simp (maxSteps := 1000000) only [seval, -Int.reduceToNat, -Int.reduceNatCast, -Int.reduceNatCast', -Nat.reduceSubDiff, T, eqc36, eqc44, eqc49, eqc52, q00, q01, q02, q03, mm_0, mm_1, mm_2, mm_0n, mm_1n, mm_2n, q0o, q0l, q0p, q0q, q0r, mm_s0, mm_s1, mm_s2, mm_s3, q0k, q0f, q0c, q0j, q0s, q0d, q08, q0e, q09, Nat.add_assoc, AB.calm, kpX, kpM, ml_z, ml_1, ml_l, ml_r, ml_b, ml_le, ml_0, ml_0k, Nat.one_ne_zero, List.all_cons, List.all_nil]
    have hn8 := h.n8
    have hW := Watching_in (pad := pad) h [] hs who u
    rw [List.append_nil] at hW
    refine callG_A (Sym.ACall.mono hW ?_)
    rintro _ _ ⟨rfl, rfl⟩
    try simp (maxSteps := 1000000) only [seval, -Int.reduceToNat, -Int.reduceNatCast, -Int.reduceNatCast', -Nat.reduceSubDiff, T, eqc36, eqc44, eqc49, eqc52, q00, q01, q02, q03, mm_0, mm_1, mm_2, mm_0n, mm_1n, mm_2n, q0o, q0l, q0p, q0q, q0r, mm_s0, mm_s1, mm_s2, mm_s3, q0k, q0f, q0c, q0j, q0s, q0d, q08, q0e, q09, Nat.add_assoc, AB.calm, kpX, kpM, ml_z, ml_1, ml_l, ml_r, ml_b, ml_le, ml_0, ml_0k, Nat.one_ne_zero, List.all_cons, List.all_nil]
    cases hw : watF (M.f k).m who u with
    | true =>
      rw [hw, Bool.not_true, Bool.false_and, if_neg (by decide), if_neg (by decide)] at hK
      try simp (maxSteps := 1000000) only [seval, -Int.reduceToNat, -Int.reduceNatCast, -Int.reduceNatCast', -Nat.reduceSubDiff, T, eqc36, eqc44, eqc49, eqc52, q00, q01, q02, q03, mm_0, mm_1, mm_2, mm_0n, mm_1n, mm_2n, q0o, q0l, q0p, q0q, q0r, mm_s0, mm_s1, mm_s2, mm_s3, q0k, q0f, q0c, q0j, q0s, q0d, q08, q0e, q09, Nat.add_assoc, AB.calm, kpX, kpM, ml_z, ml_1, ml_l, ml_r, ml_b, ml_le, ml_0, ml_0k, Nat.one_ne_zero, List.all_cons, List.all_nil]
      have hC := Watch_in (pad := pad) h [] hs who u
      rw [List.append_nil] at hC
      refine callG_A (Sym.ACall.mono hC ?_)
      rintro _ _ rfl
      rw [List.append_nil]
      try simp (maxSteps := 1000000) only [seval, -Int.reduceToNat, -Int.reduceNatCast, -Int.reduceNatCast', -Nat.reduceSubDiff, T, eqc36, eqc44, eqc49, eqc52, q00, q01, q02, q03, mm_0, mm_1, mm_2, mm_0n, mm_1n, mm_2n, q0o, q0l, q0p, q0q, q0r, mm_s0, mm_s1, mm_s2, mm_s3, q0k, q0f, q0c, q0j, q0s, q0d, q08, q0e, q09, Nat.add_assoc, AB.calm, kpX, kpM, ml_z, ml_1, ml_l, ml_r, ml_b, ml_le, ml_0, ml_0k, Nat.one_ne_zero, List.all_cons, List.all_nil]
      apply hK
      simp only [Tryz.results41, retK, ares, Bool.and_true, Bool.true_and, AV.ofResults, St.trunc, q04, q05, List.getD_cons_zero, List.getD_cons_succ, true_and, and_true, List.cons.injEq, exists_eq_left']
      simp only [mm_retn]
    | false =>
      rw [hw, Bool.not_false, Bool.true_and] at hK
      try simp (maxSteps := 1000000) only [seval, -Int.reduceToNat, -Int.reduceNatCast, -Int.reduceNatCast', -Nat.reduceSubDiff, T, eqc36, eqc44, eqc49, eqc52, q00, q01, q02, q03, mm_0, mm_1, mm_2, mm_0n, mm_1n, mm_2n, q0o, q0l, q0p, q0q, q0r, mm_s0, mm_s1, mm_s2, mm_s3, q0k, q0f, q0c, q0j, q0s, q0d, q08, q0e, q09, Nat.add_assoc, AB.calm, kpX, kpM, ml_z, ml_1, ml_l, ml_r, ml_b, ml_le, ml_0, ml_0k, Nat.one_ne_zero, List.all_cons, List.all_nil]
      (first | refine q0a ?_ ?_ | refine q0g ?_ ?_ | refine q0h ?_ ?_ | refine q0i ?_ ?_ | refine q0b ?_ ?_) <;> intro hf
      · rw [show decide (M.c.w ≤ ((countM M who i : Nat) : Int)) = true from hf, if_pos rfl, if_pos rfl] at hK
        try simp (maxSteps := 1000000) only [seval, -Int.reduceToNat, -Int.reduceNatCast, -Int.reduceNatCast', -Nat.reduceSubDiff, T, eqc36, eqc44, eqc49, eqc52, q00, q01, q02, q03, mm_0, mm_1, mm_2, mm_0n, mm_1n, mm_2n, q0o, q0l, q0p, q0q, q0r, mm_s0, mm_s1, mm_s2, mm_s3, q0k, q0f, q0c, q0j, q0s, q0d, q08, q0e, q09, Nat.add_assoc, AB.calm, kpX, kpM, ml_z, ml_1, ml_l, ml_r, ml_b, ml_le, ml_0, ml_0k, Nat.one_ne_zero, List.all_cons, List.all_nil]
        apply hK
        simp only [Tryz.results41, retK, ares, Bool.and_true, Bool.true_and, AV.ofResults, St.trunc, q04, q05, List.getD_cons_zero, List.getD_cons_succ, true_and, and_true, List.cons.injEq, exists_eq_left']
        simp only [mm_retn]
      · rw [show decide (M.c.w ≤ ((countM M who i : Nat) : Int)) = false from hf, if_neg (by decide), if_neg (by decide)] at hK
        try simp (maxSteps := 1000000) only [seval, -Int.reduceToNat, -Int.reduceNatCast, -Int.reduceNatCast', -Nat.reduceSubDiff, T, eqc36, eqc44, eqc49, eqc52, q00, q01, q02, q03, mm_0, mm_1, mm_2, mm_0n, mm_1n, mm_2n, q0o, q0l, q0p, q0q, q0r, mm_s0, mm_s1, mm_s2, mm_s3, q0k, q0f, q0c, q0j, q0s, q0d, q08, q0e, q09, Nat.add_assoc, AB.calm, kpX, kpM, ml_z, ml_1, ml_l, ml_r, ml_b, ml_le, ml_0, ml_0k, Nat.one_ne_zero, List.all_cons, List.all_nil]
        have hC := Watch_in (pad := pad) h [] hs who u
        rw [List.append_nil] at hC
        refine callG_A (Sym.ACall.mono hC ?_)
        rintro _ _ rfl
        rw [List.append_nil]
        try simp (maxSteps := 1000000) only [seval, -Int.reduceToNat, -Int.reduceNatCast, -Int.reduceNatCast', -Nat.reduceSubDiff, T, eqc36, eqc44, eqc49, eqc52, q00, q01, q02, q03, mm_0, mm_1, mm_2, mm_0n, mm_1n, mm_2n, q0o, q0l, q0p, q0q, q0r, mm_s0, mm_s1, mm_s2, mm_s3, q0k, q0f, q0c, q0j, q0s, q0d, q08, q0e, q09, Nat.add_assoc, AB.calm, kpX, kpM, ml_z, ml_1, ml_l, ml_r, ml_b, ml_le, ml_0, ml_0k, Nat.one_ne_zero, List.all_cons, List.all_nil]
        apply hK
        simp only [Tryz.results41, retK, ares, Bool.and_true, Bool.true_and, AV.ofResults, St.trunc, q04, q05, List.getD_cons_zero, List.getD_cons_succ, true_and, and_true, List.cons.injEq, exists_eq_left']
        simp only [mm_retn]

def Md.drains (M : Md) (who : Int) (i : Nat) : Md := { M with f := fun j => if j < i then (M.f j).drain who else M.f j }
theorem drains_0 (M : Md) (who : Int) : M.drains who 0 = M := by
  simp only [Md.drains, Nat.not_lt_zero, if_false]
theorem drains_next (M : Md) (who : Int) (i : Nat) : (M.drains who i).setF i (((M.drains who i).f i).drain who) = M.drains who (i + 1) := by
  simp only [Md.drains, Md.setF, Nat.lt_irrefl, if_false]
  congr 1
  funext j
  by_cases h1 : j = i
  · subst h1; simp
  · have e : (j < i + 1) = (j < i) := by simp; omega
    simp only [if_neg h1, e]
theorem drains_at (M : Md) (who : Int) (i : Nat) : (M.drains who i).f i = M.f i := by simp [Md.drains]
theorem mok_drains {n B : Nat} {M : Md} (h : MOk n B M) (who : Int) (i : Nat) : MOk n B (M.drains who i) :=
  ⟨h.n1, h.n8, h.s, h.b, fun j => by
    simp only [Md.drains]
    split
    · unfold Fd.drain; split <;> exact h.m j
    · exact h.m j, fun j => by
    simp only [Md.drains]
    split
    · unfold Fd.drain; split <;> exact h.ml j
    · exact h.ml j, fun j k => by
    simp only [Md.drains]
    split
    · unfold Fd.drain
      split
      · simp only [Fd.setQ]
        split
        · simp
        · exact h.q j k
      · exact h.q j k
    · exact h.q j k, h.B⟩
def rowsW (M : Md) (who : Int) (i : Nat) : Rws := (List.range i).map fun j => ((M.f j).q who.toNat).1
def lostW (M : Md) (who : Int) (i : Nat) : Bool := (List.range i).any fun j => ((M.f j).q who.toNat).2
theorem rowsW_next (M : Md) (who : Int) (i : Nat) : rowsW M who (i + 1) = rowsW M who i ++ [((M.f i).q who.toNat).1] := by simp [rowsW, List.range_succ]
theorem lostW_next (M : Md) (who : Int) (i : Nat) : lostW M who (i + 1) = (lostW M who i || ((M.f i).q who.toNat).2) := by simp [lostW, List.range_succ]
theorem rowsW_len (M : Md) (who : Int) (i : Nat) : (rowsW M who i).length = i := by simp [rowsW]
theorem model_poll {n pad B : Nat} {M : Md} (h : MOk n B M) (who : Int) (hw : cli who = true) : q0y P 3 40 (modM n pad M) [.ptr 0 0, i64 who]
    (fun x m' => x = Rp.av ⟨0, none, some (mergeF (rowsW M who n)), lostW M who n⟩ ∧ m' = modM n pad (M.drains who n)) := by
  refine acallN_go tyOk Tryz.func40 rfl rfl (by rw [q0c, mlen]; omega) ?_
  intro K hK
  rw [q0c] at hK
  simp only [Tryz.ntmps40, List.length_cons, List.length_nil, Nat.reduceAdd, Nat.reduceSub, List.replicate, List.cons_append, List.nil_append]
  try simp (maxSteps := 1000000) only [seval, -Int.reduceToNat, -Int.reduceNatCast, -Int.reduceNatCast', -Nat.reduceSubDiff, T, eqc36, eqc44, eqc49, eqc52, q00, q01, q02, q03, mm_0, mm_1, mm_2, mm_0n, mm_1n, mm_2n, q0o, q0l, q0p, q0q, q0r, mm_s0, mm_s1, mm_s2, mm_s3, q0k, q0f, q0c, q0j, q0s, q0d, q08, q0e, q09, Nat.add_assoc, AB.calm, kpX, kpM, ml_z, ml_1, ml_l, ml_r, ml_b, ml_le, ml_0, ml_0k, Nat.one_ne_zero, List.all_cons, List.all_nil]
  refine loopK_turn (Turns.adopt (i := 6) 39 1 rfl) ?_
  try simp (maxSteps := 1000000) only [seval, -Int.reduceToNat, -Int.reduceNatCast, -Int.reduceNatCast', -Nat.reduceSubDiff, T, eqc36, eqc44, eqc49, eqc52, q00, q01, q02, q03, mm_0, mm_1, mm_2, mm_0n, mm_1n, mm_2n, q0o, q0l, q0p, q0q, q0r, mm_s0, mm_s1, mm_s2, mm_s3, q0k, q0f, q0c, q0j, q0s, q0d, q08, q0e, q09, Nat.add_assoc, AB.calm, kpX, kpM, ml_z, ml_1, ml_l, ml_r, ml_b, ml_le, ml_0, ml_0k, Nat.one_ne_zero, List.all_cons, List.all_nil]
  refine q1r tyOk (α := Nat) (mlen n + 3) [0, 1, 4, 5, 6, 14, 15, 16] (fun i => i ≤ n)
    (fun i => ⟨[.ptr 0 0, i64 who, .any, .any, .ptr (mlen n) 0, .ptr (mlen n + 1) 0, .own (mlen n + 2) 1 0 i, .any, .any, .any, .any, .any, .any, .any, .own 2 1 0 n, i64 n, i64 i, .any, .any, .any, .any, .any, .any, .any, .any, .any, .any, .any, .any, .any, .any, .any, .any, .any, .any, .any, .any, .any, .any, .any, .any], modM n pad (M.drains who i) ++ [.box [i64 0, .v (.slice none 0 0), .v (.slice none 0 0), bool false], .box [i64 0, .v (.slice none 0 0), .v (.slice none 0 0), bool (lostW M who i)], .row 39 1 (rws (rowsW M who i))]⟩)
    (fun i => n - i) 0 (by omega) (Nat.zero_le _) ?_ ?_
  · rw [drains_0]
    simp only [St.trunc, St.keep, q04, q05, AB.trunc, keepV, ml_k0, ml_k2, ml_kl, ml_kl0, mm_rn3, Nat.reduceLeDiff, List.elem_cons, List.elem_nil, List.take_succ_cons, List.take_zero, List.map_cons, List.map_nil, Nat.reduceAdd, Nat.reduceBEq, Nat.zero_add, Bool.false_eq_true, ↓reduceIte]
    rfl
  intro i hi
  try simp (maxSteps := 1000000) only [seval, -Int.reduceToNat, -Int.reduceNatCast, -Int.reduceNatCast', -Nat.reduceSubDiff, T, eqc36, eqc44, eqc49, eqc52, q00, q01, q02, q03, mm_0, mm_1, mm_2, mm_0n, mm_1n, mm_2n, q0o, q0l, q0p, q0q, q0r, mm_s0, mm_s1, mm_s2, mm_s3, q0k, q0f, q0c, q0j, q0s, q0d, q08, q0e, q09, Nat.add_assoc, AB.calm, kpX, kpM, ml_z, ml_1, ml_l, ml_r, ml_b, ml_le, ml_0, ml_0k, Nat.one_ne_zero, List.all_cons, List.all_nil]
  (first | refine q0a ?_ ?_ | refine q0g ?_ ?_ | refine q0h ?_ ?_ | refine q0i ?_ ?_ | refine q0b ?_ ?_) <;> intro hc
  · have hlt : i < n := by simpa using hc
    have c2 : (0 : Int) ≤ ((i : Nat) : Int) ∧ Int.toNat ((i : Nat) : Int) < n := by omega
    obtain ⟨hq1, hq2⟩ := ptr_load (pad := pad) hlt
    have hn8 := h.n8
    have ew2 : IntKind.i64.wrap ((i : Int) + 1) = ((i + 1 : Nat) : Int) := by rw [wrap_i64 (by omega) (by omega)]; rfl
    have hl := rowsW_len M who i
    try simp (maxSteps := 1000000) only [seval, -Int.reduceToNat, -Int.reduceNatCast, -Int.reduceNatCast', -Nat.reduceSubDiff, T, eqc36, eqc44, eqc49, eqc52, q00, q01, q02, q03, mm_0, mm_1, mm_2, mm_0n, mm_1n, mm_2n, q0o, q0l, q0p, q0q, q0r, mm_s0, mm_s1, mm_s2, mm_s3, q0k, q0f, q0c, q0j, q0s, q0d, q08, q0e, q09, Nat.add_assoc, AB.calm, kpX, kpM, ml_z, ml_1, ml_l, ml_r, ml_b, ml_le, ml_0, ml_0k, Nat.one_ne_zero, List.all_cons, List.all_nil, c2, hq1, hq2]
    refine callG_X (kp := kpM n) (fun b hb => by simp [kpM, show b < 3 by omega]) ((Drain_in (mok_drains h who i) _ ?_ hlt who hw).mono ?_)
    · rfl
    rintro x m' ⟨rfl, rfl⟩
    rw [drains_next, drains_at]
    try simp (maxSteps := 1000000) only [seval, -Int.reduceToNat, -Int.reduceNatCast, -Int.reduceNatCast', -Nat.reduceSubDiff, T, eqc36, eqc44, eqc49, eqc52, q00, q01, q02, q03, mm_0, mm_1, mm_2, mm_0n, mm_1n, mm_2n, q0o, q0l, q0p, q0q, q0r, mm_s0, mm_s1, mm_s2, mm_s3, q0k, q0f, q0c, q0j, q0s, q0d, q08, q0e, q09, Nat.add_assoc, AB.calm, kpX, kpM, ml_z, ml_1, ml_l, ml_r, ml_b, ml_le, ml_0, ml_0k, Nat.one_ne_zero, List.all_cons, List.all_nil, rws_len, hl]
    refine ⟨⟨by simp only [maxLen]; omega, by omega⟩, ?_⟩
    have er : rws (rowsW M who i) ++ [.sl 8 (evts ((M.f i).q who.toNat).1)] = rws (rowsW M who (i + 1)) := by rw [rowsW_next, rws, rws, List.map_append]; rfl
    have el := lostW_next M who i
    cases hL : lostW M who i with
    | true =>
      rw [hL, Bool.true_or] at el
      try simp (maxSteps := 1000000) only [seval, -Int.reduceToNat, -Int.reduceNatCast, -Int.reduceNatCast', -Nat.reduceSubDiff, T, eqc36, eqc44, eqc49, eqc52, q00, q01, q02, q03, mm_0, mm_1, mm_2, mm_0n, mm_1n, mm_2n, q0o, q0l, q0p, q0q, q0r, mm_s0, mm_s1, mm_s2, mm_s3, q0k, q0f, q0c, q0j, q0s, q0d, q08, q0e, q09, Nat.add_assoc, AB.calm, kpX, kpM, ml_z, ml_1, ml_l, ml_r, ml_b, ml_le, ml_0, ml_0k, Nat.one_ne_zero, List.all_cons, List.all_nil, ew2]
      simp only [q0v, St.trunc, St.keep, q04, q05, AB.trunc, keepV, ml_k0, ml_k2, ml_kl, ml_kl0, mm_rn3, Nat.reduceLeDiff, er, List.drop_zero, List.elem_cons, List.elem_nil, List.take_succ_cons, List.take_zero, List.map_cons, List.map_nil, Nat.reduceAdd, Nat.reduceBEq, Nat.le_refl, Nat.zero_add, Bool.false_eq_true, ↓reduceIte]
      exact ⟨i + 1, hlt, by omega, by rw [el]⟩
    | false =>
      rw [hL, Bool.false_or] at el
      try simp (maxSteps := 1000000) only [seval, -Int.reduceToNat, -Int.reduceNatCast, -Int.reduceNatCast', -Nat.reduceSubDiff, T, eqc36, eqc44, eqc49, eqc52, q00, q01, q02, q03, mm_0, mm_1, mm_2, mm_0n, mm_1n, mm_2n, q0o, q0l, q0p, q0q, q0r, mm_s0, mm_s1, mm_s2, mm_s3, q0k, q0f, q0c, q0j, q0s, q0d, q08, q0e, q09, Nat.add_assoc, AB.calm, kpX, kpM, ml_z, ml_1, ml_l, ml_r, ml_b, ml_le, ml_0, ml_0k, Nat.one_ne_zero, List.all_cons, List.all_nil, ew2]
      simp only [q0v, St.trunc, St.keep, q04, q05, AB.trunc, keepV, ml_k0, ml_k2, ml_kl, ml_kl0, mm_rn3, Nat.reduceLeDiff, er, List.drop_zero, List.elem_cons, List.elem_nil, List.take_succ_cons, List.take_zero, List.map_cons, List.map_nil, Nat.reduceAdd, Nat.reduceBEq, Nat.le_refl, Nat.zero_add, Bool.false_eq_true, ↓reduceIte]
      exact ⟨i + 1, hlt, by omega, by rw [el]⟩
  · have hge : i = n := by have : ¬ ((i : Int) < (n : Int)) := by simpa using hc
                           omega
    subst hge
    have hn8 := h.n8
    have hl := rowsW_len M who i
    have hM := feed_Merge (rowsW M who i) (by omega) (by
      have : ∀ k, total (rowsW M who k) ≤ 100 * k := by
        intro k
        induction k with
        | zero => simp [rowsW, total]
        | succ k ih =>
          have h1 := h.q k who.toNat
          rw [rowsW_next]
          simp only [total, List.map_append, List.sum_append, List.map_cons, List.map_nil, List.sum_cons, List.sum_nil] at ih ⊢
          omega
      have := this i
      omega) (by
      intro j
      by_cases hj : j < i
      · have := h.q j who.toNat
        simp only [rowsW, List.getD_eq_getElem?_getD, List.getElem?_map, List.getElem?_range hj, Option.map_some, Option.getD_some]
        omega
      · rw [List.getD_eq_getElem?_getD, List.getElem?_eq_none (by omega)]
        simp)
    try simp (maxSteps := 1000000) only [seval, -Int.reduceToNat, -Int.reduceNatCast, -Int.reduceNatCast', -Nat.reduceSubDiff, T, eqc36, eqc44, eqc49, eqc52, q00, q01, q02, q03, mm_0, mm_1, mm_2, mm_0n, mm_1n, mm_2n, q0o, q0l, q0p, q0q, q0r, mm_s0, mm_s1, mm_s2, mm_s3, q0k, q0f, q0c, q0j, q0s, q0d, q08, q0e, q09, Nat.add_assoc, AB.calm, kpX, kpM, ml_z, ml_1, ml_l, ml_r, ml_b, ml_le, ml_0, ml_0k, Nat.one_ne_zero, List.all_cons, List.all_nil]
    refine callO_shut ?_
    try simp (maxSteps := 1000000) only [seval, -Int.reduceToNat, -Int.reduceNatCast, -Int.reduceNatCast', -Nat.reduceSubDiff, T, eqc36, eqc44, eqc49, eqc52, q00, q01, q02, q03, mm_0, mm_1, mm_2, mm_0n, mm_1n, mm_2n, q0o, q0l, q0p, q0q, q0r, mm_s0, mm_s1, mm_s2, mm_s3, q0k, q0f, q0c, q0j, q0s, q0d, q08, q0e, q09, Nat.add_assoc, AB.calm, kpX, kpM, ml_z, ml_1, ml_l, ml_r, ml_b, ml_le, ml_0, ml_0k, Nat.one_ne_zero, List.all_cons, List.all_nil, rws_len, hl]
    rw [List.take_of_length_le (by rw [rws_len, hl]; exact Nat.le_refl _)]
    (refine q06 hM rfl ?_; rintro _ rfl)
    try simp (maxSteps := 1000000) only [seval, -Int.reduceToNat, -Int.reduceNatCast, -Int.reduceNatCast', -Nat.reduceSubDiff, T, eqc36, eqc44, eqc49, eqc52, q00, q01, q02, q03, mm_0, mm_1, mm_2, mm_0n, mm_1n, mm_2n, q0o, q0l, q0p, q0q, q0r, mm_s0, mm_s1, mm_s2, mm_s3, q0k, q0f, q0c, q0j, q0s, q0d, q08, q0e, q09, Nat.add_assoc, AB.calm, kpX, kpM, ml_z, ml_1, ml_l, ml_r, ml_b, ml_le, ml_0, ml_0k, Nat.one_ne_zero, List.all_cons, List.all_nil]
    apply hK
    simp only [Tryz.results40, retK, ares, Bool.and_true, AV.ofResults, St.trunc, q04, q05, aload, acell, T, TI.isAgg, List.getD_cons_zero, List.getD_cons_succ, List.drop_zero, and_true, ↓reduceIte, List.cons.injEq, exists_eq_left']
    simp only [q0o, List.getElem?_cons_zero, List.take_succ_cons, List.take_zero, mm_ret, and_true, true_and, List.length_cons, List.length_nil, q04, q05, Nat.reduceAdd, Nat.le_refl]
    first | rfl | exact ⟨rfl, rfl⟩
end Go.Proofs.YtdkcpcflfnakdaaGreat
namespace Go.Proofs.YtdkcpcflfnakdaaGreat
open Go Go.Proofs.YtdkcpcflfnakdaaGreat.Sym
set_option maxRecDepth 100000
set_option maxHeartbeats 1000000
set_option maxHeartbeats 2000000
set_option linter.unusedSimpArgs false
set_option linter.unusedVariables false

/-! ### which ops may not be -/
def badN (us : List ByteArray) : Bool := us.any fun u => !nameB u
def badO (o : Opb) : Bool :=
  if (o.kind == 1) = true then (!nameB o.u) || !(decide (0 ≤ o.id) && decide (o.id ≤ 255) && decide (1 ≤ o.st) && decide (o.st ≤ 9) && decide (0 ≤ o.pr) && decide (o.pr ≤ 9))
  else if (o.kind == 2 || o.kind == 3) = true then (!nameB o.u) || !inB o.id 0 255
  else if (o.kind == 4 || (o.kind == 6 || o.kind == 7)) = true then !nameB o.u
  else if (o.kind == 5) = true then badN o.us || !inB o.us.length 1 8
  else !(o.kind == 8 || o.kind == 9)
theorem bad_next {us : List ByteArray} {i : Nat} (h : i < us.length) : badN (us.take (i + 1)) = (badN (us.take i) || !nameB us[i]) := by
  rw [take_one h, badN, List.any_append]; simp [badN]
theorem model_Bad (o : Opb) (hu : o.us.length ≤ 1000) : PCall P 14 [o.av] (fun x => x = bool (badO o)) := by
  refine q0u tyOk Tryz.func14 rfl rfl ?_
  intro K hK
  simp only [Tryz.ntmps14, List.length_cons, List.length_nil, Nat.reduceAdd, Nat.reduceSub, List.replicate, List.cons_append, List.nil_append]
  unfold badO at hK
  try simp (maxSteps := 1000000) only [seval, -Int.reduceToNat, -Int.reduceNatCast, -Int.reduceNatCast', -Nat.reduceSubDiff, T, eqc36, eqc44, eqc49, eqc52, q00, q01, q02, q03, Opb.av]
  cases h1 : (o.kind == 1)
  · rw [h1, if_neg (by decide)] at hK
    try simp (maxSteps := 1000000) only [seval, -Int.reduceToNat, -Int.reduceNatCast, -Int.reduceNatCast', -Nat.reduceSubDiff, T, eqc36, eqc44, eqc49, eqc52, q00, q01, q02, q03]
    cases h2 : (o.kind == 2)
    · cases h3 : (o.kind == 3)
      · rw [h2, h3, if_neg (by decide)] at hK
        try simp (maxSteps := 1000000) only [seval, -Int.reduceToNat, -Int.reduceNatCast, -Int.reduceNatCast', -Nat.reduceSubDiff, T, eqc36, eqc44, eqc49, eqc52, q00, q01, q02, q03, h3]
        cases h4 : (o.kind == 4)
        · try simp (maxSteps := 1000000) only [seval, -Int.reduceToNat, -Int.reduceNatCast, -Int.reduceNatCast', -Nat.reduceSubDiff, T, eqc36, eqc44, eqc49, eqc52, q00, q01, q02, q03]
          cases h6 : (o.kind == 6)
          · try simp (maxSteps := 1000000) only [seval, -Int.reduceToNat, -Int.reduceNatCast, -Int.reduceNatCast', -Nat.reduceSubDiff, T, eqc36, eqc44, eqc49, eqc52, q00, q01, q02, q03]
            cases h7 : (o.kind == 7)
            · rw [h4, h6, h7, if_neg (by decide)] at hK
              try simp (maxSteps := 1000000) only [seval, -Int.reduceToNat, -Int.reduceNatCast, -Int.reduceNatCast', -Nat.reduceSubDiff, T, eqc36, eqc44, eqc49, eqc52, q00, q01, q02, q03]
              cases h5 : (o.kind == 5)
              · rw [h5, if_neg (by decide)] at hK
                try simp (maxSteps := 1000000) only [seval, -Int.reduceToNat, -Int.reduceNatCast, -Int.reduceNatCast', -Nat.reduceSubDiff, T, eqc36, eqc44, eqc49, eqc52, q00, q01, q02, q03]
                cases h8 : (o.kind == 8)
                · try simp (maxSteps := 1000000) only [seval, -Int.reduceToNat, -Int.reduceNatCast, -Int.reduceNatCast', -Nat.reduceSubDiff, T, eqc36, eqc44, eqc49, eqc52, q00, q01, q02, q03]
                  cases h9 : (o.kind == 9)
                  · rw [h8, h9] at hK
                    try simp (maxSteps := 1000000) only [seval, -Int.reduceToNat, -Int.reduceNatCast, -Int.reduceNatCast', -Nat.reduceSubDiff, T, eqc36, eqc44, eqc49, eqc52, q00, q01, q02, q03]
                    apply hK
                    simp only [Tryz.results14, retK, ares, Bool.and_true, Bool.true_and, AV.ofResults, St.trunc, q04, q05, List.getD_cons_zero, List.getD_cons_succ, List.take_zero, List.map_nil, true_and, and_true, List.cons.injEq, exists_eq_left']
                    try rfl
                  · rw [h8, h9] at hK
                    try simp (maxSteps := 1000000) only [seval, -Int.reduceToNat, -Int.reduceNatCast, -Int.reduceNatCast', -Nat.reduceSubDiff, T, eqc36, eqc44, eqc49, eqc52, q00, q01, q02, q03]
                    apply hK
                    simp only [Tryz.results14, retK, ares, Bool.and_true, Bool.true_and, AV.ofResults, St.trunc, q04, q05, List.getD_cons_zero, List.getD_cons_succ, List.take_zero, List.map_nil, true_and, and_true, List.cons.injEq, exists_eq_left']
                    try rfl
                · rw [h8] at hK
                  try simp (maxSteps := 1000000) only [seval, -Int.reduceToNat, -Int.reduceNatCast, -Int.reduceNatCast', -Nat.reduceSubDiff, T, eqc36, eqc44, eqc49, eqc52, q00, q01, q02, q03]
                  apply hK
                  simp only [Tryz.results14, retK, ares, Bool.and_true, Bool.true_and, AV.ofResults, St.trunc, q04, q05, List.getD_cons_zero, List.getD_cons_succ, List.take_zero, List.map_nil, true_and, and_true, List.cons.injEq, exists_eq_left']
                  try rfl
              · rw [h5, if_pos rfl] at hK
                try simp (maxSteps := 1000000) only [seval, -Int.reduceToNat, -Int.reduceNatCast, -Int.reduceNatCast', -Nat.reduceSubDiff, T, eqc36, eqc44, eqc49, eqc52, q00, q01, q02, q03]
                refine q1r tyOk (α := Nat) 1 [1, 47, 48, 49] (fun i => i ≤ o.us.length ∧ badN (o.us.take i) = false)
                  (fun i => ⟨[.any, .ptr 0 0, .any, .any, .any, .any, .any, .any, .any, .any, .any, .any, .any, .any, .any, .any, .any, .any, .any, .any, .any, .any, .any, .any, .any, .any, .any, .any, .any, .any, .any, .any, .any, .any, .any, .any, .any, .any, .any, .any, .any, .any, .any, .any, .any, .any, .any, .sl 1 (o.us.map fun x => str x), i64 (o.us.map fun x => str x).length, i64 i, .any, .any, .any, .any, .any, .any, .any, .any, .any, .any, .any, .any, .any, .any, .any], [.box [i64 o.kind, str o.u, i64 o.id, i64 o.st, i64 o.pr, u64 o.ttl, .sl 1 (o.us.map fun x => str x)]]⟩)
                  (fun i => o.us.length - i) 0 (Nat.zero_le _) ⟨Nat.zero_le _, rfl⟩ rfl ?_
                rintro i ⟨hi, hbad⟩
                try simp (maxSteps := 1000000) only [seval, -Int.reduceToNat, -Int.reduceNatCast, -Int.reduceNatCast', -Nat.reduceSubDiff, T, eqc36, eqc44, eqc49, eqc52, q00, q01, q02, q03, List.length_map]
                (first | refine q0a ?_ ?_ | refine q0g ?_ ?_ | refine q0h ?_ ?_ | refine q0i ?_ ?_ | refine q0b ?_ ?_) <;> intro hc
                · have hlt : i < o.us.length := by simpa using hc
                  have c1 : (0 : Int) ≤ (i : Int) ∧ Int.toNat (i : Int) < o.us.length := by omega
                  have eg : (o.us.map fun x => str x).getD (Int.toNat (i : Int)) .any = str o.us[i] := by
                    simp [List.getD_eq_getElem?_getD, hlt]
                  have ew : IntKind.i64.wrap ((i : Int) + 1) = ((i + 1 : Nat) : Int) := by rw [wrap_i64 (by omega) (by omega)]; rfl
                  have hn := bad_next hlt
                  try simp (maxSteps := 1000000) only [seval, -Int.reduceToNat, -Int.reduceNatCast, -Int.reduceNatCast', -Nat.reduceSubDiff, T, eqc36, eqc44, eqc49, eqc52, q00, q01, q02, q03, c1, eg, List.length_map]
                  (refine q06 (hash_Right o.us[i]) rfl ?_; rintro _ rfl)
                  try simp (maxSteps := 1000000) only [seval, -Int.reduceToNat, -Int.reduceNatCast, -Int.reduceNatCast', -Nat.reduceSubDiff, T, eqc36, eqc44, eqc49, eqc52, q00, q01, q02, q03]
                  cases hb : nameB o.us[i]
                  · have hbt : badN o.us = true := by
                      rw [badN, List.any_eq_true]
                      exact ⟨o.us[i], List.getElem_mem hlt, by rw [hb]; rfl⟩
                    rw [hbt, Bool.true_or] at hK
                    try simp (maxSteps := 1000000) only [seval, -Int.reduceToNat, -Int.reduceNatCast, -Int.reduceNatCast', -Nat.reduceSubDiff, T, eqc36, eqc44, eqc49, eqc52, q00, q01, q02, q03]
                    apply hK
                    simp only [Tryz.results14, retK, ares, Bool.and_true, Bool.true_and, AV.ofResults, St.trunc, q04, q05, List.getD_cons_zero, List.getD_cons_succ, List.take_zero, List.map_nil, true_and, and_true, List.cons.injEq, exists_eq_left']
                    try rfl
                  · try simp (maxSteps := 1000000) only [seval, -Int.reduceToNat, -Int.reduceNatCast, -Int.reduceNatCast', -Nat.reduceSubDiff, T, eqc36, eqc44, eqc49, eqc52, q00, q01, q02, q03, ew]
                    simp only [q0v, St.trunc, St.keep, q04, q05, AB.trunc, keepV, List.elem_cons, List.elem_nil, List.take_succ_cons, List.take_zero, List.map_cons, List.map_nil, Nat.reduceAdd, Nat.reduceBEq, Nat.reduceLeDiff, Nat.zero_add, Bool.false_eq_true, ↓reduceIte]
                    exact ⟨i + 1, ⟨hlt, by rw [hn, hbad, hb]; rfl⟩, by omega, by first | rfl | simp⟩
                · have hge : i = o.us.length := by have : ¬ ((i : Int) < (o.us.length : Int)) := by simpa using hc
                                                   omega
                  subst hge
                  rw [List.take_length] at hbad
                  rw [hbad, Bool.false_or] at hK
                  try simp (maxSteps := 1000000) only [seval, -Int.reduceToNat, -Int.reduceNatCast, -Int.reduceNatCast', -Nat.reduceSubDiff, T, eqc36, eqc44, eqc49, eqc52, q00, q01, q02, q03, List.length_map]
                  (refine q06 (q2n o.us.length 1 8) rfl ?_; rintro _ rfl)
                  try simp (maxSteps := 1000000) only [seval, -Int.reduceToNat, -Int.reduceNatCast, -Int.reduceNatCast', -Nat.reduceSubDiff, T, eqc36, eqc44, eqc49, eqc52, q00, q01, q02, q03]
                  apply hK
                  simp only [Tryz.results14, retK, ares, Bool.and_true, Bool.true_and, AV.ofResults, St.trunc, q04, q05, List.getD_cons_zero, List.getD_cons_succ, List.take_zero, List.map_nil, true_and, and_true, List.cons.injEq, exists_eq_left']
                  try rfl
            · rw [h4, h6, h7, if_pos (by rfl)] at hK
              try simp (maxSteps := 1000000) only [seval, -Int.reduceToNat, -Int.reduceNatCast, -Int.reduceNatCast', -Nat.reduceSubDiff, T, eqc36, eqc44, eqc49, eqc52, q00, q01, q02, q03]
              (refine q06 (hash_Right o.u) rfl ?_; rintro _ rfl)
              try simp (maxSteps := 1000000) only [seval, -Int.reduceToNat, -Int.reduceNatCast, -Int.reduceNatCast', -Nat.reduceSubDiff, T, eqc36, eqc44, eqc49, eqc52, q00, q01, q02, q03]
              apply hK
              simp only [Tryz.results14, retK, ares, Bool.and_true, Bool.true_and, AV.ofResults, St.trunc, q04, q05, List.getD_cons_zero, List.getD_cons_succ, List.take_zero, List.map_nil, true_and, and_true, List.cons.injEq, exists_eq_left']
              try rfl
          · rw [h4, h6, if_pos (by rfl)] at hK
            try simp (maxSteps := 1000000) only [seval, -Int.reduceToNat, -Int.reduceNatCast, -Int.reduceNatCast', -Nat.reduceSubDiff, T, eqc36, eqc44, eqc49, eqc52, q00, q01, q02, q03]
            (refine q06 (hash_Right o.u) rfl ?_; rintro _ rfl)
            try simp (maxSteps := 1000000) only [seval, -Int.reduceToNat, -Int.reduceNatCast, -Int.reduceNatCast', -Nat.reduceSubDiff, T, eqc36, eqc44, eqc49, eqc52, q00, q01, q02, q03]
            apply hK
            simp only [Tryz.results14, retK, ares, Bool.and_true, Bool.true_and, AV.ofResults, St.trunc, q04, q05, List.getD_cons_zero, List.getD_cons_succ, List.take_zero, List.map_nil, true_and, and_true, List.cons.injEq, exists_eq_left']
            try rfl
        · rw [h4, if_pos (by rfl)] at hK
          try simp (maxSteps := 1000000) only [seval, -Int.reduceToNat, -Int.reduceNatCast, -Int.reduceNatCast', -Nat.reduceSubDiff, T, eqc36, eqc44, eqc49, eqc52, q00, q01, q02, q03]
          (refine q06 (hash_Right o.u) rfl ?_; rintro _ rfl)
          try simp (maxSteps := 1000000) only [seval, -Int.reduceToNat, -Int.reduceNatCast, -Int.reduceNatCast', -Nat.reduceSubDiff, T, eqc36, eqc44, eqc49, eqc52, q00, q01, q02, q03]
          apply hK
          simp only [Tryz.results14, retK, ares, Bool.and_true, Bool.true_and, AV.ofResults, St.trunc, q04, q05, List.getD_cons_zero, List.getD_cons_succ, List.take_zero, List.map_nil, true_and, and_true, List.cons.injEq, exists_eq_left']
          try rfl
      · rw [h2, h3, if_pos (by rfl)] at hK
        try simp (maxSteps := 1000000) only [seval, -Int.reduceToNat, -Int.reduceNatCast, -Int.reduceNatCast', -Nat.reduceSubDiff, T, eqc36, eqc44, eqc49, eqc52, q00, q01, q02, q03, h3]
        (refine q06 (hash_Right o.u) rfl ?_; rintro _ rfl)
        try simp (maxSteps := 1000000) only [seval, -Int.reduceToNat, -Int.reduceNatCast, -Int.reduceNatCast', -Nat.reduceSubDiff, T, eqc36, eqc44, eqc49, eqc52, q00, q01, q02, q03]
        cases hn : nameB o.u
        · rw [hn] at hK
          try simp (maxSteps := 1000000) only [seval, -Int.reduceToNat, -Int.reduceNatCast, -Int.reduceNatCast', -Nat.reduceSubDiff, T, eqc36, eqc44, eqc49, eqc52, q00, q01, q02, q03]
          apply hK
          simp only [Tryz.results14, retK, ares, Bool.and_true, Bool.true_and, AV.ofResults, St.trunc, q04, q05, List.getD_cons_zero, List.getD_cons_succ, List.take_zero, List.map_nil, true_and, and_true, List.cons.injEq, exists_eq_left']
          try rfl
        · rw [hn] at hK
          try simp (maxSteps := 1000000) only [seval, -Int.reduceToNat, -Int.reduceNatCast, -Int.reduceNatCast', -Nat.reduceSubDiff, T, eqc36, eqc44, eqc49, eqc52, q00, q01, q02, q03]
          (refine q06 (q2n o.id 0 255) rfl ?_; rintro _ rfl)
          try simp (maxSteps := 1000000) only [seval, -Int.reduceToNat, -Int.reduceNatCast, -Int.reduceNatCast', -Nat.reduceSubDiff, T, eqc36, eqc44, eqc49, eqc52, q00, q01, q02, q03]
          apply hK
          simp only [Tryz.results14, retK, ares, Bool.and_true, Bool.true_and, AV.ofResults, St.trunc, q04, q05, List.getD_cons_zero, List.getD_cons_succ, List.take_zero, List.map_nil, true_and, and_true, List.cons.injEq, exists_eq_left']
          try rfl
    · rw [h2, if_pos (by rfl)] at hK
      try simp (maxSteps := 1000000) only [seval, -Int.reduceToNat, -Int.reduceNatCast, -Int.reduceNatCast', -Nat.reduceSubDiff, T, eqc36, eqc44, eqc49, eqc52, q00, q01, q02, q03]
      (refine q06 (hash_Right o.u) rfl ?_; rintro _ rfl)
      try simp (maxSteps := 1000000) only [seval, -Int.reduceToNat, -Int.reduceNatCast, -Int.reduceNatCast', -Nat.reduceSubDiff, T, eqc36, eqc44, eqc49, eqc52, q00, q01, q02, q03]
      cases hn : nameB o.u
      · rw [hn] at hK
        try simp (maxSteps := 1000000) only [seval, -Int.reduceToNat, -Int.reduceNatCast, -Int.reduceNatCast', -Nat.reduceSubDiff, T, eqc36, eqc44, eqc49, eqc52, q00, q01, q02, q03]
        apply hK
        simp only [Tryz.results14, retK, ares, Bool.and_true, Bool.true_and, AV.ofResults, St.trunc, q04, q05, List.getD_cons_zero, List.getD_cons_succ, List.take_zero, List.map_nil, true_and, and_true, List.cons.injEq, exists_eq_left']
        try rfl
      · rw [hn] at hK
        try simp (maxSteps := 1000000) only [seval, -Int.reduceToNat, -Int.reduceNatCast, -Int.reduceNatCast', -Nat.reduceSubDiff, T, eqc36, eqc44, eqc49, eqc52, q00, q01, q02, q03]
        (refine q06 (q2n o.id 0 255) rfl ?_; rintro _ rfl)
        try simp (maxSteps := 1000000) only [seval, -Int.reduceToNat, -Int.reduceNatCast, -Int.reduceNatCast', -Nat.reduceSubDiff, T, eqc36, eqc44, eqc49, eqc52, q00, q01, q02, q03]
        apply hK
        simp only [Tryz.results14, retK, ares, Bool.and_true, Bool.true_and, AV.ofResults, St.trunc, q04, q05, List.getD_cons_zero, List.getD_cons_succ, List.take_zero, List.map_nil, true_and, and_true, List.cons.injEq, exists_eq_left']
        try rfl
  · rw [h1, if_pos rfl] at hK
    try simp (maxSteps := 1000000) only [seval, -Int.reduceToNat, -Int.reduceNatCast, -Int.reduceNatCast', -Nat.reduceSubDiff, T, eqc36, eqc44, eqc49, eqc52, q00, q01, q02, q03]
    (refine q06 (hash_Right o.u) rfl ?_; rintro _ rfl)
    try simp (maxSteps := 1000000) only [seval, -Int.reduceToNat, -Int.reduceNatCast, -Int.reduceNatCast', -Nat.reduceSubDiff, T, eqc36, eqc44, eqc49, eqc52, q00, q01, q02, q03]
    cases hn : nameB o.u
    · rw [hn] at hK
      try simp (maxSteps := 1000000) only [seval, -Int.reduceToNat, -Int.reduceNatCast, -Int.reduceNatCast', -Nat.reduceSubDiff, T, eqc36, eqc44, eqc49, eqc52, q00, q01, q02, q03]
      apply hK
      simp only [Tryz.results14, retK, ares, Bool.and_true, Bool.true_and, AV.ofResults, St.trunc, q04, q05, List.getD_cons_zero, List.getD_cons_succ, List.take_zero, List.map_nil, true_and, and_true, List.cons.injEq, exists_eq_left']
      try rfl
    · rw [hn] at hK
      try simp (maxSteps := 1000000) only [seval, -Int.reduceToNat, -Int.reduceNatCast, -Int.reduceNatCast', -Nat.reduceSubDiff, T, eqc36, eqc44, eqc49, eqc52, q00, q01, q02, q03]
      (refine q06 (sess_Right o.id o.st o.pr) rfl ?_; rintro _ rfl)
      try simp (maxSteps := 1000000) only [seval, -Int.reduceToNat, -Int.reduceNatCast, -Int.reduceNatCast', -Nat.reduceSubDiff, T, eqc36, eqc44, eqc49, eqc52, q00, q01, q02, q03]
      apply hK
      simp only [Tryz.results14, retK, ares, Bool.and_true, Bool.true_and, AV.ofResults, St.trunc, q04, q05, List.getD_cons_zero, List.getD_cons_succ, List.take_zero, List.map_nil, true_and, and_true, List.cons.injEq, exists_eq_left']
      try rfl
end Go.Proofs.YtdkcpcflfnakdaaGreat
