/- The base of the laws of this seat: texts of this session, joined by a program. -/
import Derived.Test.YtdkcpcflfnakdaaGreatMe
import Derived.Test.YtdkcpcflfnakdaaGreatMd
import Derived.Test.YtdkcpcflfnakdaaGreatSymZi
namespace Go.Proofs.YtdkcpcflfnakdaaGreat
open Go Go.Proofs.YtdkcpcflfnakdaaGreat.Sym
attribute [-sevalprocAttr] Int.reduceToNat Int.reduceNatCast Int.reduceNatCast' Nat.reduceSubDiff
set_option maxRecDepth 100000
set_option maxHeartbeats 1000000
set_option linter.unusedSimpArgs false
set_option linter.unusedVariables false

abbrev Rws := List (List Ev)
def upStep (R : Rws) (best : Option Nat) (i : Nat) : Option Nat :=
  match R.getD i [], best with
  | [], _ => best
  | _ :: _, none => some i
  | e :: _, some b => match R.getD b [] with
    | [] => some i
    | f :: _ => if e.seq < f.seq then some i else some b
theorem upStep_nil {R : Rws} {o : Option Nat} {i : Nat} (h : R.getD i [] = []) : upStep R o i = o := by
  unfold upStep; rw [h]
theorem upStep_none {R : Rws} {i : Nat} {e : Ev} {t : List Ev} (h : R.getD i [] = e :: t) : upStep R none i = some i := by
  unfold upStep; rw [h]
theorem upStep_some {R : Rws} {i b : Nat} {e f : Ev} {t u : List Ev} (h : R.getD i [] = e :: t) (h2 : R.getD b [] = f :: u) : upStep R (some b) i = if e.seq < f.seq then some i else some b := by
  unfold upStep; rw [h]; simp only [h2]
def up (R : Rws) : Nat → Option Nat
  | 0 => none
  | n + 1 => upStep R (up R n) n
def Best (R : Rws) (S : Nat → Prop) : Option Nat → Prop
  | none => ∀ i, S i → R.getD i [] = []
  | some b => S b ∧ ∃ e t, R.getD b [] = e :: t ∧ ∀ i, S i → ∀ f u, R.getD i [] = f :: u → e.seq < f.seq ∨ (e.seq = f.seq ∧ b ≤ i)
theorem up_best (R : Rws) : ∀ n, Best R (fun i => i < n) (up R n)
  | 0 => fun i hi => absurd hi (Nat.not_lt_zero i)
  | n + 1 => by
    have ih := up_best R n
    rw [up]
    generalize up R n = o at ih
    cases hR : R.getD n [] with
    | nil =>
      rw [upStep_nil hR]
      cases o with
      | none =>
        intro i hi
        rcases Nat.lt_succ_iff_lt_or_eq.1 hi with h | rfl
        · exact ih i h
        · exact hR
      | some b =>
        obtain ⟨h1, e, t, h2, h3⟩ := ih
        refine ⟨Nat.lt_succ_of_lt h1, e, t, h2, fun i hi f u hf => ?_⟩
        rcases Nat.lt_succ_iff_lt_or_eq.1 hi with h | rfl
        · exact h3 i h f u hf
        · rw [hR] at hf; cases hf
    | cons e t =>
      cases o with
      | none =>
        rw [upStep_none hR]
        refine ⟨Nat.lt_succ_self n, e, t, hR, fun i hi f u hf => ?_⟩
        rcases Nat.lt_succ_iff_lt_or_eq.1 hi with h | rfl
        · rw [ih i h] at hf; cases hf
        · rw [hR] at hf; cases hf; exact .inr ⟨rfl, Nat.le_refl _⟩
      | some b =>
        obtain ⟨h1, f, u, h2, h3⟩ := ih
        rw [upStep_some hR h2]
        by_cases hlt : e.seq < f.seq
        · rw [if_pos hlt]
          refine ⟨Nat.lt_succ_self n, e, t, hR, fun i hi g v hg => ?_⟩
          rcases Nat.lt_succ_iff_lt_or_eq.1 hi with h | rfl
          · have := h3 i h g v hg; omega
          · rw [hR] at hg; cases hg; exact .inr ⟨rfl, Nat.le_refl _⟩
        · rw [if_neg hlt]
          refine ⟨Nat.lt_succ_of_lt h1, f, u, h2, fun i hi g v hg => ?_⟩
          rcases Nat.lt_succ_iff_lt_or_eq.1 hi with h | rfl
          · exact h3 i h g v hg
          · rw [hR] at hg; cases hg; omega
def bestOf (R : Rws) : Option Nat := up R R.length
def total (R : Rws) : Nat := (R.map List.length).sum
def dropAt (R : Rws) (b : Nat) : Rws := R.set b (R.getD b []).tail
theorem total_drop : ∀ {R : Rws} {b : Nat} {e : Ev} {t : List Ev}, R.getD b [] = e :: t → total R = total (dropAt R b) + 1
  | [], b, e, t, h => by simp at h
  | r :: R, 0, e, t, h => by
    have h : r = e :: t := h
    subst h
    simp only [total, dropAt, List.set, List.getD_cons_zero, List.tail, List.map_cons, List.sum_cons, List.length_cons]; omega
  | r :: R, b + 1, e, t, h => by
    have h : R.getD b [] = e :: t := h
    have ih := total_drop h
    simp only [total, dropAt, List.set, List.getD_cons_succ, List.map_cons, List.sum_cons] at ih ⊢
    omega
def mergeN : Nat → Rws → List Ev
  | 0, _ => []
  | n + 1, R => match bestOf R with
    | none => []
    | some b => match R.getD b [] with
      | [] => []
      | e :: _ => e :: mergeN n (dropAt R b)
def mergeF (R : Rws) : List Ev := mergeN (total R) R
theorem best_some' {R : Rws} {b : Nat} (h : bestOf R = some b) : b < R.length ∧ ∃ e t, R.getD b [] = e :: t ∧ ∀ i, i < R.length → ∀ f u, R.getD i [] = f :: u → e.seq ≤ f.seq := by
  have := up_best R R.length
  rw [bestOf] at h
  rw [h] at this
  obtain ⟨h1, e, t, h2, h3⟩ := this
  exact ⟨h1, e, t, h2, fun i hi f u hf => by have := h3 i hi f u hf; omega⟩
theorem merge_none {R : Rws} (h : bestOf R = none) : mergeF R = [] := by
  unfold mergeF
  cases total R with
  | zero => rfl
  | succ n => rw [mergeN, h]
theorem merge_some {R : Rws} {b : Nat} {e : Ev} {t : List Ev} (h : bestOf R = some b) (h2 : R.getD b [] = e :: t) : mergeF R = e :: mergeF (dropAt R b) := by
  unfold mergeF
  rw [total_drop h2, mergeN, h]
  simp only [h2]
theorem merge_len : ∀ n (R : Rws), total R = n → (mergeF R).length = n
  | 0, R, h => by rw [mergeF, h]; rfl
  | n + 1, R, h => by
    cases hb : bestOf R with
    | none =>
      exfalso
      have hu := up_best R R.length
      rw [bestOf] at hb
      rw [hb] at hu
      have : total R = 0 := by
        clear hb h
        have hz : ∀ r ∈ R, r = [] := fun r hr => by
          obtain ⟨i, hi, rfl⟩ := List.mem_iff_getElem.1 hr
          have := hu i hi
          rwa [List.getD_eq_getElem?_getD, List.getElem?_eq_getElem hi] at this
        clear hu
        induction R with
        | nil => rfl
        | cons r R ih =>
          have h1 := hz r List.mem_cons_self
          have h2 := ih (fun x hx => hz x (List.mem_cons_of_mem _ hx))
          subst h1
          simpa [total] using h2
      omega
    | some b =>
      obtain ⟨h1, e, t, h2, h3⟩ := best_some' hb
      have ht := total_drop h2
      rw [merge_some hb h2, List.length_cons, merge_len n _ (by omega)]
theorem drop_getD {R : Rws} {b i : Nat} (hb : b < R.length) : (dropAt R b).getD i [] = if i = b then (R.getD b []).tail else R.getD i [] := by
  unfold dropAt
  simp only [List.getD_eq_getElem?_getD]
  by_cases h : i = b
  · subst h
    rw [List.getElem?_set_self hb, if_pos rfl]; rfl
  · rw [List.getElem?_set_ne (Ne.symm h), if_neg h]
end Go.Proofs.YtdkcpcflfnakdaaGreat
namespace Go.Proofs.YtdkcpcflfnakdaaGreat
open Go Go.Proofs.YtdkcpcflfnakdaaGreat.Sym
attribute [-sevalprocAttr] Int.reduceToNat Int.reduceNatCast Int.reduceNatCast' Nat.reduceSubDiff
set_option maxRecDepth 100000
set_option maxHeartbeats 1000000
set_option linter.unusedSimpArgs false
set_option linter.unusedVariables false

def rws (R : Rws) : List AV := R.map fun r => .sl 8 (evts r)
theorem rws_len (R : Rws) : (rws R).length = R.length := by simp [rws]
theorem rws_at {R : Rws} {i : Nat} (h : i < R.length) : (rws R).getD (Int.toNat (i : Int)) .any = .sl 8 (evts (R.getD i [])) := by
  have := at_map (f := fun r : List Ev => AV.sl 8 (evts r)) h
  rw [List.getD_eq_getElem?_getD (l := R), List.getElem?_eq_getElem h]
  exact this
def ints (l : List Nat) : List AV := l.map fun a : Nat => i64 a
theorem ints_len (l : List Nat) : (ints l).length = l.length := by simp [ints]
theorem ints_at {l : List Nat} {i : Nat} (h : i < l.length) : (ints l).getD (Int.toNat (i : Int)) .any = i64 (l.getD i 0) := by
  have := at_map (f := fun a : Nat => i64 a) h
  rw [show l.getD i 0 = l[i] by rw [List.getD_eq_getElem?_getD, List.getElem?_eq_getElem h]; rfl]
  exact this
theorem ints_set (l : List Nat) (i v : Nat) : (ints l).set i (i64 v) = ints (l.set i v) := by rw [ints, ints, List.map_set]
def remF (R : Rws) (at_ : List Nat) : Rws := (List.range R.length).map fun i => (R.getD i []).drop (at_.getD i 0)
theorem rem_len (R : Rws) (at_ : List Nat) : (remF R at_).length = R.length := by simp [remF]
theorem rem_getD {R : Rws} {at_ : List Nat} {i : Nat} (h : i < R.length) : (remF R at_).getD i [] = (R.getD i []).drop (at_.getD i 0) := by
  simp [remF, List.getD_eq_getElem?_getD, h]
theorem rem_zero (R : Rws) : remF R (List.replicate R.length 0) = R := by
  apply List.ext_getElem
  · simp [remF]
  · intro i h1 h2
    simp [remF, List.getD_eq_getElem?_getD, h2]
theorem rem_next {R : Rws} {at_ : List Nat} {b : Nat} (hl : at_.length = R.length) (hb : b < R.length) : remF R (at_.set b (at_.getD b 0 + 1)) = dropAt (remF R at_) b := by
  apply List.ext_getElem
  · simp [remF, dropAt]
  · intro i h1 h2
    have hi : i < R.length := by simpa [remF] using h1
    have e1 : (remF R (at_.set b (at_.getD b 0 + 1)))[i] = (R.getD i []).drop ((at_.set b (at_.getD b 0 + 1)).getD i 0) := by
      have := rem_getD (at_ := at_.set b (at_.getD b 0 + 1)) hi
      rwa [List.getD_eq_getElem?_getD, List.getElem?_eq_getElem h1] at this
    have e2 : (dropAt (remF R at_) b)[i] = (dropAt (remF R at_) b).getD i [] := by rw [List.getD_eq_getElem?_getD, List.getElem?_eq_getElem h2]; rfl
    rw [e1, e2, drop_getD (by rw [rem_len]; exact hb)]
    by_cases h : i = b
    · subst h
      rw [if_pos rfl, rem_getD hi, List.tail_drop, List.getD_eq_getElem?_getD, List.getElem?_set_self (by omega)]; rfl
    · rw [if_neg h, rem_getD hi, List.getD_eq_getElem?_getD, List.getElem?_set_ne (Ne.symm h), ← List.getD_eq_getElem?_getD]
def bI : Option Nat → Int
  | none => -1
  | some b => b
theorem rem_cons {R : Rws} {at_ : List Nat} {i : Nat} (hi : i < R.length) {e : Ev} {t : List Ev} (h : (remF R at_).getD i [] = e :: t) :
    at_.getD i 0 < (R.getD i []).length ∧ ∀ (hlt : at_.getD i 0 < (R.getD i []).length), (R.getD i [])[at_.getD i 0] = e := by
  rw [rem_getD hi] at h
  have hlt : at_.getD i 0 < (R.getD i []).length := by
    apply Nat.lt_of_not_le
    intro hc
    rw [List.drop_of_length_le hc] at h; cases h
  refine ⟨hlt, fun _ => ?_⟩
  rw [List.drop_eq_getElem_cons hlt] at h
  cases h; rfl
theorem rem_nil {R : Rws} {at_ : List Nat} {i : Nat} (hi : i < R.length) (h : (remF R at_).getD i [] = []) : ¬ at_.getD i 0 < (R.getD i []).length := by
  rw [rem_getD hi] at h
  have := congrArg List.length h
  rw [List.length_drop, List.length_nil] at this
  omega
theorem ev_at {r : List Ev} {k : Nat} {e : Ev} (h : k < r.length) (he : ∀ (h : k < r.length), r[k] = e) : (evts r).getD (Int.toNat (k : Int)) .any = .agg [str e.u, i64 e.old.st, i64 e.old.pr, i64 e.old.n, i64 e.new.st, i64 e.new.pr, i64 e.new.n, u64 e.seq] := by
  have := at_map (f := Ev.av) h
  rw [he h] at this
  exact this
set_option maxHeartbeats 2000000 in
theorem feed_Merge (R : Rws) (hR : R.length ≤ 1000) (ht : total R ≤ 100000) (hr : ∀ i, (R.getD i []).length ≤ 100000) : PCall P 68 [.sl 1 (rws R)] (fun x => x = .sl 8 (evts (mergeF R))) := by
  refine q0r tyOk Tryz.func68 rfl rfl ?_
  intro K hK
  simp only [Tryz.ntmps68, List.length_cons, List.length_nil, Nat.reduceAdd, Nat.reduceSub, List.replicate, List.cons_append, List.nil_append]
  try simp (maxSteps := 1000000) only [seval, rws_len]
  refine ⟨⟨by omega, by omega, by simp only [Int.toNat_natCast]; omega⟩, ?_⟩
  refine loopK_turn (Turns.adopt (i := 3) 49 8 rfl) ?_
  refine q1h tyOk (α := List Ev × List Nat) 2 [0, 3, 4] (fun s => s.2.length = R.length ∧ s.1 ++ mergeF (remF R s.2) = mergeF R)
    (fun s => ⟨[.sl 1 (rws R), .any, .any, .own 1 8 0 s.1.length, .own 0 1 0 R.length, .any, .any, .any, .any, .any, .any, .any, .any, .any, .any, .any, .any, .any, .any, .any, .any, .any, .any, .any, .any, .any, .any, .any, .any, .any, .any, .any, .any, .any, .any, .any, .any, .any, .any, .any, .any, .any, .any, .any, .any, .any, .any, .any, .any, .any, .any, .any, .any, .any, .any, .any, .any, .any, .any, .any, .any, .any, .any, .any, .any, .any, .any, .any, .any, .any, .any, .any, .any, .any, .any, .any, .any, .any], [.row 3 1 (ints s.2), .row 49 8 (evts s.1)]⟩)
    (fun s => total (remF R s.2)) ([], List.replicate R.length 0) (Nat.zero_le _) ⟨by simp, by rw [rem_zero]; rfl⟩ (by simp only [ints, List.map_replicate]; rfl) ?_
  rintro ⟨out, at_⟩ ⟨hl, hm⟩
  simp only at hl hm ⊢
  have hlen := congrArg List.length hm
  rw [List.length_append, merge_len _ _ rfl, merge_len _ _ rfl] at hlen
  have hRm : (remF R at_).length = R.length := rem_len R at_
  obtain ⟨Rm, hRe⟩ : ∃ Rm, remF R at_ = Rm := ⟨_, rfl⟩
  have hal : ∀ j, j < R.length → at_.getD j 0 < R.length + 100001 + at_.getD j 0 := fun j hj => by omega
  try simp (maxSteps := 1000000) only [seval, rws_len]
  refine q1h tyOk (α := Nat) 2 [0, 3, 4, 5, 11, 12] (fun i => i ≤ R.length)
    (fun i => ⟨[.sl 1 (rws R), .any, .any, .own 1 8 0 out.length, .own 0 1 0 R.length, i64 (bI (up Rm i)), .any, .any, .any, .any, .any, i64 R.length, i64 i, .any, .any, .any, .any, .any, .any, .any, .any, .any, .any, .any, .any, .any, .any, .any, .any, .any, .any, .any, .any, .any, .any, .any, .any, .any, .any, .any, .any, .any, .any, .any, .any, .any, .any, .any, .any, .any, .any, .any, .any, .any, .any, .any, .any, .any, .any, .any, .any, .any, .any, .any, .any, .any, .any, .any, .any, .any, .any, .any, .any, .any, .any, .any, .any, .any], [.row 3 1 (ints at_), .row 49 8 (evts out)]⟩)
    (fun i => R.length - i) 0 (Nat.zero_le _) (Nat.zero_le _) rfl ?_
  intro i hi
  try simp (maxSteps := 1000000) only [seval, rws_len]
  (first | refine q0g ?_ ?_ | refine q0k ?_ ?_ | refine q0l ?_ ?_ | refine q0m ?_ ?_ | refine q0h ?_ ?_) <;> intro h
  · have hlt : i < R.length := by have := of_decide_eq_true h; omega
    have eg := rws_at hlt
    have ea := ints_at (l := at_) (i := i) (by omega)
    have ew : IntKind.i64.wrap ((i : Int) + 1) = ((i + 1 : Nat) : Int) := by rw [wrap_i64 (by omega) (by omega)]; rfl
    have c1 : (0 : Int) ≤ (i : Int) ∧ Int.toNat (i : Int) < R.length := by omega
    have c2 : Int.toNat (i : Int) < at_.length := by omega
    have hup : up Rm (i + 1) = upStep Rm (up Rm i) i := rfl
    have hub := up_best Rm i
    try simp (maxSteps := 1000000) only [seval]
    refine q0w tyOk (by rfl) (by simp only [List.length_cons, List.length_nil, Nat.reduceAdd, Nat.zero_le]) (by kernel_rfl) rfl ?_
    try simp (maxSteps := 1000000) only [seval, eg, ea, c1, c2, rws_len, ints_len, q38]
    cases hRi : Rm.getD i [] with
    | nil =>
      have hz : decide (((at_.getD i 0 : Nat) : Int) < (((R.getD i []).length : Nat) : Int)) = false := decide_eq_false (by
        have := rem_nil hlt (hRe ▸ hRi); omega)
      rw [upStep_nil hRi] at hup
      try simp (maxSteps := 1000000) only [seval, hz]
      refine ⟨by kernel_rfl, ?_⟩
      try simp (maxSteps := 1000000) only [seval, ew]
      simp only [q0p, St.trunc, St.keep, q00, q01, AB.trunc, keepV, List.elem_cons, List.elem_nil, List.take_succ_cons, List.take_zero, List.map_cons, List.map_nil, Nat.reduceAdd, Nat.reduceBEq, Nat.reduceLeDiff, Nat.zero_add, Bool.false_eq_true, ↓reduceIte]
      exact ⟨i + 1, hlt, by omega, by rw [hup]⟩
    | cons e t =>
      obtain ⟨p1, p2⟩ := rem_cons hlt (hRe ▸ hRi)
      have hz : decide (((at_.getD i 0 : Nat) : Int) < (((R.getD i []).length : Nat) : Int)) = true := decide_eq_true (by omega)
      have eev := ev_at p1 p2
      have c3 : (0 : Int) ≤ ((at_.getD i 0 : Nat) : Int) ∧ Int.toNat ((at_.getD i 0 : Nat) : Int) < (R.getD i []).length := by omega
      cases hu : up Rm i with
      | none =>
        rw [hu, upStep_none hRi] at hup
        have hz2 : decide (bI none < 0) = true := by decide
        try simp (maxSteps := 1000000) only [seval, hz, hu, hz2]
        refine ⟨by kernel_rfl, ?_⟩
        try simp (maxSteps := 1000000) only [seval, ew]
        simp only [q0p, St.trunc, St.keep, q00, q01, AB.trunc, keepV, List.elem_cons, List.elem_nil, List.take_succ_cons, List.take_zero, List.map_cons, List.map_nil, Nat.reduceAdd, Nat.reduceBEq, Nat.reduceLeDiff, Nat.zero_add, Bool.false_eq_true, ↓reduceIte]
        exact ⟨i + 1, hlt, by omega, by rw [hup]; rfl⟩
      | some b =>
        rw [hu] at hub
        obtain ⟨u1, f, u, u2, u3⟩ := hub
        rw [hu, upStep_some hRi u2] at hup
        have hbl : b < R.length := by have : b < i := u1; omega
        have hz2 : decide ((b : Int) < 0) = false := decide_eq_false (by omega)
        have hbi : bI (some b) = (b : Int) := rfl
        obtain ⟨q1, q2⟩ := rem_cons hbl (hRe ▸ u2)
        have eev2 := ev_at q1 q2
        have eg2 := rws_at hbl
        have ea2 := ints_at (l := at_) (i := b) (by omega)
        have d1 : (0 : Int) ≤ (b : Int) ∧ Int.toNat (b : Int) < R.length := by omega
        have d2 : Int.toNat (b : Int) < at_.length := by omega
        have d3 : (0 : Int) ≤ ((at_.getD b 0 : Nat) : Int) ∧ Int.toNat ((at_.getD b 0 : Nat) : Int) < (R.getD b []).length := by omega
        try simp (maxSteps := 1000000) only [seval, hz, hu, hz2, hbi, eg, ea, c1, c2, c3, eev, eg2, ea2, d1, d2, d3, eev2, rws_len, ints_len, q38]
        refine ⟨by kernel_rfl, ?_⟩
        (first | refine q0g ?_ ?_ | refine q0k ?_ ?_ | refine q0l ?_ ?_ | refine q0m ?_ ?_ | refine q0h ?_ ?_) <;> intro h3
        · have h3' : e.seq < f.seq := of_decide_eq_true h3
          rw [if_pos h3'] at hup
          try simp (maxSteps := 1000000) only [seval, ew]
          simp only [q0p, St.trunc, St.keep, q00, q01, AB.trunc, keepV, List.elem_cons, List.elem_nil, List.take_succ_cons, List.take_zero, List.map_cons, List.map_nil, Nat.reduceAdd, Nat.reduceBEq, Nat.reduceLeDiff, Nat.zero_add, Bool.false_eq_true, ↓reduceIte]
          exact ⟨i + 1, hlt, by omega, by rw [hup]; rfl⟩
        · have h3' : ¬ e.seq < f.seq := of_decide_eq_false h3
          rw [if_neg h3'] at hup
          try simp (maxSteps := 1000000) only [seval, ew]
          simp only [q0p, St.trunc, St.keep, q00, q01, AB.trunc, keepV, List.elem_cons, List.elem_nil, List.take_succ_cons, List.take_zero, List.map_cons, List.map_nil, Nat.reduceAdd, Nat.reduceBEq, Nat.reduceLeDiff, Nat.zero_add, Bool.false_eq_true, ↓reduceIte]
          exact ⟨i + 1, hlt, by omega, by rw [hup]; rfl⟩
  · obtain rfl : i = R.length := by have := of_decide_eq_false h; omega
    have hbo : up Rm R.length = bestOf Rm := by rw [bestOf, ← hRe, hRm]
    rw [hbo]
    cases hb : bestOf Rm with
    | none =>
      have hmn := merge_none hb
      rw [hRe, hmn, List.append_nil] at hm
      have hz2 : decide (bI none < 0) = true := by decide
      try simp (maxSteps := 1000000) only [seval, hz2]
      apply hK
      simp only [Tryz.results68, retK, ares, Bool.and_true, Bool.true_and, AV.ofResults, St.trunc, q00, q01, List.getD_cons_zero, List.getD_cons_succ, List.take_zero, List.drop_zero, List.map_nil, List.getElem?_cons_zero, List.getElem?_cons_succ, Nat.reduceLeDiff, true_and, and_true, ↓reduceIte, List.cons.injEq, exists_eq_left']
      rw [q2h (q38 out), hm]
    | some b =>
      obtain ⟨b1, e, t, b2, b3⟩ := best_some' hb
      have hbl : b < R.length := by rw [← hRe, hRm] at b1; exact b1
      have hz2 : decide ((b : Int) < 0) = false := decide_eq_false (by omega)
      have hbi : bI (some b) = (b : Int) := rfl
      obtain ⟨q1, q2⟩ := rem_cons hbl (hRe ▸ b2)
      have eev := ev_at q1 q2
      have eg := rws_at hbl
      have ea := ints_at (l := at_) (i := b) (by omega)
      have d1 : (0 : Int) ≤ (b : Int) ∧ Int.toNat (b : Int) < R.length := by omega
      have d2 : Int.toNat (b : Int) < at_.length := by omega
      have d3 : (0 : Int) ≤ ((at_.getD b 0 : Nat) : Int) ∧ Int.toNat ((at_.getD b 0 : Nat) : Int) < (R.getD b []).length := by omega
      have hrb := hr b
      have ew : IntKind.i64.wrap (((at_.getD b 0 : Nat) : Int) + 1) = ((at_.getD b 0 + 1 : Nat) : Int) := by rw [wrap_i64 (by omega) (by omega)]; rfl
      have hms := merge_some hb b2
      have htd := total_drop b2
      have hnx := rem_next hl hbl
      rw [hRe] at hnx
      try simp (maxSteps := 1000000) only [seval, hz2, hbi]
      refine q0w tyOk (by rfl) (by simp only [List.length_cons, List.length_nil, Nat.reduceAdd, Nat.zero_le]) (by kernel_rfl) rfl ?_
      try simp (maxSteps := 1000000) only [seval, eg, ea, d1, d2, d3, eev, rws_len, ints_len, q38]
      refine ⟨⟨by simp only [maxLen]; omega, by omega⟩, ?_⟩
      refine ⟨by kernel_rfl, ?_⟩
      try simp (maxSteps := 1000000) only [seval, eg, ea, d1, d2, d3, rws_len, ints_len, ew]
      simp only [q0p, St.trunc, St.keep, q00, q01, AB.trunc, keepV, List.elem_cons, List.elem_nil, List.take_succ_cons, List.take_zero, List.map_cons, List.map_nil, Nat.reduceAdd, Nat.reduceBEq, Nat.reduceLeDiff, Nat.zero_add, Bool.false_eq_true, ↓reduceIte]
      refine ⟨(out ++ [e], at_.set b (at_.getD b 0 + 1)), ⟨by rw [List.length_set]; exact hl, ?_⟩, ?_, ?_⟩
      · simp only
        rw [hnx, List.append_assoc, List.singleton_append, ← hms, ← hRe]
        exact hm
      · simp only
        rw [hnx, hRe]; omega
      · simp only [evts_snoc, List.length_append, List.length_singleton, Int.toNat_natCast]
        rw [← ints_set]
end Go.Proofs.YtdkcpcflfnakdaaGreat
namespace Go.Proofs.YtdkcpcflfnakdaaGreat
open Go Go.Proofs.YtdkcpcflfnakdaaGreat.Sym
attribute [-sevalprocAttr] Int.reduceToNat Int.reduceNatCast Int.reduceNatCast' Nat.reduceSubDiff
set_option maxRecDepth 100000
set_option maxHeartbeats 1000000
set_option linter.unusedSimpArgs false
set_option linter.unusedVariables false

structure Cf where
  s : Int
  k : Int
  q : Int
  w : Int
  r : Int
  e : Int
  st : Int
structure Tm where
  now : Int
  seq : Int
  cl : Bool
  deriving DecidableEq
structure Md where
  c : Cf
  t : Tm
  b : Nat → Bk
  f : Nat → Fd
def fb (j : Nat) : Nat := 3 + 17 * j
def mlen (n : Nat) : Nat := 3 + 17 * n
def ptrs (n pad : Nat) : List AV := (List.range n).map (fun j => .ptr (fb j) 0) ++ List.replicate pad .any
def bkRow (n : Nat) (b : Nat → Bk) : List AV := (List.range n).map fun j => q10 (b j)
def fblk (o : Nat) (F : Fd) : List AB := renM (List.range' o 17) (feedM F)
def feedsM (f : Nat → Fd) : Nat → Nat → List AB
  | 0, _ => []
  | n + 1, j => fblk (fb j) (f j) ++ feedsM f n (j + 1)
def modM (n pad : Nat) (M : Md) : List AB :=
  .box [i64 M.c.s, i64 M.c.k, i64 M.c.q, i64 M.c.w, i64 M.c.r, u64 M.c.e, u64 M.c.st, u64 M.t.now, u64 M.t.seq, bool M.t.cl, .own 1 2 0 n, .own 2 1 0 n] ::
    .row 87 2 (bkRow n M.b) :: .box (ptrs n pad) :: feedsM M.f n 0
def Md.setF (M : Md) (s : Nat) (F : Fd) : Md := { M with f := fun j => if j = s then F else M.f j }
def Md.setB (M : Md) (s : Nat) (b : Bk) : Md := { M with b := fun j => if j = s then b else M.b j }

theorem fblk_len (o : Nat) (F : Fd) : (fblk o F).length = 17 := by rw [fblk, q3d, q0u]
theorem feedsM_len (f : Nat → Fd) : ∀ n j, (feedsM f n j).length = 17 * n
  | 0, _ => rfl
  | n + 1, j => by rw [feedsM, List.length_append, fblk_len, feedsM_len f n (j + 1)]; omega
theorem feedsM_get (f : Nat → Fd) : ∀ n j s i, s < n → i < 17 → (feedsM f n j)[17 * s + i]? = ((feedM (f (j + s)))[i]?).map (AB.ren (List.range' (fb (j + s)) 17))
  | 0, _, _, _, h, _ => by omega
  | n + 1, j, 0, i, _, hi => by
    rw [feedsM, List.getElem?_append_left (by rw [fblk_len]; omega), fblk, q3t]
    simp only [Nat.mul_zero, Nat.zero_add, Nat.add_zero]
  | n + 1, j, s + 1, i, h, hi => by
    rw [feedsM, List.getElem?_append_right (by rw [fblk_len]; omega), fblk_len, show 17 * (s + 1) + i - 17 = 17 * s + i by omega, feedsM_get f n (j + 1) s i (by omega) hi, show j + 1 + s = j + (s + 1) by omega]
theorem feedsM_congr {f g : Nat → Fd} : ∀ n j, (∀ k, j ≤ k → k < j + n → f k = g k) → feedsM f n j = feedsM g n j
  | 0, _, _ => rfl
  | n + 1, j, h => by rw [feedsM, feedsM, h j (Nat.le_refl _) (by omega), feedsM_congr n (j + 1) (fun k h1 h2 => h k (by omega) (by omega))]

section
variable (n pad : Nat) (M : Md) (r : List AB)
theorem q08 : (modM n pad M).length = mlen n := by simp only [modM, List.length_cons, feedsM_len, mlen]; omega
theorem q09 : (modM n pad M ++ r).length = mlen n + r.length := by rw [List.length_append, q08]
theorem q0j (r' : List AB) : (modM n pad M ++ r) ++ r' = modM n pad M ++ (r ++ r') := List.append_assoc _ _ _
theorem mm_0 : (modM n pad M ++ r)[0]? = some (.box [i64 M.c.s, i64 M.c.k, i64 M.c.q, i64 M.c.w, i64 M.c.r, u64 M.c.e, u64 M.c.st, u64 M.t.now, u64 M.t.seq, bool M.t.cl, .own 1 2 0 n, .own 2 1 0 n]) := rfl
theorem mm_1 : (modM n pad M ++ r)[1]? = some (.row 87 2 (bkRow n M.b)) := rfl
theorem mm_2 : (modM n pad M ++ r)[2]? = some (.box (ptrs n pad)) := rfl
theorem mm_0n : (modM n pad M)[0]? = some (.box [i64 M.c.s, i64 M.c.k, i64 M.c.q, i64 M.c.w, i64 M.c.r, u64 M.c.e, u64 M.c.st, u64 M.t.now, u64 M.t.seq, bool M.t.cl, .own 1 2 0 n, .own 2 1 0 n]) := rfl
theorem mm_1n : (modM n pad M)[1]? = some (.row 87 2 (bkRow n M.b)) := rfl
theorem mm_2n : (modM n pad M)[2]? = some (.box (ptrs n pad)) := rfl
theorem mm_at (k : Nat) : (modM n pad M ++ r)[mlen n + k]? = r[k]? := by
  rw [List.getElem?_append_right (by rw [q08]; omega), q08, show mlen n + k - mlen n = k by omega]
theorem q0d : (modM n pad M ++ r)[mlen n]? = r[0]? := mm_at n pad M r 0
theorem q0b : (modM n pad M ++ r)[mlen n + 1]? = r[1]? := mm_at n pad M r 1
theorem q0e : (modM n pad M ++ r)[mlen n + 2]? = r[2]? := mm_at n pad M r 2
theorem q0f : (modM n pad M ++ r)[mlen n + 3]? = r[3]? := mm_at n pad M r 3
theorem q0i : (modM n pad M ++ r)[mlen n + 4]? = r[4]? := mm_at n pad M r 4
theorem mm_s (k : Nat) (x : AB) : (modM n pad M ++ r).set (mlen n + k) x = modM n pad M ++ r.set k x := by
  rw [List.set_append_right _ _ (by rw [q08]; omega), q08, show mlen n + k - mlen n = k by omega]
theorem mm_s0 {x : AB} : (modM n pad M ++ r).set (mlen n) x = modM n pad M ++ r.set 0 x := mm_s n pad M r 0 x
theorem mm_s1 {x : AB} : (modM n pad M ++ r).set (mlen n + 1) x = modM n pad M ++ r.set 1 x := mm_s n pad M r 1 x
theorem mm_s2 {x : AB} : (modM n pad M ++ r).set (mlen n + 2) x = modM n pad M ++ r.set 2 x := mm_s n pad M r 2 x
theorem mm_s3 {x : AB} : (modM n pad M ++ r).set (mlen n + 3) x = modM n pad M ++ r.set 3 x := mm_s n pad M r 3 x
theorem q0a {a b : Int} {c : Bool} : (modM n pad M ++ r).set 0 (.box [i64 M.c.s, i64 M.c.k, i64 M.c.q, i64 M.c.w, i64 M.c.r, u64 M.c.e, u64 M.c.st, u64 a, u64 b, bool c, .own 1 2 0 n, .own 2 1 0 n]) = modM n pad { M with t := ⟨a, b, c⟩ } ++ r := rfl
theorem q06 {a b : Int} {c : Bool} : (modM n pad M).set 0 (.box [i64 M.c.s, i64 M.c.k, i64 M.c.q, i64 M.c.w, i64 M.c.r, u64 M.c.e, u64 M.c.st, u64 a, u64 b, bool c, .own 1 2 0 n, .own 2 1 0 n]) = modM n pad { M with t := ⟨a, b, c⟩ } := rfl
end

theorem q4q (n : Nat) (b : Nat → Bk) : (bkRow n b).length = n := by simp [bkRow]
theorem bk_at {n s : Nat} (b : Nat → Bk) (h : s < n) : (bkRow n b).getD (Int.toNat (s : Int)) .any = .agg [.sl 1 ((b s).map fun p => str p.1), .sl 4 ((b s).map fun p => En.av p.2)] := by
  simp [bkRow, List.getD_eq_getElem?_getD, h, q10]
theorem bk_set {n s : Nat} (b : Nat → Bk) (v : Bk) (h : s < n) : (bkRow n b).set (Int.toNat (s : Int)) (.agg [.sl 1 (v.map fun p => str p.1), .sl 4 (v.map fun p => En.av p.2)]) = bkRow n (fun j => if j = s then v else b j) := by
  apply List.ext_getElem?
  intro i
  simp only [bkRow, List.getElem?_set, List.getElem?_map, Int.toNat_natCast, List.length_map, List.length_range]
  by_cases e : s = i
  · subst e
    simp [h, q10]
  · rw [if_neg e]
    by_cases hi : i < n
    · simp [hi, Ne.symm e]
    · simp [hi]
theorem mm_setB {n pad s : Nat} (M : Md) (r : List AB) (v : Bk) (h : s < n) : (modM n pad M ++ r).set 1 (.row 87 2 ((bkRow n M.b).set (Int.toNat (s : Int)) (.agg [.sl 1 (v.map fun p => str p.1), .sl 4 (v.map fun p => En.av p.2)]))) = modM n pad (M.setB s v) ++ r := by
  rw [bk_set M.b v h]; rfl
theorem ptr_drop {n pad s : Nat} (h : s < n) : (List.drop (s * 1) (ptrs n pad)).headD .any = .ptr (fb s) 0 ∧ 0 < (List.drop (s * 1) (ptrs n pad)).length := by
  have hl : s * 1 < (ptrs n pad).length := by simp [ptrs]; omega
  refine ⟨?_, by rw [List.length_drop]; omega⟩
  rw [List.drop_eq_getElem_cons hl, List.headD_cons]
  simp only [ptrs, Nat.mul_one]
  rw [List.getElem_append_left (by simpa using h)]
  simp

def kpM (n b : Nat) : Bool := decide (b < 3) || decide (mlen n ≤ b) || decide ((b - 3) % 17 < 9)
def AB.calm (n : Nat) : AB → Bool
  | .box cs => (q0n cs).all (fun b => decide (b < 3) || decide (mlen n ≤ b))
  | _ => true
theorem q3l {o k b : Nat} : b ∈ List.range' o k ↔ o ≤ b ∧ b < o + k := by rw [List.mem_range'_1]
theorem q4n {o k i : Nat} (h : i < k) : (List.range' o k)[i]? = some (o + i) := by rw [List.getElem?_range' h]; simp

theorem q4s {kp : Nat → Bool} {bs : List Nat} : ∀ {m : List AB} {b0 : Nat}, (∀ i cs, m[i]? = some (.box cs) → b0 + i ∈ bs ∨ (q0n cs).all kp = true) → outOk kp bs b0 m = true
  | [], _, _ => rfl
  | .box cs :: m, b0, h => by
    rw [outOk, Bool.and_eq_true, Bool.or_eq_true]
    refine ⟨(h 0 cs rfl).imp (fun h => by simpa using h) _root_.id, q4s fun i cs' hi => ?_⟩
    have := h (i + 1) cs' hi
    rwa [show b0 + (i + 1) = b0 + 1 + i by omega] at this
  | .row _ _ _ :: m, b0, h => q4s (m := m) (b0 := b0 + 1) fun i cs' hi => by have := h (i + 1) cs' hi; rwa [show b0 + (i + 1) = b0 + 1 + i by omega] at this
  | .rowc _ _ _ _ :: m, b0, h => q4s (m := m) (b0 := b0 + 1) fun i cs' hi => by have := h (i + 1) cs' hi; rwa [show b0 + (i + 1) = b0 + 1 + i by omega] at this
  | .gone :: m, b0, h => q4s (m := m) (b0 := b0 + 1) fun i cs' hi => by have := h (i + 1) cs' hi; rwa [show b0 + (i + 1) = b0 + 1 + i by omega] at this
  | .tr _ _ :: m, b0, h => q4s (m := m) (b0 := b0 + 1) fun i cs' hi => by have := h (i + 1) cs' hi; rwa [show b0 + (i + 1) = b0 + 1 + i by omega] at this

mutual
theorem bks_ren {o k : Nat} : ∀ (x : AV), (bks x).all (fun b => decide (b < k)) = true → ∀ b ∈ bks (ren (List.range' o k) x), ∃ c < k, b = o + c ∧ c ∈ bks x
  | .v _, _, b, hb => by simp [ren, bks] at hb
  | .agg xs, h, b, hb => q48 xs h b hb
  | .tup xs, h, b, hb => q48 xs h b hb
  | .sl _ _, _, b, hb => by simp [ren, bks] at hb
  | .rp _, _, b, hb => by simp [ren, bks] at hb
  | .own c _ _ _, h, b, hb => by
    simp only [bks, List.all_cons, List.all_nil, Bool.and_true, decide_eq_true_eq] at h
    simp only [ren, bks, List.mem_singleton, q3p h] at hb
    exact ⟨c, h, hb, by simp [bks]⟩
  | .ptr c _, h, b, hb => by
    simp only [bks, List.all_cons, List.all_nil, Bool.and_true, decide_eq_true_eq] at h
    simp only [ren, bks, List.mem_singleton, q3p h] at hb
    exact ⟨c, h, hb, by simp [bks]⟩
  | .ep c _ _ _, h, b, hb => by
    simp only [bks, List.all_cons, List.all_nil, Bool.and_true, decide_eq_true_eq] at h
    simp only [ren, bks, List.mem_singleton, q3p h] at hb
    exact ⟨c, h, hb, by simp [bks]⟩
  | .fn f caps, h, b, hb => q48 caps h b hb
  | .any, _, b, hb => by simp [ren, bks] at hb
theorem q48 {o k : Nat} : ∀ (xs : List AV), (q0n xs).all (fun b => decide (b < k)) = true → ∀ b ∈ q0n (q1i (List.range' o k) xs), ∃ c < k, b = o + c ∧ c ∈ q0n xs
  | [], _, b, hb => by simp [q1i, q0n] at hb
  | x :: xs, h, b, hb => by
    simp only [q0n, List.all_append, Bool.and_eq_true] at h
    simp only [q1i, q0n, List.mem_append] at hb ⊢
    rcases hb with hb | hb
    · obtain ⟨c, h1, h2, h3⟩ := bks_ren x h.1 b hb; exact ⟨c, h1, h2, .inl h3⟩
    · obtain ⟨c, h1, h2, h3⟩ := q48 xs h.2 b hb; exact ⟨c, h1, h2, .inr h3⟩
end

theorem ptrs_bks (n pad : Nat) : ∀ b ∈ q0n (ptrs n pad), ∃ j < n, b = fb j := by
  have h1 : ∀ (l : List Nat) b, b ∈ q0n (l.map (fun j => AV.ptr (fb j) 0)) → ∃ j ∈ l, b = fb j := by
    intro l b hb
    induction l with
    | nil => simp [q0n] at hb
    | cons j l ih =>
      simp only [List.map_cons, q0n, bks, List.mem_append, List.mem_singleton] at hb
      rcases hb with rfl | hb
      · exact ⟨j, by simp, rfl⟩
      · obtain ⟨k, hk, e⟩ := ih hb; exact ⟨k, by simp [hk], e⟩
  have h2 : ∀ k, q0n (List.replicate k AV.any) = [] := by
    intro k
    induction k with
    | zero => rfl
    | succ k ih => simp [List.replicate_succ, q0n, bks, ih]
  intro b hb
  rw [ptrs, q5e, h2, List.append_nil] at hb
  obtain ⟨j, hj, e⟩ := h1 _ b hb
  exact ⟨j, by simpa using hj, e⟩

theorem feed_inR (F : Fd) : (feedM F).all (AB.inR 17) = true := by rfl
theorem feed_box {F : Fd} {i : Nat} {cs : List AV} (h : (feedM F)[i]? = some (.box cs)) : (q0n cs).all (fun b => decide (b < 17)) = true := by
  have := List.all_eq_true.1 (feed_inR F) _ (List.mem_of_getElem? h)
  exact this
theorem mm_feed {n pad s i : Nat} (M : Md) (r : List AB) (h : s < n) (hi : i < 17) : (modM n pad M ++ r)[fb s + i]? = ((feedM (M.f s))[i]?).map (AB.ren (List.range' (fb s) 17)) := by
  have h2 := q08 n pad M
  rw [List.getElem?_append_left (by rw [h2]; simp only [mlen, fb]; omega), modM, show fb s + i = 17 * s + i + 1 + 1 + 1 by simp only [fb]; omega]
  simp only [List.getElem?_cons_succ]
  rw [feedsM_get M.f n 0 s i h hi, Nat.zero_add]
theorem mm_split {n pad i : Nat} {M : Md} {r : List AB} : i < 3 ∨ (∃ s j, s < n ∧ j < 17 ∧ i = fb s + j) ∨ mlen n ≤ i := by
  by_cases h1 : i < 3
  · exact .inl h1
  · by_cases h2 : mlen n ≤ i
    · exact .inr (.inr h2)
    · refine .inr (.inl ⟨(i - 3) / 17, (i - 3) % 17, ?_, Nat.mod_lt _ (by decide), ?_⟩)
      · simp only [mlen] at h2; omega
      · simp only [fb]; omega
theorem mm_put {n pad s : Nat} (M : Md) (r : List AB) (F' : Fd) (h : s < n) : putL (modM n pad M ++ r) (List.range' (fb s) 17) (renM (List.range' (fb s) 17) (feedM F')) = modM n pad (M.setF s F') ++ r := by
  apply List.ext_getElem?
  intro i
  have hmem : ∀ j, j < 17 → fb s + j < (modM n pad M ++ r).length := fun j hj => by rw [q09]; simp only [fb, mlen]; omega
  by_cases hi : i ∈ List.range' (fb s) 17
  · obtain ⟨a, b⟩ := q3l.1 hi
    have hj : i - fb s < 17 := by omega
    have hg : (feedM F')[i - fb s]? = some ((feedM F')[i - fb s]'(by rw [q0u]; exact hj)) := List.getElem?_eq_getElem _
    rw [putL_in _ _ _ (i - fb s) i (AB.ren (List.range' (fb s) 17) ((feedM F')[i - fb s]'(by rw [q0u]; exact hj))) List.nodup_range' (by rw [q4n hj]; congr 1; omega) (by rw [q3t, hg]; rfl) (by have := hmem _ hj; rwa [show fb s + (i - fb s) = i by omega] at this)]
    have := mm_feed (M.setF s F') r h hj (pad := pad)
    rw [show fb s + (i - fb s) = i by omega] at this
    rw [this]
    simp only [Md.setF, if_true]
    rw [hg]; rfl
  · rw [putL_out _ _ _ _ hi]
    rcases mm_split (n := n) (pad := pad) (i := i) (M := M) (r := r) with h1 | ⟨s', j, h1, h2, rfl⟩ | h1
    · have c : i = 0 ∨ i = 1 ∨ i = 2 := by omega
      rcases c with rfl | rfl | rfl <;> rfl
    · rw [mm_feed M r h1 h2, mm_feed (M.setF s F') r h1 h2]
      have hne : s' ≠ s := by
        rintro rfl
        exact hi (q3l.2 ⟨by omega, by omega⟩)
      simp only [Md.setF, if_neg hne]
    · obtain ⟨k, rfl⟩ := Nat.exists_eq_add_of_le h1
      rw [mm_at, mm_at]
theorem feed_in {g : FuncId} {args0 args : List AV} {K0 K : AV → List AB → Prop} {n pad s : Nat} (M : Md) (r : List AB) (hs : s < n) (h : q17 P (fun b => decide (b < 9)) g (feedM (M.f s)) args0 K0) (ha : args = q1i (List.range' (fb s) 17) args0) (hb : (q0n args0).all (fun b => decide (b < 17)) = true) (hr : r.all (AB.calm n) = true)
    (hK : ∀ x m', K0 x m' → ∃ F', m' = feedM F' ∧ K (ren (List.range' (fb s) 17) x) (modM n pad (M.setF s F') ++ r)) : q17 P (kpM n) g (modM n pad M ++ r) args K := by
  have hin : ∀ b, b < 3 ∨ mlen n ≤ b → b ∉ List.range' (fb s) 17 := fun b hb hm => by
    obtain ⟨h1, h2⟩ := q3l.1 hm
    simp only [fb, mlen] at *
    omega
  have hkp : ∀ b, kpM n b = true → kpOf (fun b => decide (b < 9)) (List.range' (fb s) 17) 0 b = true := by
    intro b hb
    by_cases hm : b ∈ List.range' (fb s) 17
    · obtain ⟨h1, h2⟩ := q3l.1 hm
      rw [kpOf_in (j := b - fb s) List.nodup_range' (by rw [q4n (by omega)]; congr 1; omega)]
      simp only [kpM, Bool.or_eq_true, decide_eq_true_eq] at hb
      simp only [decide_eq_true_eq]
      simp only [fb, mlen] at *
      omega
    · exact kpOf_out hm
  refine q17.keeps (kp := kpOf (fun b => decide (b < 9)) (List.range' (fb s) 17) 0) ?_ (fun b _ hb => hkp b hb)
  refine h.frame (List.range' (fb s) 17) List.nodup_range' ?_ ha (by rw [List.length_range']; exact hb) (by rw [List.length_range']; exact feed_inR _) ?_ ?_
  · apply List.ext_getElem?
    intro i
    by_cases hi : i < 17
    · rw [List.getElem?_map, q4n hi, List.getElem?_map, q3t]
      simp only [Option.map_some]
      rw [mm_feed M r hs hi]
      have hg : (feedM (M.f s))[i]? = some ((feedM (M.f s))[i]'(by rw [q0u]; exact hi)) := List.getElem?_eq_getElem _
      rw [hg]; rfl
    · rw [List.getElem?_eq_none (by simp; omega), List.getElem?_eq_none (by simp [q3d, q0u]; omega)]
  · refine q4s fun i cs hi => ?_
    rw [Nat.zero_add]
    by_cases hm : i ∈ List.range' (fb s) 17
    · exact .inl hm
    refine .inr (List.all_eq_true.2 fun b hb => ?_)
    rcases mm_split (n := n) (pad := pad) (i := i) (M := M) (r := r) with h1 | ⟨s', j, h1, h2, rfl⟩ | h1
    · have c : i = 0 ∨ i = 1 ∨ i = 2 := by omega
      rcases c with rfl | rfl | rfl
      · rw [mm_0] at hi; cases hi
        simp only [q0n, bks, List.nil_append, List.append_nil, List.not_mem_nil, or_false, List.cons_append, List.mem_cons] at hb
        exact kpOf_out (hin b (.inl (by omega)))
      · rw [mm_1] at hi; cases hi
      · rw [mm_2] at hi; cases hi
        obtain ⟨j, hj, rfl⟩ := ptrs_bks n pad b hb
        refine hkp _ ?_
        have hf : (fb j - 3) % 17 < 9 := by simp only [fb]; omega
        simp only [kpM, hf, decide_true, Bool.or_true]
    · rw [mm_feed M r h1 h2] at hi
      cases hg : (feedM (M.f s'))[j]? with
      | none => rw [hg] at hi; cases hi
      | some blk =>
        rw [hg] at hi
        simp only [Option.map_some, Option.some.injEq] at hi
        cases blk with
        | box cs0 =>
          simp only [AB.ren, AB.box.injEq] at hi
          subst hi
          obtain ⟨c, hc, rfl, _⟩ := q48 cs0 (feed_box hg) b hb
          have hne : s' ≠ s := by
            rintro rfl
            exact hm (q3l.2 ⟨by omega, by omega⟩)
          exact kpOf_out fun hmm => by
            obtain ⟨q1, q2⟩ := q3l.1 hmm
            simp only [fb] at q1 q2
            omega
        | row _ _ _ => simp [AB.ren] at hi
        | rowc _ _ _ _ => simp [AB.ren] at hi
        | gone => simp [AB.ren] at hi
        | tr _ _ => simp [AB.ren] at hi
    · obtain ⟨k, rfl⟩ := Nat.exists_eq_add_of_le h1
      rw [mm_at] at hi
      have := List.all_eq_true.1 hr _ (List.mem_of_getElem? hi)
      have := List.all_eq_true.1 this b hb
      simp only [Bool.or_eq_true, decide_eq_true_eq] at this
      exact kpOf_out (hin b this)
  · intro x m' hx
    obtain ⟨F', rfl, hv⟩ := hK x m' hx
    exact ⟨rfl, by rw [mm_put M r F' hs]; exact hv⟩
theorem feed_inA {g : FuncId} {args0 args : List AV} {K0 K : AV → List AB → Prop} {n pad s : Nat} (M : Md) (r : List AB) (hs : s < n) (h : ACall P g (feedM (M.f s)) args0 K0) (ha : args = q1i (List.range' (fb s) 17) args0) (hb : (q0n args0).all (fun b => decide (b < 17)) = true)
    (hK : ∀ x m', K0 x m' → ∃ F', m' = feedM F' ∧ K (ren (List.range' (fb s) 17) x) (modM n pad (M.setF s F') ++ r)) : ACall P g (modM n pad M ++ r) args K := by
  refine h.frame (List.range' (fb s) 17) List.nodup_range' ?_ ha (by rw [List.length_range']; exact hb) (by rw [List.length_range']; exact feed_inR _) ?_
  · apply List.ext_getElem?
    intro i
    by_cases hi : i < 17
    · rw [List.getElem?_map, q4n hi, List.getElem?_map, q3t]
      simp only [Option.map_some]
      rw [mm_feed M r hs hi]
      have hg : (feedM (M.f s))[i]? = some ((feedM (M.f s))[i]'(by rw [q0u]; exact hi)) := List.getElem?_eq_getElem _
      rw [hg]; rfl
    · rw [List.getElem?_eq_none (by simp; omega), List.getElem?_eq_none (by simp [q3d, q0u]; omega)]
  · intro x m' hx
    obtain ⟨F', rfl, hv⟩ := hK x m' hx
    exact ⟨rfl, by rw [mm_put M r F' hs]; exact hv⟩
theorem setF_same (M : Md) (s : Nat) : M.setF s (M.f s) = M := by
  cases M with
  | mk c t b f =>
    simp only [Md.setF, Md.mk.injEq, true_and]
    funext j
    split
    · rename_i h; rw [h]
    · rfl
end Go.Proofs.YtdkcpcflfnakdaaGreat
namespace Go.Proofs.YtdkcpcflfnakdaaGreat
open Go Go.Proofs.YtdkcpcflfnakdaaGreat.Sym
attribute [-sevalprocAttr] Int.reduceToNat Int.reduceNatCast Int.reduceNatCast' Nat.reduceSubDiff
set_option maxRecDepth 100000
set_option maxHeartbeats 1000000
set_option linter.unusedSimpArgs false
set_option linter.unusedVariables false

def hashStep (h : Int) (c : UInt8) : Int := IntKind.u64.wrap (xorF .u64 h (IntKind.u64.wrap (c.toNat : Int)) * 1099511628211)
def hashN (u : ByteArray) : Nat → Int
  | 0 => 14695981039346656037
  | i + 1 => hashStep (hashN u i) (u.data.getD i 0)
def hashF (u : ByteArray) : Int := hashN u u.size
theorem hashF_ok (u : ByteArray) : 0 ≤ hashF u ∧ hashF u < 18446744073709551616 := by
  unfold hashF
  cases u.size with
  | zero => simp only [hashN]; omega
  | succ i =>
    simp only [hashN, hashStep]
    rw [IntKind.wrap_u64]
    omega
theorem hash_Of (u : ByteArray) (hl : u.size ≤ 1000000) : PCall P 100 [str u] (fun x => x = u64 (hashF u)) := by
  refine q0r tyOk Tryz.func100 rfl rfl ?_
  intro K hK
  simp only [Tryz.ntmps100, List.length_cons, List.length_nil, Nat.reduceAdd, Nat.reduceSub, List.replicate, List.cons_append, List.nil_append]
  try simp (maxSteps := 1000000) only [seval]
  refine q1h tyOk (α := Nat) 0 [0, 3, 6, 7] (fun i => i ≤ u.size)
    (fun i => ⟨[str u, .any, .any, u64 (hashN u i), .any, .any, i64 u.size, i64 i, .any, .any, .any, .any, .any, .any, .any, .any, .any, .any, .any, .any], []⟩)
    (fun i => u.size - i) 0 (Nat.zero_le _) (Nat.zero_le _) rfl ?_
  intro i hi
  try simp (maxSteps := 1000000) only [seval]
  (first | refine q0g ?_ ?_ | refine q0k ?_ ?_ | refine q0l ?_ ?_ | refine q0m ?_ ?_ | refine q0h ?_ ?_) <;> intro h <;> try simp (maxSteps := 1000000) only [seval]
  · have hlt : i < u.size := by simpa using h
    have c1 : (0 : Int) ≤ (i : Int) ∧ Int.toNat (i : Int) < u.size := by omega
    have ew : IntKind.i64.wrap ((i : Int) + 1) = ((i + 1 : Nat) : Int) := by rw [wrap_i64 (by omega) (by omega)]; rfl
    try simp (maxSteps := 1000000) only [seval, c1, ew]
    simp only [q0p, St.trunc, St.keep, q00, q01, keepV, List.elem_cons, List.elem_nil, List.take_zero, List.map_nil, Nat.reduceAdd, Nat.reduceBEq, Nat.zero_add, Bool.false_eq_true, ↓reduceIte]
    exact ⟨i + 1, hlt, by omega, rfl⟩
  · have hge : i = u.size := by have : ¬ ((i : Int) < (u.size : Int)) := by simpa using h
                                omega
    subst hge
    apply hK
    simp only [Tryz.results100, retK, ares, List.take_nil, Bool.and_true, Bool.true_and, AV.ofResults, St.trunc, q00, q01, List.getD_cons_zero, List.getD_cons_succ, List.map_nil, true_and, and_true, List.cons.injEq, exists_eq_left']
    rfl
def strI (n : Int) (u : ByteArray) : Int := (hashF u).tmod n
theorem strI_ok {n : Int} (h1 : 1 ≤ n) (h2 : n ≤ 1000) (u : ByteArray) : 0 ≤ strI n u ∧ strI n u < n := by
  have := hashF_ok u
  unfold strI
  rw [Int.tmod_eq_emod_of_nonneg this.1]
  exact ⟨Int.emod_nonneg _ (by omega), Int.emod_lt_of_pos _ (by omega)⟩
theorem hash_Stripe (u : ByteArray) (n : Int) (hl : u.size ≤ 1000000) (h1 : 1 ≤ n) (h2 : n ≤ 1000) : PCall P 72 [str u, i64 n] (fun x => x = i64 (strI n u)) := by
  refine q0r tyOk Tryz.func72 rfl rfl ?_
  intro K hK
  simp only [Tryz.ntmps72, List.length_cons, List.length_nil, Nat.reduceAdd, Nat.reduceSub, List.replicate, List.cons_append, List.nil_append]
  have d1 : decide (n < 1) = false := decide_eq_false (by omega)
  have w1 : IntKind.u64.wrap n = n := by rw [IntKind.wrap_u64]; omega
  have hs := strI_ok h1 h2 u
  have w2 : IntKind.i64.wrap ((hashF u).tmod n) = strI n u := (by rw [IntKind.wrap_i64]; unfold strI at *; omega)
  have hn : ¬ n = 0 := by omega
  try simp (maxSteps := 1000000) only [seval, d1]
  (refine q07 (hash_Of u hl) rfl ?_; rintro _ rfl)
  try simp (maxSteps := 1000000) only [seval, w1, w2, hn]
  apply hK
  simp only [Tryz.results72, retK, ares, List.take_nil, Bool.and_true, Bool.true_and, AV.ofResults, St.trunc, q00, q01, List.getD_cons_zero, List.getD_cons_succ, List.map_nil, true_and, and_true, List.cons.injEq, exists_eq_left']
def nameB (u : ByteArray) : Bool := (!(u.toList == ByteArray.toList ⟨#[]⟩)) && decide ((u.size : Int) ≤ 16)
theorem q43 (u : ByteArray) : PCall P 34 [str u] (fun x => x = bool (nameB u)) := by
  refine q0r tyOk Tryz.func34 rfl rfl ?_
  intro K hK
  simp only [Tryz.ntmps34, List.length_cons, List.length_nil, Nat.reduceAdd, Nat.reduceSub, List.replicate, List.cons_append, List.nil_append]
  try simp (maxSteps := 1000000) only [seval]
  unfold nameB at hK
  (first | refine q0g ?_ ?_ | refine q0k ?_ ?_ | refine q0l ?_ ?_ | refine q0m ?_ ?_ | refine q0h ?_ ?_) <;> intro h
  · rw [h] at hK
    try simp (maxSteps := 1000000) only [seval]
    apply hK
    simp only [Tryz.results34, retK, ares, List.take_nil, Bool.and_true, Bool.true_and, AV.ofResults, St.trunc, q00, q01, List.getD_cons_zero, List.getD_cons_succ, List.map_nil, true_and, and_true, List.cons.injEq, exists_eq_left']
    try rw [Bool.true_and]
  · rw [h] at hK
    try simp (maxSteps := 1000000) only [seval]
    apply hK
    simp only [Tryz.results34, retK, ares, List.take_nil, Bool.and_true, Bool.true_and, AV.ofResults, St.trunc, q00, q01, List.getD_cons_zero, List.getD_cons_succ, List.map_nil, true_and, and_true, List.cons.injEq, exists_eq_left']
    try rw [Bool.false_and]

theorem tick_Pass (t : Tm) (by_ : Int) : PCall P 77 [.agg [u64 t.now, u64 t.seq, bool t.cl], u64 by_] (fun x => x = .agg [u64 (addW t.now by_), u64 t.seq, bool t.cl]) := by
  refine q0r tyOk Tryz.func77 rfl rfl ?_
  intro K hK
  simp only [Tryz.ntmps77, List.length_cons, List.length_nil, Nat.reduceAdd, Nat.reduceSub, List.replicate, List.cons_append, List.nil_append]
  try simp (maxSteps := 1000000) only [seval]
  (refine q07 (tick_Add t.now by_) rfl ?_; rintro _ rfl)
  try simp (maxSteps := 1000000) only [seval]
  apply hK
  simp only [Tryz.results77, retK, ares, List.take_nil, Bool.and_true, Bool.true_and, AV.ofResults, St.trunc, q00, q01, aload, acell, T, TI.isAgg, List.getD_cons_zero, List.getD_cons_succ, List.take_zero, List.take_succ_cons, List.drop_zero, List.map_nil, List.getElem?_cons_zero, List.getElem?_cons_succ, List.length_cons, List.length_nil, Nat.reduceAdd, Nat.le_refl, true_and, and_true, ↓reduceIte, List.cons.injEq, exists_eq_left']
theorem tick_Shut (t : Tm) : PCall P 44 [.agg [u64 t.now, u64 t.seq, bool t.cl]] (fun x => x = .agg [u64 t.now, u64 t.seq, bool true]) := by
  refine q0r tyOk Tryz.func44 rfl rfl ?_
  intro K hK
  simp only [Tryz.ntmps44, List.length_cons, List.length_nil, Nat.reduceAdd, Nat.reduceSub, List.replicate, List.cons_append, List.nil_append]
  try simp (maxSteps := 1000000) only [seval]
  apply hK
  simp only [Tryz.results44, retK, ares, List.take_nil, Bool.and_true, Bool.true_and, AV.ofResults, St.trunc, q00, q01, aload, acell, T, TI.isAgg, List.getD_cons_zero, List.getD_cons_succ, List.take_zero, List.take_succ_cons, List.drop_zero, List.map_nil, List.getElem?_cons_zero, List.getElem?_cons_succ, List.length_cons, List.length_nil, Nat.reduceAdd, Nat.le_refl, true_and, and_true, ↓reduceIte, List.cons.injEq, exists_eq_left']
theorem tick_Take (t : Tm) : PCall P 90 [.agg [u64 t.now, u64 t.seq, bool t.cl]] (fun x => x = .tup [.agg [u64 t.now, u64 (addW t.seq 1), bool t.cl], u64 (addW t.seq 1)]) := by
  refine q0r tyOk Tryz.func90 rfl rfl ?_
  intro K hK
  simp only [Tryz.ntmps90, List.length_cons, List.length_nil, Nat.reduceAdd, Nat.reduceSub, List.replicate, List.cons_append, List.nil_append]
  try simp (maxSteps := 1000000) only [seval]
  (refine q07 (tick_Add t.seq 1) rfl ?_; rintro _ rfl)
  try simp (maxSteps := 1000000) only [seval]
  refine q0w tyOk (by rfl) (by simp only [List.length_cons, List.length_nil, Nat.reduceAdd, Nat.zero_le]) (by kernel_rfl) rfl ?_
  try simp (maxSteps := 1000000) only [seval]
  refine ⟨by kernel_rfl, ?_⟩
  try simp (maxSteps := 1000000) only [seval]
  apply hK
  simp only [Tryz.results90, retK, ares, List.take_nil, Bool.and_true, Bool.true_and, AV.ofResults, St.trunc, q00, q01, aload, acell, T, TI.isAgg, List.getD_cons_zero, List.getD_cons_succ, List.take_zero, List.take_succ_cons, List.drop_zero, List.map_nil, List.getElem?_cons_zero, List.getElem?_cons_succ, List.length_cons, List.length_nil, Nat.reduceAdd, Nat.le_refl, true_and, and_true, ↓reduceIte, List.cons.injEq, exists_eq_left']

def inB (n low high : Int) : Bool := decide (low ≤ n) && decide (n ≤ high)
theorem q2t (n low high : Int) : PCall P 36 [i64 n, i64 low, i64 high] (fun x => x = bool (inB n low high)) := by
  refine q0r tyOk Tryz.func36 rfl rfl ?_
  intro K hK
  simp only [Tryz.ntmps36, List.length_cons, List.length_nil, Nat.reduceAdd, Nat.reduceSub, List.replicate, List.cons_append, List.nil_append]
  try simp (maxSteps := 1000000) only [seval]
  unfold inB at hK
  (first | refine q0g ?_ ?_ | refine q0k ?_ ?_ | refine q0l ?_ ?_ | refine q0m ?_ ?_ | refine q0h ?_ ?_) <;> intro h
  · have h : decide (low ≤ n) = true := h
    rw [h] at hK
    try simp (maxSteps := 1000000) only [seval]
    apply hK
    simp only [Tryz.results36, retK, ares, List.take_nil, Bool.and_true, Bool.true_and, AV.ofResults, St.trunc, q00, q01, List.getD_cons_zero, List.getD_cons_succ, List.map_nil, true_and, and_true, List.cons.injEq, exists_eq_left']
    try rw [Bool.true_and]
  · have h : decide (low ≤ n) = false := h
    rw [h] at hK
    try simp (maxSteps := 1000000) only [seval]
    apply hK
    simp only [Tryz.results36, retK, ares, List.take_nil, Bool.and_true, Bool.true_and, AV.ofResults, St.trunc, q00, q01, List.getD_cons_zero, List.getD_cons_succ, List.map_nil, true_and, and_true, List.cons.injEq, exists_eq_left']
    try rw [Bool.false_and]
def Cf.av (c : Cf) : AV := .agg [i64 c.s, i64 c.k, i64 c.q, i64 c.w, i64 c.r, u64 c.e, u64 c.st]
def Cf.right (c : Cf) : Bool := inB c.s 1 8 && inB c.k 1 8 && inB c.q 1 16 && inB c.w 1 8 && inB c.r 0 4
theorem model_Right (c : Cf) : PCall P 24 [c.av] (fun x => x = bool c.right) := by
  refine q0r tyOk Tryz.func24 rfl rfl ?_
  intro K hK
  simp only [Tryz.ntmps24, List.length_cons, List.length_nil, Nat.reduceAdd, Nat.reduceSub, List.replicate, List.cons_append, List.nil_append]
  unfold Cf.right at hK
  have h1 := q2t c.s 1 8
  have h2 := q2t c.k 1 8
  have h3 := q2t c.q 1 16
  have h4 := q2t c.w 1 8
  have h5 := q2t c.r 0 4
  generalize inB c.s 1 8 = b1 at *
  generalize inB c.k 1 8 = b2 at *
  generalize inB c.q 1 16 = b3 at *
  generalize inB c.w 1 8 = b4 at *
  generalize inB c.r 0 4 = b5 at *
  try simp (maxSteps := 1000000) only [seval, Cf.av]
  (refine q07 h1 rfl ?_; rintro _ rfl)
  cases b1
  · try simp (maxSteps := 1000000) only [seval]
    apply hK
    simp only [Tryz.results24, retK, ares, Bool.and_true, Bool.true_and, AV.ofResults, St.trunc, q00, q01, List.getD_cons_zero, List.getD_cons_succ, List.take_zero, List.map_nil, true_and, and_true, List.cons.injEq, exists_eq_left']
    simp only [Bool.false_and, Bool.and_false, Bool.true_and]
  try simp (maxSteps := 1000000) only [seval]
  (refine q07 h2 rfl ?_; rintro _ rfl)
  cases b2
  · try simp (maxSteps := 1000000) only [seval]
    apply hK
    simp only [Tryz.results24, retK, ares, Bool.and_true, Bool.true_and, AV.ofResults, St.trunc, q00, q01, List.getD_cons_zero, List.getD_cons_succ, List.take_zero, List.map_nil, true_and, and_true, List.cons.injEq, exists_eq_left']
    simp only [Bool.false_and, Bool.and_false, Bool.true_and]
  try simp (maxSteps := 1000000) only [seval]
  (refine q07 h3 rfl ?_; rintro _ rfl)
  cases b3
  · try simp (maxSteps := 1000000) only [seval]
    apply hK
    simp only [Tryz.results24, retK, ares, Bool.and_self, Bool.and_true, Bool.true_and, AV.ofResults, St.trunc, q00, q01, List.getD_cons_zero, List.getD_cons_succ, List.take_zero, List.map_nil, true_and, and_true, List.cons.injEq, exists_eq_left']
    simp only [Bool.false_and, Bool.and_false, Bool.true_and]
  try simp (maxSteps := 1000000) only [seval]
  (refine q07 h4 rfl ?_; rintro _ rfl)
  cases b4
  · try simp (maxSteps := 1000000) only [seval]
    apply hK
    simp only [Tryz.results24, retK, ares, Bool.and_self, Bool.and_true, Bool.true_and, AV.ofResults, St.trunc, q00, q01, List.getD_cons_zero, List.getD_cons_succ, List.take_zero, List.map_nil, true_and, and_true, List.cons.injEq, exists_eq_left']
    simp only [Bool.false_and, Bool.and_false, Bool.true_and]
  try simp (maxSteps := 1000000) only [seval]
  (refine q07 h5 rfl ?_; rintro _ rfl)
  try simp (maxSteps := 1000000) only [seval]
  apply hK
  simp only [Tryz.results24, retK, ares, Bool.and_self, Bool.and_true, Bool.true_and, AV.ofResults, St.trunc, q00, q01, List.getD_cons_zero, List.getD_cons_succ, List.take_zero, List.map_nil, true_and, and_true, List.cons.injEq, exists_eq_left']
end Go.Proofs.YtdkcpcflfnakdaaGreat
namespace Go.Proofs.YtdkcpcflfnakdaaGreat
open Go Go.Proofs.YtdkcpcflfnakdaaGreat.Sym
attribute [-sevalprocAttr] Int.reduceToNat Int.reduceNatCast Int.reduceNatCast' Nat.reduceSubDiff
set_option maxRecDepth 100000
set_option maxHeartbeats 1000000
set_option linter.unusedSimpArgs false
set_option linter.unusedVariables false

theorem ml_z {n : Nat} : (mlen n = 0) = False := by simp [mlen]
theorem ml_1 {n : Nat} : (1 ≤ mlen n) = True := by simp [mlen]; omega
theorem ml_n0 {n : Nat} : (mlen n ≤ 0) = False := by simp [mlen]
theorem ml_n1 {n : Nat} : (mlen n ≤ 1) = False := by simp [mlen]; omega
theorem ml_n2 {n : Nat} : (mlen n ≤ 2) = False := by simp [mlen]; omega
theorem ml_nf {n k : Nat} (h : k < n) : (mlen n ≤ fb k) = False := by simp [mlen, fb]; omega
theorem ml_nfk {n k j : Nat} (h : k < n) : (mlen n + j ≤ fb k) = False := by simp [mlen, fb]; omega
theorem ml_k0 {n k : Nat} : (mlen n + k ≤ 0) = False := by simp [mlen]
theorem ml_k1 {n k : Nat} : (mlen n + k ≤ 1) = False := by simp [mlen]; omega
theorem ml_k2 {n k : Nat} : (mlen n + k ≤ 2) = False := by simp [mlen]; omega
theorem ml_kl {n k j : Nat} : (mlen n + k ≤ mlen n + j) = (k ≤ j) := by simp
theorem ml_kl0 {n k : Nat} : (mlen n + k ≤ mlen n) = (k ≤ 0) := propext (by constructor <;> omega)
theorem ml_l {n k : Nat} : (mlen n = mlen n + k) = (k = 0) := by simp
theorem ml_r {n k : Nat} : (mlen n + k = mlen n) = (k = 0) := by simp
theorem ml_b {n j k : Nat} : (mlen n + j = mlen n + k) = (j = k) := by simp
theorem ml_le {n k : Nat} : (mlen n ≤ mlen n + k) = True := by simp
theorem ml_0 {n : Nat} : (0 = mlen n) = False := by simp [mlen]; omega
theorem ml_0k {n k : Nat} : (0 = mlen n + k) = False := by simp [mlen]; omega
theorem mm_ids {n pad i : Nat} {M : Md} {cs : List AV} (h : (modM n pad M)[i]? = some (.box cs)) : ∀ b ∈ q0n cs, b < mlen n := by
  intro b hb
  have hl := (List.getElem?_eq_some_iff.1 h).1
  rw [q08] at hl
  rcases mm_split (n := n) (pad := pad) (i := i) (M := M) (r := []) with h1 | ⟨s, j, h1, h2, rfl⟩ | h1
  · have c : i = 0 ∨ i = 1 ∨ i = 2 := by omega
    rcases c with rfl | rfl | rfl
    · rw [mm_0n] at h; cases h
      simp only [q0n, bks, List.nil_append, List.append_nil, List.not_mem_nil, or_false, List.cons_append, List.mem_cons] at hb
      simp only [mlen]; omega
    · rw [mm_1n] at h; cases h
    · rw [mm_2n] at h; cases h
      obtain ⟨j, hj, rfl⟩ := ptrs_bks n pad b hb
      simp only [fb, mlen]; omega
  · have := mm_feed M [] h1 h2 (pad := pad)
    rw [List.append_nil, h] at this
    cases hg : (feedM (M.f s))[j]? with
    | none => rw [hg] at this; cases this
    | some blk =>
      rw [hg] at this
      simp only [Option.map_some, Option.some.injEq] at this
      cases blk with
      | box cs0 =>
        simp only [AB.ren, AB.box.injEq] at this
        subst this
        obtain ⟨c, hc, rfl, _⟩ := q48 cs0 (feed_box hg) b hb
        simp only [fb, mlen]; omega
      | row _ _ _ => simp [AB.ren] at this
      | rowc _ _ _ _ => simp [AB.ren] at this
      | gone => simp [AB.ren] at this
      | tr _ _ => simp [AB.ren] at this
  · omega
theorem mm_fix {n pad : Nat} {M : Md} {f : AB → AB} (h1 : ∀ cs, (∀ b ∈ q0n cs, b < mlen n) → f (.box cs) = .box cs) (h2 : ∀ blk, (∀ cs, blk ≠ .box cs) → f blk = blk) : (modM n pad M).map f = modM n pad M := by
  apply List.ext_getElem?
  intro i
  rw [List.getElem?_map]
  cases h : (modM n pad M)[i]? with
  | none => rfl
  | some blk =>
    simp only [Option.map_some]
    congr 1
    by_cases hb : ∃ cs, blk = .box cs
    · obtain ⟨cs, rfl⟩ := hb
      exact h1 cs (mm_ids h)
    · exact h2 blk (fun cs hc => hb ⟨cs, hc⟩)
mutual
theorem truncV_id {m : List AB} {N : Nat} : ∀ x : AV, (∀ b ∈ bks x, b < N) → q01 m N x = x
  | .v _, _ => rfl
  | .agg xs, h => by simp only [q01]; rw [q47 xs h]
  | .tup xs, h => by simp only [q01]; rw [q47 xs h]
  | .sl _ _, _ => rfl
  | .rp _, _ => rfl
  | .own b _ _ _, h => by have := h b (by simp [bks]); simp only [q01]; rw [if_neg (by omega)]
  | .ptr b _, h => by have := h b (by simp [bks]); simp only [q01]; rw [if_neg (by omega)]
  | .ep b _ _ _, h => by have := h b (by simp [bks]); simp only [q01]; rw [if_neg (by omega)]
  | .fn _ caps, h => by simp only [q01]; rw [q47 caps h]
  | .any, _ => rfl
theorem q47 {m : List AB} {N : Nat} : ∀ xs : List AV, (∀ b ∈ q0n xs, b < N) → q00 m N xs = xs
  | [], _ => rfl
  | x :: xs, h => by
    simp only [q00]
    rw [truncV_id x (fun b hb => h b (by simp [q0n, hb])), q47 xs (fun b hb => h b (by simp [q0n, hb]))]
end
mutual
theorem killV_id {c : Nat} : ∀ x : AV, (∀ b ∈ bks x, b ≠ c) → killV c x = x
  | .v _, _ => rfl
  | .agg xs, h => by simp only [killV]; rw [killVs_id xs h]
  | .tup xs, h => by simp only [killV]; rw [killVs_id xs h]
  | .sl _ _, _ => rfl
  | .rp _, _ => rfl
  | .own b _ _ _, h => by have := h b (by simp [bks]); simp only [killV]; rw [if_neg this]
  | .ptr b _, h => by have := h b (by simp [bks]); simp only [killV]; rw [if_neg this]
  | .ep b _ _ _, h => by have := h b (by simp [bks]); simp only [killV]; rw [if_neg this]
  | .fn _ caps, h => by simp only [killV]; rw [killVs_id caps h]
  | .any, _ => rfl
theorem killVs_id {c : Nat} : ∀ xs : List AV, (∀ b ∈ q0n xs, b ≠ c) → q1u c xs = xs
  | [], _ => rfl
  | x :: xs, h => by
    simp only [q1u]
    rw [killV_id x (fun b hb => h b (by simp [q0n, hb])), killVs_id xs (fun b hb => h b (by simp [q0n, hb]))]
end
mutual
theorem shutV_id {m : List AB} {c : Nat} : ∀ x : AV, (∀ b ∈ bks x, b ≠ c) → shutV m c x = x
  | .v _, _ => rfl
  | .agg xs, h => by simp only [shutV]; rw [shutVs_id xs h]
  | .tup xs, h => by simp only [shutV]; rw [shutVs_id xs h]
  | .sl _ _, _ => rfl
  | .rp _, _ => rfl
  | .own b _ _ _, h => by have := h b (by simp [bks]); simp only [shutV]; rw [if_neg this]
  | .ptr b _, h => by have := h b (by simp [bks]); simp only [shutV]; rw [if_neg this]
  | .ep b _ _ _, h => by have := h b (by simp [bks]); simp only [shutV]; rw [if_neg this]
  | .fn _ caps, h => by simp only [shutV]; rw [shutVs_id caps h]
  | .any, _ => rfl
theorem shutVs_id {m : List AB} {c : Nat} : ∀ xs : List AV, (∀ b ∈ q0n xs, b ≠ c) → shutVs m c xs = xs
  | [], _ => rfl
  | x :: xs, h => by
    simp only [shutVs]
    rw [shutV_id x (fun b hb => h b (by simp [q0n, hb])), shutVs_id xs (fun b hb => h b (by simp [q0n, hb]))]
end
mutual
theorem ren_id {N : Nat} : ∀ x : AV, (∀ b ∈ bks x, b < N) → ren (List.range' 0 N) x = x
  | .v _, _ => rfl
  | .agg xs, h => by simp only [ren]; rw [q4p xs h]
  | .tup xs, h => by simp only [ren]; rw [q4p xs h]
  | .sl _ _, _ => rfl
  | .rp _, _ => rfl
  | .own b _ _ _, h => by have := h b (by simp [bks]); simp only [ren]; rw [q3p this, Nat.zero_add]
  | .ptr b _, h => by have := h b (by simp [bks]); simp only [ren]; rw [q3p this, Nat.zero_add]
  | .ep b _ _ _, h => by have := h b (by simp [bks]); simp only [ren]; rw [q3p this, Nat.zero_add]
  | .fn _ caps, h => by simp only [ren]; rw [q4p caps h]
  | .any, _ => rfl
theorem q4p {N : Nat} : ∀ xs : List AV, (∀ b ∈ q0n xs, b < N) → q1i (List.range' 0 N) xs = xs
  | [], _ => rfl
  | x :: xs, h => by
    simp only [q1i]
    rw [ren_id x (fun b hb => h b (by simp [q0n, hb])), q4p xs (fun b hb => h b (by simp [q0n, hb]))]
end
section
variable (n pad : Nat) (M : Md) (r : List AB)
theorem mm_trunc {X : List AB} {N : Nat} (h : mlen n ≤ N) : (modM n pad M).map (AB.trunc X N) = modM n pad M :=
  mm_fix (fun cs hc => by simp only [AB.trunc]; rw [q47 cs (fun b hb => Nat.lt_of_lt_of_le (hc b hb) h)]) (fun blk hb => by cases blk <;> first | rfl | exact absurd rfl (hb _))
theorem mm_kill {b : Nat} (h : mlen n ≤ b) : (modM n pad M).map (AB.kill b) = modM n pad M :=
  mm_fix (fun cs hc => by simp only [AB.kill]; rw [killVs_id cs (fun c hb => by have := hc c hb; omega)]) (fun blk hb => by cases blk <;> first | rfl | exact absurd rfl (hb _))
theorem mm_shut {X : List AB} {b : Nat} (h : mlen n ≤ b) : (modM n pad M).map (AB.shut X b) = modM n pad M :=
  mm_fix (fun cs hc => by simp only [AB.shut]; rw [shutVs_id cs (fun c hb => by have := hc c hb; omega)]) (fun blk hb => by cases blk <;> first | rfl | exact absurd rfl (hb _))
theorem q04 (k : Nat) : (modM n pad M ++ r).map (AB.kill (mlen n + k)) = modM n pad M ++ r.map (AB.kill (mlen n + k)) := by rw [List.map_append, mm_kill n pad M (by omega)]
theorem q02 : (modM n pad M ++ r).map (AB.kill (mlen n)) = modM n pad M ++ r.map (AB.kill (mlen n)) := q04 n pad M r 0
theorem q05 {X : List AB} (k : Nat) : (modM n pad M ++ r).map (AB.shut X (mlen n + k)) = modM n pad M ++ r.map (AB.shut X (mlen n + k)) := by rw [List.map_append, mm_shut n pad M (by omega)]
theorem q03 {X : List AB} : (modM n pad M ++ r).map (AB.shut X (mlen n)) = modM n pad M ++ r.map (AB.shut X (mlen n)) := q05 n pad M r 0
theorem mm_tk (k : Nat) : (modM n pad M ++ r).take (mlen n + k) = modM n pad M ++ r.take k := by
  rw [List.take_append, q08, List.take_of_length_le (by rw [q08]; omega), show mlen n + k - mlen n = k by omega]
theorem q2n {X : List AB} : ((modM n pad M ++ r).take (mlen n)).map (AB.trunc X (mlen n)) = modM n pad M := by
  have := mm_tk n pad M r 0
  rw [Nat.add_zero] at this
  rw [this, List.take_zero, List.append_nil, mm_trunc n pad M (Nat.le_refl _)]
theorem mm_retn {X : List AB} : ((modM n pad M).take (mlen n)).map (AB.trunc X (mlen n)) = modM n pad M := by
  have := q2n n pad M [] (X := X)
  rwa [List.append_nil] at this
theorem mm_rn {X : List AB} (k : Nat) : ((modM n pad M ++ r).take (mlen n + k)).map (AB.trunc X (mlen n + k)) = modM n pad M ++ (r.take k).map (AB.trunc X (mlen n + k)) := by
  rw [mm_tk, List.map_append, mm_trunc n pad M (by omega)]
theorem mm_rn1 {X : List AB} : ((modM n pad M ++ r).take (mlen n + 1)).map (AB.trunc X (mlen n + 1)) = modM n pad M ++ (r.take 1).map (AB.trunc X (mlen n + 1)) := mm_rn n pad M r 1
theorem mm_rn2 {X : List AB} : ((modM n pad M ++ r).take (mlen n + 2)).map (AB.trunc X (mlen n + 2)) = modM n pad M ++ (r.take 2).map (AB.trunc X (mlen n + 2)) := mm_rn n pad M r 2
theorem mm_rn3 {X : List AB} : ((modM n pad M ++ r).take (mlen n + 3)).map (AB.trunc X (mlen n + 3)) = modM n pad M ++ (r.take 3).map (AB.trunc X (mlen n + 3)) := mm_rn n pad M r 3
theorem mm_rn4 {X : List AB} : ((modM n pad M ++ r).take (mlen n + 4)).map (AB.trunc X (mlen n + 4)) = modM n pad M ++ (r.take 4).map (AB.trunc X (mlen n + 4)) := mm_rn n pad M r 4
theorem mm_ren : renM (List.range' 0 (mlen n)) (modM n pad M) = modM n pad M := by
  have : ∀ l : List AB, renM (List.range' 0 (mlen n)) l = l.map (AB.ren (List.range' 0 (mlen n))) := by
    intro l; induction l with
    | nil => rfl
    | cons b l ih => rw [renM, ih]; rfl
  rw [this]
  exact mm_fix (fun cs hc => by simp only [AB.ren]; rw [q4p cs hc]) (fun blk hb => by cases blk <;> first | rfl | exact absurd rfl (hb _))
theorem mm_inR : (modM n pad M).all (AB.inR (mlen n)) = true := by
  refine List.all_eq_true.2 fun blk hb => ?_
  obtain ⟨i, hi⟩ := List.getElem?_of_mem hb
  cases blk with
  | box cs => exact List.all_eq_true.2 fun b hb => decide_eq_true (mm_ids hi b hb)
  | _ => rfl
theorem mm_atAll : (List.range' 0 (mlen n)).map (fun b => (modM n pad M ++ r)[b]?) = (modM n pad M).map some := by
  apply List.ext_getElem?
  intro i
  by_cases hi : i < mlen n
  · rw [List.getElem?_map, q4n hi, List.getElem?_map]
    simp only [Option.map_some, Nat.zero_add]
    rw [List.getElem?_append_left (by rw [q08]; exact hi), List.getElem?_eq_getElem (by rw [q08]; exact hi)]
    rfl
  · rw [List.getElem?_eq_none (by simp; omega), List.getElem?_eq_none (by simp [q08]; omega)]
theorem mm_putAll (M' : Md) : putL (modM n pad M ++ r) (List.range' 0 (mlen n)) (modM n pad M') = modM n pad M' ++ r := by
  apply List.ext_getElem?
  intro i
  by_cases hi : i < mlen n
  · have hg : (modM n pad M')[i]? = some ((modM n pad M')[i]'(by rw [q08]; exact hi)) := List.getElem?_eq_getElem _
    rw [putL_in _ _ _ i i _ List.nodup_range' (by rw [q4n hi, Nat.zero_add]) hg (by rw [q09]; omega), List.getElem?_append_left (by rw [q08]; exact hi), hg]
  · rw [putL_out _ _ _ _ (fun hm => by have := (q3l.1 hm).2; omega)]
    obtain ⟨k, rfl⟩ := Nat.exists_eq_add_of_le (Nat.le_of_not_lt hi)
    rw [mm_at, mm_at]
end
def kpX (n b : Nat) : Bool := decide (b < 3) || decide (mlen n ≤ b)
theorem mod_in {g : FuncId} {args : List AV} {K0 K : AV → List AB → Prop} {n pad : Nat} {M : Md} {r : List AB} (h : ACall P g (modM n pad M) args K0) (hb : (q0n args).all (fun b => decide (b < 3)) = true)
    (hK : ∀ x m', K0 x m' → bks x = [] ∧ ∃ M', m' = modM n pad M' ∧ K x (modM n pad M' ++ r)) : ACall P g (modM n pad M ++ r) args K := by
  have hb' : ∀ b ∈ q0n args, b < mlen n := fun b hm => by have := List.all_eq_true.1 hb b hm; simp only [decide_eq_true_eq] at this; simp only [mlen]; omega
  refine h.frame (List.range' 0 (mlen n)) List.nodup_range' (by rw [mm_ren]; exact mm_atAll n pad M r) (q4p args hb').symm (by rw [List.length_range']; exact List.all_eq_true.2 fun b hm => decide_eq_true (hb' b hm)) (by rw [List.length_range']; exact mm_inR n pad M) ?_
  intro x m' hx
  obtain ⟨hbx, M', rfl, hv⟩ := hK x m' hx
  exact ⟨by rw [q08, q08], by rw [mm_ren, mm_putAll, ren_id x (by rw [hbx]; intro b hb; cases hb)]; exact hv⟩
theorem mod_inX {g : FuncId} {args : List AV} {K0 K : AV → List AB → Prop} {n pad : Nat} {M : Md} {r : List AB} (h : q0s P 3 g (modM n pad M) args K0) (hb : (q0n args).all (fun b => decide (b < 3)) = true) (hr : r.all (AB.calm n) = true)
    (hK : ∀ x m', K0 x m' → bks x = [] ∧ ∃ M', m' = modM n pad M' ∧ K x (modM n pad M' ++ r)) : q17 P (kpX n) g (modM n pad M ++ r) args K := by
  have hb' : ∀ b ∈ q0n args, b < mlen n := fun b hm => by have := List.all_eq_true.1 hb b hm; simp only [decide_eq_true_eq] at this; simp only [mlen]; omega
  have key : ∀ b, kpX n b = true → kpOf (fun b => decide (b < 3)) (List.range' 0 (mlen n)) 0 b = true := by
    intro b hb
    by_cases hm : b < mlen n
    · rw [kpOf_in (j := b) List.nodup_range' (by rw [q4n hm, Nat.zero_add])]
      simp only [kpX, Bool.or_eq_true, decide_eq_true_eq] at hb
      simp only [decide_eq_true_eq]; omega
    · exact kpOf_out (fun h => by have := (q3l.1 h).2; omega)
  refine q17.keeps (kp := kpOf (fun b => decide (b < 3)) (List.range' 0 (mlen n)) 0) ?_ (fun b _ hb => key b hb)
  refine h.toX.frame (List.range' 0 (mlen n)) List.nodup_range' (by rw [mm_ren]; exact mm_atAll n pad M r) (q4p args hb').symm (by rw [List.length_range']; exact List.all_eq_true.2 fun b hm => decide_eq_true (hb' b hm)) (by rw [List.length_range']; exact mm_inR n pad M) ?_ ?_
  · refine q4s fun i cs hi => ?_
    rw [Nat.zero_add]
    by_cases hm : i < mlen n
    · exact .inl (q3l.2 ⟨Nat.zero_le _, by omega⟩)
    · obtain ⟨k, rfl⟩ := Nat.exists_eq_add_of_le (Nat.le_of_not_lt hm)
      rw [mm_at] at hi
      have := List.all_eq_true.1 hr _ (List.mem_of_getElem? hi)
      exact .inr (List.all_eq_true.2 fun b hb => key b (List.all_eq_true.1 this b hb))
  · intro x m' hx
    obtain ⟨hbx, M', rfl, hv⟩ := hK x m' hx
    exact ⟨by rw [q08, q08], by rw [mm_ren, mm_putAll, ren_id x (by rw [hbx]; intro b hb; cases hb)]; exact hv⟩
end Go.Proofs.YtdkcpcflfnakdaaGreat
