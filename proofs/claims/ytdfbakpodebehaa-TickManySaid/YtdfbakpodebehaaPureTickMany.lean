/- Times that are added one by one come to the same in any order. -/
import Derived.Test.YtdfbakpodebehaaPTickManyx1
namespace Go.Proofs.Ytdfbakpodebehaa.Pure
open Go.RowKit Go.Proofs.Ytdfbakpodebehaa.PTickMany Go.Proofs.YtdfbakpodebehaaW.PrintWords Go.Proofs.YtdfbakpodebehaaW.PrintLast

theorem u64_bd {a : Int} (h : (Lit.int .u64 a).wf = true) : 0 ≤ a ∧ a ≤ 18446744073709551615 := by
  simpa [Lit.wf, IntKind.min, IntKind.max, IntKind.signed, IntKind.bits] using h

theorem u64_in {a : Int} (h0 : 0 ≤ a) (h1 : a ≤ 18446744073709551615) : IntKind.u64.wrap a = a := by
  simp only [IntKind.wrap, IntKind.signed, IntKind.bits]
  simp
  omega

theorem add_is {a b : Int} (ha0 : 0 ≤ a) (ha1 : a ≤ 18446744073709551615) (hb0 : 0 ≤ b) :
    tick_Add.f a b = some (if a + b > 18446744073709551615 then 18446744073709551615 else a + b) := by
  unfold tick_Add.f
  rw [u64_in (a := 18446744073709551615 - a) (by omega) (by omega)]
  by_cases h : b > 18446744073709551615 - a
  · rw [if_pos h, if_pos (by omega)]
  · rw [if_neg h, if_neg (by omega), u64_in (by omega) (by omega)]

theorem awake_is : doormanlaw01_awake.f = some true := by
  unfold doormanlaw01_awake.f
  rw [add_is (by omega) (by omega) (by omega)]
  simp [tick_Late.f]

/-- A sum that stops at the greatest number. -/
def sat (a b : Int) : Int := if a + b > 18446744073709551615 then 18446744073709551615 else a + b
/-- What a list comes to, cut at the greatest number. -/
def cut (a : Int) : Int := if a > 18446744073709551615 then 18446744073709551615 else a

theorem wrap_head {i : Int} {n : Nat} (h0 : 0 ≤ i) (h : i < (n : Int)) (hn : n ≤ 140737488351232) : wrap64 (i + 1) = i + 1 := by
  unfold wrap64
  omega

theorem add_cut {s x : Int} (hs : 0 ≤ s) (hx0 : 0 ≤ x) (hx : x ≤ 18446744073709551615) : tick_Add.f (cut s) x = some (cut (s + x)) := by
  rw [add_is (by unfold cut; split <;> omega) (by unfold cut; split <;> omega) hx0]
  unfold cut
  congr 1
  repeat' split
  all_goals omega

theorem add_cut' {s x : Int} (hs : 0 ≤ s) (hx0 : 0 ≤ x) (hx : x ≤ 18446744073709551615) : tick_Add.f x (cut s) = some (cut (s + x)) := by
  rw [add_is hx0 hx (by unfold cut; split <;> omega)]
  unfold cut
  congr 1
  repeat' split
  all_goals omega

theorem sum_nn (l : List Int) (h : ∀ x ∈ l, 0 ≤ x) : 0 ≤ l.sum := by
  induction l with
  | nil => simp
  | cons a l ih =>
    have := h a (by simp)
    have := ih (fun x hx => h x (by simp [hx]))
    simp; omega

theorem getD_lt {l : List Int} {i : Nat} (h : i < l.length) : l.getD i 0 = l[i] := by simp [h]
theorem getD_ge {l : List Int} {i : Nat} (h : l.length ≤ i) : l.getD i 0 = 0 := by simp [h]
theorem rd_nat (l : List Int) (i : Nat) : rd l (i : Int) = l.getD i 0 := by simp [rd]

theorem rd_bd (l : List Int) (hw : ∀ x ∈ l, (Lit.int .u64 x).wf = true) (i : Nat) : 0 ≤ rd l (i : Int) ∧ rd l (i : Int) ≤ 18446744073709551615 := by
  rw [rd_nat]
  by_cases h : i < l.length
  · rw [getD_lt h]
    exact u64_bd (hw _ (List.getElem_mem h))
  · rw [getD_ge (by omega)]; omega

/-- Turned round, a list comes to the same. -/
theorem turned (l : List Int) (s : Nat) : ((List.range l.length).map fun j => rd l (((j + s) % l.length : Nat) : Int)).sum = l.sum := by
  by_cases h0 : l.length = 0
  · have : l = [] := List.eq_nil_of_length_eq_zero h0
    subst this; simp
  have hm : s % l.length < l.length := Nat.mod_lt _ (by omega)
  have e : ((List.range l.length).map fun j => rd l (((j + s) % l.length : Nat) : Int)) = l.drop (s % l.length) ++ l.take (s % l.length) := by
    apply List.ext_getElem
    · simp; omega
    · intro i h1 h2
      simp at h1
      simp only [List.getElem_map, List.getElem_range, rd_nat]
      have hi : (i + s) % l.length = (i + s % l.length) % l.length := by rw [Nat.add_mod_mod]
      rw [hi]
      by_cases c : i + s % l.length < l.length
      · rw [Nat.mod_eq_of_lt c, List.getElem_append_left (by simp; omega), List.getElem_drop, getD_lt c]
        congr 1; omega
      · have e2 : (i + s % l.length) % l.length = i + s % l.length - l.length := by
          rw [Nat.mod_eq_sub_mod (by omega), Nat.mod_eq_of_lt (by omega)]
        rw [e2, List.getElem_append_right (by simp; omega), List.getElem_take, getD_lt (by omega)]
        congr 1; simp; omega
  rw [e, List.sum_append, Int.add_comm, ← List.sum_append, List.take_append_drop]

theorem rounds (l : List Int) (hw : ∀ x ∈ l, (Lit.int .u64 x).wf = true) (s : Nat) (hs : s < 256) (hl : l.length ≤ 400) (d : Nat) :
    ∀ (k i : Nat), l.length - i = d → i ≤ l.length → d < k →
      doormanlaw01_TickMany.l0 k l s (cut (l.take i).sum) (cut ((List.range i).map fun j => rd l (((j + s) % l.length : Nat) : Int)).sum) i
        = some (cut l.sum == cut ((List.range l.length).map fun j => rd l (((j + s) % l.length : Nat) : Int)).sum) := by
  induction d with
  | zero =>
    intro k i hd hi hk
    obtain ⟨k, rfl⟩ : ∃ m, k = m + 1 := ⟨k - 1, by omega⟩
    obtain rfl : i = l.length := by omega
    simp only [doormanlaw01_TickMany.l0]
    rw [if_neg (by omega), List.take_length]
  | succ d ih =>
    intro k i hd hi hk
    obtain ⟨k, rfl⟩ : ∃ m, k = m + 1 := ⟨k - 1, by omega⟩
    have hlt : i < l.length := by omega
    have hm : (i + s) % l.length < l.length := Nat.mod_lt _ (by omega)
    have c1 : (i : Int) < (l.length : Int) := by omega
    have c2 : 0 ≤ (i : Int) := by omega
    have c3 : ¬ (l.length : Int) = 0 := by omega
    have c4 : 0 ≤ (((i + s) % l.length : Nat) : Int) := Int.natCast_nonneg _
    have c5 : (((i + s) % l.length : Nat) : Int) < (l.length : Int) := Int.ofNat_lt.2 hm
    have w1 : wrap64 (s : Int) = s := by clear hw hm c4 c5 ih hd; unfold wrap64; omega
    have w2 : wrap64 ((i : Int) + s) = ((i + s : Nat) : Int) := by clear hw hm c4 c5 ih hd w1; unfold wrap64; omega
    have w3 : wrap64 ((i : Int) + 1) = ((i + 1 : Nat) : Int) := by clear hw hm c4 c5 ih hd w1 w2; unfold wrap64; omega
    have hb := rd_bd l hw i
    have hb2 := rd_bd l hw ((i + s) % l.length)
    have n1 : 0 ≤ (l.take i).sum := sum_nn _ fun x hx => (u64_bd (hw x (List.mem_of_mem_take hx))).1
    have n2 : 0 ≤ ((List.range i).map fun j => rd l (((j + s) % l.length : Nat) : Int)).sum := sum_nn _ fun x hx => by
      obtain ⟨j, _, rfl⟩ := List.mem_map.1 hx
      exact (rd_bd l hw _).1
    have t1 : Int.tmod ((i + s : Nat) : Int) (l.length : Int) = (((i + s) % l.length : Nat) : Int) := (Int.ofNat_tmod _ _).symm
    have s1 : (l.take i).sum + rd l (i : Int) = (l.take (i + 1)).sum := by
      rw [rd_nat, List.take_succ_eq_append_getElem hlt, getD_lt hlt, List.sum_append]; simp
    have s2 : ((List.range i).map fun j => rd l (((j + s) % l.length : Nat) : Int)).sum + rd l (((i + s) % l.length : Nat) : Int)
        = ((List.range (i + 1)).map fun j => rd l (((j + s) % l.length : Nat) : Int)).sum := by
      rw [List.range_succ, List.map_append, List.sum_append]; simp
    have hih := ih k (i + 1) (by clear w1 w2 w3 t1 s1 s2 c4 c5 hb hb2; omega) (by clear w1 w2 w3 t1 s1 s2 c4 c5 hb hb2; omega) (by clear w1 w2 w3 t1 s1 s2 c4 c5 hb hb2; omega)
    rw [doormanlaw01_TickMany.l0, if_pos c1, if_pos c2, add_cut n1 hb.1 hb.2, Option.bind_some, w1, w2, w3, t1, if_neg c3, if_pos c4, if_pos c5, add_cut' n2 hb2.1 hb2.2, Option.bind_some, s1, s2]
    exact hih

/-- The pure law. -/
theorem TickMany : doormanlaw01_TickMany.Pure := by
  intro l at_ h0 h1 h2 h3
  have hat : 0 ≤ at_ ∧ at_ ≤ 255 := by
    simpa [Lit.wf, IntKind.min, IntKind.max, IntKind.signed, IntKind.bits] using h3
  obtain ⟨s, rfl⟩ : ∃ s : Nat, at_ = s := ⟨at_.toNat, by omega⟩
  refine ⟨l.length + 2, ?_⟩
  unfold doormanlaw01_TickMany.f
  simp only [awake_is, Option.bind_some, if_true, doormanlaw01_TickMany.j0]
  by_cases h : (l.length : Int) > 400
  · simp [h]
  · have hr := rounds l h2 s (by omega) (by omega) l.length (l.length + 1) 0 (by omega) (by omega) (by omega)
    rw [turned l s] at hr
    simp only [decide_eq_false h, Bool.false_eq_true, if_false]
    have z : cut ((l.take 0).sum) = 0 := by simp [cut]
    have z2 : cut (((List.range 0).map fun j => rd l (((j + s) % l.length : Nat) : Int)).sum) = 0 := by simp [cut]
    rw [z, z2] at hr
    refine hr.trans ?_
    simp

end Go.Proofs.Ytdfbakpodebehaa.Pure
