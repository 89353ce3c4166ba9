/- What lives now lives at each earlier time; what was given some time lives till it is over, but at the end of time. -/
import Derived.Test.YtdfbakpodebehaaPTickLivex1
namespace Go.Proofs.Ytdfbakpodebehaa.Pure
open Go.RowKit Go.Proofs.Ytdfbakpodebehaa.PTickLive Go.Proofs.YtdfbakpodebehaaW.PrintWords Go.Proofs.YtdfbakpodebehaaW.PrintLast

theorem u64_bd {a : Int} (h : (Lit.int .u64 a).wf = true) : 0 ≤ a ∧ a ≤ 18446744073709551615 := by
  simpa [Lit.wf, IntKind.min, IntKind.max, IntKind.signed, IntKind.bits] using h

theorem u64_in {a : Int} (h0 : 0 ≤ a) (h1 : a ≤ 18446744073709551615) : IntKind.u64.wrap a = a := by
  simp only [IntKind.wrap, IntKind.signed, IntKind.bits]
  simp
  omega

theorem add_is {a b : Int} (ha0 : 0 ≤ a) (ha1 : a ≤ 18446744073709551615) (hb0 : 0 ≤ b) :
    tick_Add.f a b = some (if a + b > 18446744073709551615 then 18446744073709551615 else a + b) := by
  unfold tick_Add.f
  rw [u64_in (a := 18446744073709551615 - a) (by omega) (by omega)]
  by_cases h : b > 18446744073709551615 - a
  · rw [if_pos h, if_pos (by omega)]
  · rw [if_neg h, if_neg (by omega), u64_in (by omega) (by omega)]

theorem awake_is : doormanlaw01_awake.f = some true := by
  unfold doormanlaw01_awake.f
  rw [add_is (by omega) (by omega) (by omega)]
  simp [tick_Late.f]

/-- The pure law. -/
theorem TickLive : doormanlaw01_TickLive.Pure := by
  intro a0 a1 a2 h0 h1 h2
  obtain ⟨l0, g0⟩ := u64_bd h0
  obtain ⟨l1, g1⟩ := u64_bd h1
  obtain ⟨l2, g2⟩ := u64_bd h2
  refine ⟨1, ?_⟩
  unfold doormanlaw01_TickLive.f
  simp only [awake_is, Option.bind_some, add_is l0 g0 l2, if_true, tick_Late.f, doormanlaw01_TickLive.j0]
  generalize hu : (if a0 + a2 > 18446744073709551615 then 18446744073709551615 else a0 + a2) = u
  have hu0 : a0 ≤ u := by rw [← hu]; split <;> omega
  by_cases h : a1 ≤ a0
  · rw [if_pos h]
    by_cases c : u ≤ a0
    · obtain rfl : u = a0 := by omega
      simp
    · have e1 : ¬ u ≤ a1 := by omega
      have e2 : u ≠ a0 := by omega
      simp [c, e1, e2]
  · rw [if_neg h]
    by_cases c : u ≤ a0
    · obtain rfl : u = a0 := by omega
      simp
    · have e2 : u ≠ a0 := by omega
      simp [c, e2]

end Go.Proofs.Ytdfbakpodebehaa.Pure
