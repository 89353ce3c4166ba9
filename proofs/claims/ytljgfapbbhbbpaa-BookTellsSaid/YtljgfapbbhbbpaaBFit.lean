/- Acts and ops that are handed in. -/
import Derived.Test.YtljgfapbbhbbpaaBMade
namespace Go.Proofs.Ytljgfapbbhbbpaa
open Go Go.Proofs.Ytljgfapbbhbbpaa.Sym
set_option maxRecDepth 100000
set_option linter.unusedSimpArgs false
set_option linter.unusedVariables false

theorem fits_strs {ys : List AV} (h : ∀ y ∈ ys, ∃ zs, fitsAll [.str] zs ∧ y = pack false zs) : ∃ l : List ByteArray, ys = l.map fun x => str x := by
  induction ys with
  | nil => exact ⟨[], rfl⟩
  | cons y ys ih =>
    obtain ⟨l, rfl⟩ := ih (fun z hz => h z (List.mem_cons_of_mem _ hz))
    obtain ⟨zs, ⟨x, r, rfl, ⟨s, rfl, _⟩, rfl⟩, rfl⟩ := h y List.mem_cons_self
    exact ⟨s :: l, rfl⟩
theorem fits_op {zs : List AV} (h : fitsAll [.int .i64, .str, .int .i64, .int .i64, .int .i64, .int .u64, .sl 1 false [.str]] zs) : ∃ o : Opb, AV.agg zs = o.av := by
  obtain ⟨_, _, rfl, ⟨a, rfl, _⟩, _, _, rfl, ⟨u, rfl, _⟩, _, _, rfl, ⟨b, rfl, _⟩, _, _, rfl, ⟨c, rfl, _⟩, _, _, rfl, ⟨d, rfl, _⟩, _, _, rfl, ⟨t, rfl, _⟩, _, _, rfl, ⟨ys, rfl, _, hys⟩, rfl⟩ := h
  obtain ⟨us, rfl⟩ := fits_strs hys
  exact ⟨⟨a, u, b, c, d, t, us⟩, rfl⟩
theorem fits_bacts {ys : List AV} (h : ∀ y ∈ ys, ∃ zs, fitsAll [.bool, .int .i64, .str, .int .i64, .int .i64, .int .i64, .int .u64, .sl 1 false [.str], .int .u64] zs ∧ y = pack true zs) : ∃ l : List ActB, ys = bacts l := by
  induction ys with
  | nil => exact ⟨[], rfl⟩
  | cons y ys ih =>
    obtain ⟨l, rfl⟩ := ih (fun z hz => h z (List.mem_cons_of_mem _ hz))
    obtain ⟨zs, ⟨_, _, rfl, ⟨w, rfl⟩, _, _, rfl, ⟨a, rfl, _⟩, _, _, rfl, ⟨u, rfl, _⟩, _, _, rfl, ⟨b, rfl, _⟩, _, _, rfl, ⟨c, rfl, _⟩, _, _, rfl, ⟨d, rfl, _⟩, _, _, rfl, ⟨t, rfl, _⟩, _, _, rfl, ⟨vs, rfl, _, hvs⟩, _, _, rfl, ⟨y, rfl, _⟩, rfl⟩, rfl⟩ := h y List.mem_cons_self
    obtain ⟨us, rfl⟩ := fits_strs hvs
    exact ⟨⟨w, ⟨a, u, b, c, d, t, us⟩, y⟩ :: l, rfl⟩
theorem lit_u8 {n : Int} (h : (Lit.int .u8 n).wf = true) : 0 ≤ n ∧ n ≤ 255 := by
  simpa [Lit.wf, IntKind.min, IntKind.max, IntKind.signed, IntKind.bits] using h
end Go.Proofs.Ytljgfapbbhbbpaa
