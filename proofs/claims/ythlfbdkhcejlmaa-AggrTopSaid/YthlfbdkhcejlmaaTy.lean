/- The types of the seat, as the walk wants them. Written by a small program of this session (seat.py); the kernel holds each row against the program. -/
import Derived.Test.YthlfbdkhcejlmaaProg
import Derived.Test.YthlfbdkhcejlmaaSymZb
import Derived.KernelRfl
namespace Go.Proofs.Ythlfbdkhcejlmaa
open Go Go.Proofs.Ythlfbdkhcejlmaa.Sym
set_option maxRecDepth 100000
noncomputable abbrev P : Program := Try.prog
def T : TypeId → Option TI
  | 3 => some { desc := (.int .i64), size := 1, bytes := 8, zero := [.int .i64 0] }
  | 4 => some { desc := .bool, size := 1, bytes := 1, zero := [.bool false] }
  | 5 => some { desc := (.int .u8), size := 1, bytes := 1, zero := [.int .u8 0] }
  | 22 => some { desc := (.slice 30), size := 1, bytes := 24, zero := [.slice none 0 0] }
  | 23 => some { desc := (.int .u64), size := 1, bytes := 8, zero := [.int .u64 0] }
  | 30 => some { desc := (.struct #[{ name := "Id", type := 3, offset := 0, embedded := false, tag := "", pkgPath := "", byteOffset := 0 }, { name := "Status", type := 3, offset := 1, embedded := false, tag := "", pkgPath := "", byteOffset := 8 }, { name := "Prio", type := 3, offset := 2, embedded := false, tag := "", pkgPath := "", byteOffset := 16 }, { name := "Until", type := 23, offset := 3, embedded := false, tag := "", pkgPath := "", byteOffset := 24 }]), size := 4, bytes := 32, zero := [.int .i64 0, .int .i64 0, .int .i64 0, .int .u64 0] }
  | 33 => some { desc := (.struct #[{ name := "Status", type := 3, offset := 0, embedded := false, tag := "", pkgPath := "", byteOffset := 0 }, { name := "Prio", type := 3, offset := 1, embedded := false, tag := "", pkgPath := "", byteOffset := 8 }, { name := "Live", type := 3, offset := 2, embedded := false, tag := "", pkgPath := "", byteOffset := 16 }]), size := 3, bytes := 24, zero := [.int .i64 0, .int .i64 0, .int .i64 0] }
  | _ => none
theorem ty3 : (P.info? 3).map (fun i => (i.size, i.bytes, i.zero)) = some (1, 8, some (.int .i64 0)) := by kernel_rfl
theorem ty4 : (P.info? 4).map (fun i => (i.size, i.bytes, i.zero)) = some (1, 1, some (.bool false)) := by kernel_rfl
theorem ty5 : (P.info? 5).map (fun i => (i.size, i.bytes, i.zero)) = some (1, 1, some (.int .u8 0)) := by kernel_rfl
theorem ty22 : (P.info? 22).map (fun i => (i.size, i.bytes, i.zero)) = some (1, 24, some (.slice none 0 0)) := by kernel_rfl
theorem ty23 : (P.info? 23).map (fun i => (i.size, i.bytes, i.zero)) = some (1, 8, some (.int .u64 0)) := by kernel_rfl
theorem ty30 : (P.info? 30).map (fun i => (i.size, i.bytes, i.zero)) = some (4, 32, some (.agg #[.int .i64 0, .int .i64 0, .int .i64 0, .int .u64 0])) := by kernel_rfl
theorem ty33 : (P.info? 33).map (fun i => (i.size, i.bytes, i.zero)) = some (3, 24, some (.agg #[.int .i64 0, .int .i64 0, .int .i64 0])) := by kernel_rfl
theorem row_ok {t : TypeId} {d : TypeDesc} {size bytes : Nat} {z : Value} {zero : List Value} (hu : P.underlying t = some d) (hi : (P.info? t).map (fun i => (i.size, i.bytes, i.zero)) = some (size, bytes, some z)) (hz : z.cells.toList = zero) :
    P.underlying t = some d ∧ ∃ i z, P.info? t = some i ∧ i.size = size ∧ i.bytes = bytes ∧ i.zero = some z ∧ z.cells.toList = zero := by
  refine ⟨hu, ?_⟩
  cases h : P.info? t with
  | none => rw [h] at hi; cases hi
  | some i =>
    rw [h] at hi
    simp only [Option.map_some, Option.some.injEq, Prod.mk.injEq] at hi
    exact ⟨i, z, rfl, hi.1, hi.2.1, hi.2.2, hz⟩
theorem tyOk : TyOk P T := by
  intro t ti h
  unfold T at h
  split at h
  · cases h; exact row_ok Try.underlying3 ty3 rfl
  · cases h; exact row_ok Try.underlying4 ty4 rfl
  · cases h; exact row_ok Try.underlying5 ty5 rfl
  · cases h; exact row_ok Try.underlying22 ty22 rfl
  · cases h; exact row_ok Try.underlying23 ty23 rfl
  · cases h; exact row_ok Try.underlying30 ty30 rfl
  · cases h; exact row_ok Try.underlying33 ty33 rfl
  · cases h
theorem eqc30 {xs ys : List AV} : eqC P T 30 xs ys = (kOks [.int .i64, .int .i64, .int .i64, .int .u64] xs ys = true) := eqC_eq (by kernel_rfl) (by kernel_rfl)
theorem eqc33 {xs ys : List AV} : eqC P T 33 xs ys = (kOks [.int .i64, .int .i64, .int .i64] xs ys = true) := eqC_eq (by kernel_rfl) (by kernel_rfl)
end Go.Proofs.Ythlfbdkhcejlmaa
