/- The types of the seat, as the walk wants them. Written by a small program of this session (seat.py); the kernel holds each row against the program. -/
import Derived.Test.YtfkpjdcjjfpigaaProg
import Derived.Test.YtfkpjdcjjfpigaaSymZd
import Derived.KernelRfl
namespace Go.Proofs.Ytfkpjdcjjfpigaa
open Go Go.Proofs.Ytfkpjdcjjfpigaa.Sym
set_option maxRecDepth 100000
noncomputable abbrev P : Program := Try.prog
def T : TypeId → Option TI
  | 3 => some { desc := (.int .i64), size := 1, bytes := 8, zero := [.int .i64 0] }
  | 4 => some { desc := .bool, size := 1, bytes := 1, zero := [.bool false] }
  | 5 => some { desc := (.int .u8), size := 1, bytes := 1, zero := [.int .u8 0] }
  | 9 => some { desc := .string, size := 1, bytes := 16, zero := [.string .empty] }
  | 22 => some { desc := (.slice 31), size := 1, bytes := 24, zero := [.slice none 0 0] }
  | 25 => some { desc := (.slice 9), size := 1, bytes := 24, zero := [.slice none 0 0] }
  | 26 => some { desc := (.slice 3), size := 1, bytes := 24, zero := [.slice none 0 0] }
  | 28 => some { desc := (.struct #[{ name := "keys", type := 25, offset := 0, embedded := false, tag := "", pkgPath := "doorman/omap", byteOffset := 0 }, { name := "values", type := 26, offset := 1, embedded := false, tag := "", pkgPath := "doorman/omap", byteOffset := 24 }]), size := 2, bytes := 48, zero := [.slice none 0 0, .slice none 0 0] }
  | 31 => some { desc := (.struct #[{ name := "Out", type := 4, offset := 0, embedded := false, tag := "", pkgPath := "", byteOffset := 0 }, { name := "K", type := 9, offset := 1, embedded := false, tag := "", pkgPath := "", byteOffset := 8 }, { name := "V", type := 3, offset := 2, embedded := false, tag := "", pkgPath := "", byteOffset := 24 }]), size := 3, bytes := 32, zero := [.bool false, .string .empty, .int .i64 0] }
  | 38 => some { desc := (.slice 41), size := 1, bytes := 24, zero := [.slice none 0 0] }
  | 39 => some { desc := (.int .u64), size := 1, bytes := 8, zero := [.int .u64 0] }
  | 41 => some { desc := (.struct #[{ name := "Id", type := 3, offset := 0, embedded := false, tag := "", pkgPath := "", byteOffset := 0 }, { name := "Status", type := 3, offset := 1, embedded := false, tag := "", pkgPath := "", byteOffset := 8 }, { name := "Prio", type := 3, offset := 2, embedded := false, tag := "", pkgPath := "", byteOffset := 16 }, { name := "Until", type := 39, offset := 3, embedded := false, tag := "", pkgPath := "", byteOffset := 24 }]), size := 4, bytes := 32, zero := [.int .i64 0, .int .i64 0, .int .i64 0, .int .u64 0] }
  | 49 => some { desc := (.slice 39), size := 1, bytes := 24, zero := [.slice none 0 0] }
  | 51 => some { desc := (.struct #[{ name := "keys", type := 49, offset := 0, embedded := false, tag := "", pkgPath := "doorman/omap", byteOffset := 0 }, { name := "values", type := 26, offset := 1, embedded := false, tag := "", pkgPath := "doorman/omap", byteOffset := 24 }]), size := 2, bytes := 48, zero := [.slice none 0 0, .slice none 0 0] }
  | 57 => some { desc := (.slice 64), size := 1, bytes := 24, zero := [.slice none 0 0] }
  | 64 => some { desc := (.struct #[{ name := "K", type := 9, offset := 0, embedded := false, tag := "", pkgPath := "", byteOffset := 0 }, { name := "V", type := 3, offset := 1, embedded := false, tag := "", pkgPath := "", byteOffset := 16 }]), size := 2, bytes := 24, zero := [.string .empty, .int .i64 0] }
  | 77 => some { desc := (.slice 38), size := 1, bytes := 24, zero := [.slice none 0 0] }
  | 81 => some { desc := (.struct #[{ name := "keys", type := 26, offset := 0, embedded := false, tag := "", pkgPath := "doorman/omap", byteOffset := 0 }, { name := "values", type := 25, offset := 1, embedded := false, tag := "", pkgPath := "doorman/omap", byteOffset := 24 }]), size := 2, bytes := 48, zero := [.slice none 0 0, .slice none 0 0] }
  | 121 => some { desc := (.int .u64), size := 1, bytes := 8, zero := [.int .u64 0] }
  | _ => none
theorem ty3 : (P.info? 3).map (fun i => (i.size, i.bytes, i.zero)) = some (1, 8, some (.int .i64 0)) := by kernel_rfl
theorem ty4 : (P.info? 4).map (fun i => (i.size, i.bytes, i.zero)) = some (1, 1, some (.bool false)) := by kernel_rfl
theorem ty5 : (P.info? 5).map (fun i => (i.size, i.bytes, i.zero)) = some (1, 1, some (.int .u8 0)) := by kernel_rfl
theorem ty9 : (P.info? 9).map (fun i => (i.size, i.bytes, i.zero)) = some (1, 16, some (.string .empty)) := by kernel_rfl
theorem ty22 : (P.info? 22).map (fun i => (i.size, i.bytes, i.zero)) = some (1, 24, some (.slice none 0 0)) := by kernel_rfl
theorem ty25 : (P.info? 25).map (fun i => (i.size, i.bytes, i.zero)) = some (1, 24, some (.slice none 0 0)) := by kernel_rfl
theorem ty26 : (P.info? 26).map (fun i => (i.size, i.bytes, i.zero)) = some (1, 24, some (.slice none 0 0)) := by kernel_rfl
theorem ty28 : (P.info? 28).map (fun i => (i.size, i.bytes, i.zero)) = some (2, 48, some (.agg #[.slice none 0 0, .slice none 0 0])) := by kernel_rfl
theorem ty31 : (P.info? 31).map (fun i => (i.size, i.bytes, i.zero)) = some (3, 32, some (.agg #[.bool false, .string .empty, .int .i64 0])) := by kernel_rfl
theorem ty38 : (P.info? 38).map (fun i => (i.size, i.bytes, i.zero)) = some (1, 24, some (.slice none 0 0)) := by kernel_rfl
theorem ty39 : (P.info? 39).map (fun i => (i.size, i.bytes, i.zero)) = some (1, 8, some (.int .u64 0)) := by kernel_rfl
theorem ty41 : (P.info? 41).map (fun i => (i.size, i.bytes, i.zero)) = some (4, 32, some (.agg #[.int .i64 0, .int .i64 0, .int .i64 0, .int .u64 0])) := by kernel_rfl
theorem ty49 : (P.info? 49).map (fun i => (i.size, i.bytes, i.zero)) = some (1, 24, some (.slice none 0 0)) := by kernel_rfl
theorem ty51 : (P.info? 51).map (fun i => (i.size, i.bytes, i.zero)) = some (2, 48, some (.agg #[.slice none 0 0, .slice none 0 0])) := by kernel_rfl
theorem ty57 : (P.info? 57).map (fun i => (i.size, i.bytes, i.zero)) = some (1, 24, some (.slice none 0 0)) := by kernel_rfl
theorem ty64 : (P.info? 64).map (fun i => (i.size, i.bytes, i.zero)) = some (2, 24, some (.agg #[.string .empty, .int .i64 0])) := by kernel_rfl
theorem ty77 : (P.info? 77).map (fun i => (i.size, i.bytes, i.zero)) = some (1, 24, some (.slice none 0 0)) := by kernel_rfl
theorem ty81 : (P.info? 81).map (fun i => (i.size, i.bytes, i.zero)) = some (2, 48, some (.agg #[.slice none 0 0, .slice none 0 0])) := by kernel_rfl
theorem ty121 : (P.info? 121).map (fun i => (i.size, i.bytes, i.zero)) = some (1, 8, some (.int .u64 0)) := by kernel_rfl
theorem row_ok {t : TypeId} {d : TypeDesc} {size bytes : Nat} {z : Value} {zero : List Value} (hu : P.underlying t = some d) (hi : (P.info? t).map (fun i => (i.size, i.bytes, i.zero)) = some (size, bytes, some z)) (hz : z.cells.toList = zero) :
    P.underlying t = some d ∧ ∃ i z, P.info? t = some i ∧ i.size = size ∧ i.bytes = bytes ∧ i.zero = some z ∧ z.cells.toList = zero := by
  refine ⟨hu, ?_⟩
  cases h : P.info? t with
  | none => rw [h] at hi; cases hi
  | some i =>
    rw [h] at hi
    simp only [Option.map_some, Option.some.injEq, Prod.mk.injEq] at hi
    exact ⟨i, z, rfl, hi.1, hi.2.1, hi.2.2, hz⟩
theorem tyOk : TyOk P T := by
  intro t ti h
  unfold T at h
  split at h
  · cases h; exact row_ok Try.underlying3 ty3 rfl
  · cases h; exact row_ok Try.underlying4 ty4 rfl
  · cases h; exact row_ok Try.underlying5 ty5 rfl
  · cases h; exact row_ok Try.underlying9 ty9 rfl
  · cases h; exact row_ok Try.underlying22 ty22 rfl
  · cases h; exact row_ok Try.underlying25 ty25 rfl
  · cases h; exact row_ok Try.underlying26 ty26 rfl
  · cases h; exact row_ok Try.underlying28 ty28 rfl
  · cases h; exact row_ok Try.underlying31 ty31 rfl
  · cases h; exact row_ok Try.underlying38 ty38 rfl
  · cases h; exact row_ok Try.underlying39 ty39 rfl
  · cases h; exact row_ok Try.underlying41 ty41 rfl
  · cases h; exact row_ok Try.underlying49 ty49 rfl
  · cases h; exact row_ok Try.underlying51 ty51 rfl
  · cases h; exact row_ok Try.underlying57 ty57 rfl
  · cases h; exact row_ok Try.underlying64 ty64 rfl
  · cases h; exact row_ok Try.underlying77 ty77 rfl
  · cases h; exact row_ok Try.underlying81 ty81 rfl
  · cases h; exact row_ok Try.underlying121 ty121 rfl
  · cases h
theorem eqc31 {xs ys : List AV} : eqC P T 31 xs ys = (kOks [.bool, .str, .int .i64] xs ys = true) := eqC_eq (by kernel_rfl) (by kernel_rfl)
theorem eqc41 {xs ys : List AV} : eqC P T 41 xs ys = (kOks [.int .i64, .int .i64, .int .i64, .int .u64] xs ys = true) := eqC_eq (by kernel_rfl) (by kernel_rfl)
theorem eqc64 {xs ys : List AV} : eqC P T 64 xs ys = (kOks [.str, .int .i64] xs ys = true) := eqC_eq (by kernel_rfl) (by kernel_rfl)
end Go.Proofs.Ytfkpjdcjjfpigaa
