/- The types of the seat, as the walk wants them. Written by a small program of this session (seat.py); the kernel holds each row against the program. -/
import Derived.Test.YthlfbdkhcejlmaaDoorProg
import Derived.Test.YthlfbdkhcejlmaaDoorSymZd
import Derived.KernelRfl
namespace Go.Proofs.YthlfbdkhcejlmaaDoor
open Go Go.Proofs.YthlfbdkhcejlmaaDoor.Sym
set_option maxRecDepth 100000
noncomputable abbrev P : Program := Tryd.prog
def T : TypeId → Option TI
  | 3 => some { desc := (.int .i64), size := 1, bytes := 8, zero := [.int .i64 0] }
  | 5 => some { desc := (.int .u8), size := 1, bytes := 1, zero := [.int .u8 0] }
  | 9 => some { desc := .string, size := 1, bytes := 16, zero := [.string .empty] }
  | 22 => some { desc := (.slice 5), size := 1, bytes := 24, zero := [.slice none 0 0] }
  | 25 => some { desc := (.int .u64), size := 1, bytes := 8, zero := [.int .u64 0] }
  | 27 => some { desc := (.struct #[{ name := "Stripes", type := 3, offset := 0, embedded := false, tag := "", pkgPath := "", byteOffset := 0 }, { name := "Sessions", type := 3, offset := 1, embedded := false, tag := "", pkgPath := "", byteOffset := 8 }, { name := "Queue", type := 3, offset := 2, embedded := false, tag := "", pkgPath := "", byteOffset := 16 }, { name := "Watches", type := 3, offset := 3, embedded := false, tag := "", pkgPath := "", byteOffset := 24 }, { name := "Retries", type := 3, offset := 4, embedded := false, tag := "", pkgPath := "", byteOffset := 32 }, { name := "Epochs", type := 25, offset := 5, embedded := false, tag := "", pkgPath := "", byteOffset := 40 }, { name := "Start", type := 25, offset := 6, embedded := false, tag := "", pkgPath := "", byteOffset := 48 }]), size := 7, bytes := 56, zero := [.int .i64 0, .int .i64 0, .int .i64 0, .int .i64 0, .int .i64 0, .int .u64 0, .int .u64 0] }
  | 28 => some { desc := (.slice 41), size := 1, bytes := 24, zero := [.slice none 0 0] }
  | 29 => some { desc := (.slice 34), size := 1, bytes := 24, zero := [.slice none 0 0] }
  | 31 => some { desc := (.struct #[{ name := "Config", type := 27, offset := 0, embedded := false, tag := "", pkgPath := "", byteOffset := 0 }, { name := "Clients", type := 28, offset := 7, embedded := false, tag := "", pkgPath := "", byteOffset := 56 }, { name := "Picks", type := 29, offset := 8, embedded := false, tag := "", pkgPath := "", byteOffset := 80 }]), size := 9, bytes := 104, zero := [.int .i64 0, .int .i64 0, .int .i64 0, .int .i64 0, .int .i64 0, .int .u64 0, .int .u64 0, .slice none 0 0, .slice none 0 0] }
  | 34 => some { desc := (.struct #[{ name := "Kind", type := 3, offset := 0, embedded := false, tag := "", pkgPath := "", byteOffset := 0 }, { name := "Who", type := 3, offset := 1, embedded := false, tag := "", pkgPath := "", byteOffset := 8 }, { name := "By", type := 25, offset := 2, embedded := false, tag := "", pkgPath := "", byteOffset := 16 }]), size := 3, bytes := 24, zero := [.int .i64 0, .int .i64 0, .int .u64 0] }
  | 41 => some { desc := (.slice 45), size := 1, bytes := 24, zero := [.slice none 0 0] }
  | 43 => some { desc := (.slice 9), size := 1, bytes := 24, zero := [.slice none 0 0] }
  | 45 => some { desc := (.struct #[{ name := "Kind", type := 3, offset := 0, embedded := false, tag := "", pkgPath := "", byteOffset := 0 }, { name := "User", type := 9, offset := 1, embedded := false, tag := "", pkgPath := "", byteOffset := 8 }, { name := "Id", type := 3, offset := 2, embedded := false, tag := "", pkgPath := "", byteOffset := 24 }, { name := "Status", type := 3, offset := 3, embedded := false, tag := "", pkgPath := "", byteOffset := 32 }, { name := "Prio", type := 3, offset := 4, embedded := false, tag := "", pkgPath := "", byteOffset := 40 }, { name := "Ttl", type := 25, offset := 5, embedded := false, tag := "", pkgPath := "", byteOffset := 48 }, { name := "Users", type := 43, offset := 6, embedded := false, tag := "", pkgPath := "", byteOffset := 56 }]), size := 7, bytes := 80, zero := [.int .i64 0, .string .empty, .int .i64 0, .int .i64 0, .int .i64 0, .int .u64 0, .slice none 0 0] }
  | 51 => some { desc := (.pointer 53), size := 1, bytes := 8, zero := [.pointer none] }
  | 53 => some { desc := (.struct #[{ name := "b", type := 22, offset := 0, embedded := false, tag := "", pkgPath := "doorman/ocode", byteOffset := 0 }, { name := "at", type := 3, offset := 1, embedded := false, tag := "", pkgPath := "doorman/ocode", byteOffset := 24 }]), size := 2, bytes := 32, zero := [.slice none 0 0, .int .i64 0] }
  | 60 => some { desc := (.array 10 9), size := 10, bytes := 160, zero := [.string .empty, .string .empty, .string .empty, .string .empty, .string .empty, .string .empty, .string .empty, .string .empty, .string .empty, .string .empty] }
  | _ => none
theorem ty3 : (P.info? 3).map (fun i => (i.size, i.bytes, i.zero)) = some (1, 8, some (.int .i64 0)) := by kernel_rfl
theorem ty5 : (P.info? 5).map (fun i => (i.size, i.bytes, i.zero)) = some (1, 1, some (.int .u8 0)) := by kernel_rfl
theorem ty9 : (P.info? 9).map (fun i => (i.size, i.bytes, i.zero)) = some (1, 16, some (.string .empty)) := by kernel_rfl
theorem ty22 : (P.info? 22).map (fun i => (i.size, i.bytes, i.zero)) = some (1, 24, some (.slice none 0 0)) := by kernel_rfl
theorem ty25 : (P.info? 25).map (fun i => (i.size, i.bytes, i.zero)) = some (1, 8, some (.int .u64 0)) := by kernel_rfl
theorem ty27 : (P.info? 27).map (fun i => (i.size, i.bytes, i.zero)) = some (7, 56, some (.agg #[.int .i64 0, .int .i64 0, .int .i64 0, .int .i64 0, .int .i64 0, .int .u64 0, .int .u64 0])) := by kernel_rfl
theorem ty28 : (P.info? 28).map (fun i => (i.size, i.bytes, i.zero)) = some (1, 24, some (.slice none 0 0)) := by kernel_rfl
theorem ty29 : (P.info? 29).map (fun i => (i.size, i.bytes, i.zero)) = some (1, 24, some (.slice none 0 0)) := by kernel_rfl
theorem ty31 : (P.info? 31).map (fun i => (i.size, i.bytes, i.zero)) = some (9, 104, some (.agg #[.int .i64 0, .int .i64 0, .int .i64 0, .int .i64 0, .int .i64 0, .int .u64 0, .int .u64 0, .slice none 0 0, .slice none 0 0])) := by kernel_rfl
theorem ty34 : (P.info? 34).map (fun i => (i.size, i.bytes, i.zero)) = some (3, 24, some (.agg #[.int .i64 0, .int .i64 0, .int .u64 0])) := by kernel_rfl
theorem ty41 : (P.info? 41).map (fun i => (i.size, i.bytes, i.zero)) = some (1, 24, some (.slice none 0 0)) := by kernel_rfl
theorem ty43 : (P.info? 43).map (fun i => (i.size, i.bytes, i.zero)) = some (1, 24, some (.slice none 0 0)) := by kernel_rfl
theorem ty45 : (P.info? 45).map (fun i => (i.size, i.bytes, i.zero)) = some (7, 80, some (.agg #[.int .i64 0, .string .empty, .int .i64 0, .int .i64 0, .int .i64 0, .int .u64 0, .slice none 0 0])) := by kernel_rfl
theorem ty51 : (P.info? 51).map (fun i => (i.size, i.bytes, i.zero)) = some (1, 8, some (.pointer none)) := by kernel_rfl
theorem ty53 : (P.info? 53).map (fun i => (i.size, i.bytes, i.zero)) = some (2, 32, some (.agg #[.slice none 0 0, .int .i64 0])) := by kernel_rfl
theorem ty60 : (P.info? 60).map (fun i => (i.size, i.bytes, i.zero)) = some (10, 160, some (.agg #[.string .empty, .string .empty, .string .empty, .string .empty, .string .empty, .string .empty, .string .empty, .string .empty, .string .empty, .string .empty])) := by kernel_rfl
theorem row_ok {t : TypeId} {d : TypeDesc} {size bytes : Nat} {z : Value} {zero : List Value} (hu : P.underlying t = some d) (hi : (P.info? t).map (fun i => (i.size, i.bytes, i.zero)) = some (size, bytes, some z)) (hz : z.cells.toList = zero) :
    P.underlying t = some d ∧ ∃ i z, P.info? t = some i ∧ i.size = size ∧ i.bytes = bytes ∧ i.zero = some z ∧ z.cells.toList = zero := by
  refine ⟨hu, ?_⟩
  cases h : P.info? t with
  | none => rw [h] at hi; cases hi
  | some i =>
    rw [h] at hi
    simp only [Option.map_some, Option.some.injEq, Prod.mk.injEq] at hi
    exact ⟨i, z, rfl, hi.1, hi.2.1, hi.2.2, hz⟩
theorem tyOk : TyOk P T := by
  intro t ti h
  unfold T at h
  split at h
  · cases h; exact row_ok Tryd.underlying3 ty3 rfl
  · cases h; exact row_ok Tryd.underlying5 ty5 rfl
  · cases h; exact row_ok Tryd.underlying9 ty9 rfl
  · cases h; exact row_ok Tryd.underlying22 ty22 rfl
  · cases h; exact row_ok Tryd.underlying25 ty25 rfl
  · cases h; exact row_ok Tryd.underlying27 ty27 rfl
  · cases h; exact row_ok Tryd.underlying28 ty28 rfl
  · cases h; exact row_ok Tryd.underlying29 ty29 rfl
  · cases h; exact row_ok Tryd.underlying31 ty31 rfl
  · cases h; exact row_ok Tryd.underlying34 ty34 rfl
  · cases h; exact row_ok Tryd.underlying41 ty41 rfl
  · cases h; exact row_ok Tryd.underlying43 ty43 rfl
  · cases h; exact row_ok Tryd.underlying45 ty45 rfl
  · cases h; exact row_ok Tryd.underlying51 ty51 rfl
  · cases h; exact row_ok Tryd.underlying53 ty53 rfl
  · cases h; exact row_ok Tryd.underlying60 ty60 rfl
  · cases h
theorem eqc27 {xs ys : List AV} : eqC P T 27 xs ys = (kOks [.int .i64, .int .i64, .int .i64, .int .i64, .int .i64, .int .u64, .int .u64] xs ys = true) := eqC_eq (by kernel_rfl) (by kernel_rfl)
theorem eqc34 {xs ys : List AV} : eqC P T 34 xs ys = (kOks [.int .i64, .int .i64, .int .u64] xs ys = true) := eqC_eq (by kernel_rfl) (by kernel_rfl)
end Go.Proofs.YthlfbdkhcejlmaaDoor
