/- The types of the seat, as the walk wants them. Written by a small program of this session (seat.py); the kernel holds each row against the program. -/
import Derived.Test.YtljgfapbbhbbpaaProg
import Derived.Test.YtljgfapbbhbbpaaSymZd
import Derived.KernelRfl
namespace Go.Proofs.Ytljgfapbbhbbpaa
open Go Go.Proofs.Ytljgfapbbhbbpaa.Sym
set_option maxRecDepth 100000
noncomputable abbrev P : Program := Try.prog
def T : TypeId → Option TI
  | 3 => some { desc := (.int .i64), size := 1, bytes := 8, zero := [.int .i64 0] }
  | 4 => some { desc := .bool, size := 1, bytes := 1, zero := [.bool false] }
  | 5 => some { desc := (.int .u8), size := 1, bytes := 1, zero := [.int .u8 0] }
  | 9 => some { desc := .string, size := 1, bytes := 16, zero := [.string .empty] }
  | 23 => some { desc := (.pointer 117), size := 1, bytes := 8, zero := [.pointer none] }
  | 28 => some { desc := (.struct #[{ name := "Status", type := 3, offset := 0, embedded := false, tag := "", pkgPath := "", byteOffset := 0 }, { name := "Prio", type := 3, offset := 1, embedded := false, tag := "", pkgPath := "", byteOffset := 8 }, { name := "Live", type := 3, offset := 2, embedded := false, tag := "", pkgPath := "", byteOffset := 16 }]), size := 3, bytes := 24, zero := [.int .i64 0, .int .i64 0, .int .i64 0] }
  | 30 => some { desc := (.struct #[{ name := "User", type := 9, offset := 0, embedded := false, tag := "", pkgPath := "", byteOffset := 0 }, { name := "Old", type := 28, offset := 1, embedded := false, tag := "", pkgPath := "", byteOffset := 16 }, { name := "New", type := 28, offset := 4, embedded := false, tag := "", pkgPath := "", byteOffset := 40 }]), size := 7, bytes := 64, zero := [.string .empty, .int .i64 0, .int .i64 0, .int .i64 0, .int .i64 0, .int .i64 0, .int .i64 0] }
  | 31 => some { desc := (.slice 30), size := 1, bytes := 24, zero := [.slice none 0 0] }
  | 32 => some { desc := (.int .u64), size := 1, bytes := 8, zero := [.int .u64 0] }
  | 33 => some { desc := (.slice 37), size := 1, bytes := 24, zero := [.slice none 0 0] }
  | 37 => some { desc := (.struct #[{ name := "User", type := 9, offset := 0, embedded := false, tag := "", pkgPath := "", byteOffset := 0 }, { name := "Old", type := 28, offset := 1, embedded := false, tag := "", pkgPath := "", byteOffset := 16 }, { name := "New", type := 28, offset := 4, embedded := false, tag := "", pkgPath := "", byteOffset := 40 }, { name := "Seq", type := 32, offset := 7, embedded := false, tag := "", pkgPath := "", byteOffset := 64 }]), size := 8, bytes := 72, zero := [.string .empty, .int .i64 0, .int .i64 0, .int .i64 0, .int .i64 0, .int .i64 0, .int .i64 0, .int .u64 0] }
  | 39 => some { desc := (.slice 33), size := 1, bytes := 24, zero := [.slice none 0 0] }
  | 43 => some { desc := (.slice 44), size := 1, bytes := 24, zero := [.slice none 0 0] }
  | 44 => some { desc := (.slice 32), size := 1, bytes := 24, zero := [.slice none 0 0] }
  | 46 => some { desc := (.slice 55), size := 1, bytes := 24, zero := [.slice none 0 0] }
  | 48 => some { desc := (.pointer 53), size := 1, bytes := 8, zero := [.pointer none] }
  | 49 => some { desc := (.slice 128), size := 1, bytes := 24, zero := [.slice none 0 0] }
  | 50 => some { desc := (.array 8 33), size := 8, bytes := 192, zero := [.slice none 0 0, .slice none 0 0, .slice none 0 0, .slice none 0 0, .slice none 0 0, .slice none 0 0, .slice none 0 0, .slice none 0 0] }
  | 51 => some { desc := (.array 8 4), size := 8, bytes := 8, zero := [.bool false, .bool false, .bool false, .bool false, .bool false, .bool false, .bool false, .bool false] }
  | 53 => some { desc := (.struct #[{ name := "Room", type := 3, offset := 0, embedded := false, tag := "", pkgPath := "", byteOffset := 0 }, { name := "Pairs", type := 49, offset := 1, embedded := false, tag := "", pkgPath := "", byteOffset := 8 }, { name := "Queues", type := 50, offset := 2, embedded := false, tag := "", pkgPath := "", byteOffset := 32 }, { name := "Lost", type := 51, offset := 10, embedded := false, tag := "", pkgPath := "", byteOffset := 224 }]), size := 18, bytes := 232, zero := [.int .i64 0, .slice none 0 0, .slice none 0 0, .slice none 0 0, .slice none 0 0, .slice none 0 0, .slice none 0 0, .slice none 0 0, .slice none 0 0, .slice none 0 0, .bool false, .bool false, .bool false, .bool false, .bool false, .bool false, .bool false, .bool false] }
  | 55 => some { desc := (.struct #[{ name := "Do", type := 5, offset := 0, embedded := false, tag := "", pkgPath := "", byteOffset := 0 }, { name := "Who", type := 3, offset := 1, embedded := false, tag := "", pkgPath := "", byteOffset := 8 }, { name := "User", type := 9, offset := 2, embedded := false, tag := "", pkgPath := "", byteOffset := 16 }, { name := "Live", type := 3, offset := 3, embedded := false, tag := "", pkgPath := "", byteOffset := 32 }, { name := "Seq", type := 32, offset := 4, embedded := false, tag := "", pkgPath := "", byteOffset := 40 }]), size := 5, bytes := 48, zero := [.int .u8 0, .int .i64 0, .string .empty, .int .i64 0, .int .u64 0] }
  | 57 => some { desc := (.struct #[{ name := "User", type := 9, offset := 0, embedded := false, tag := "", pkgPath := "", byteOffset := 0 }, { name := "Old", type := 28, offset := 1, embedded := false, tag := "", pkgPath := "", byteOffset := 16 }, { name := "New", type := 28, offset := 4, embedded := false, tag := "", pkgPath := "", byteOffset := 40 }]), size := 7, bytes := 64, zero := [.string .empty, .int .i64 0, .int .i64 0, .int .i64 0, .int .i64 0, .int .i64 0, .int .i64 0] }
  | 58 => some { desc := (.slice 57), size := 1, bytes := 24, zero := [.slice none 0 0] }
  | 62 => some { desc := (.slice 9), size := 1, bytes := 24, zero := [.slice none 0 0] }
  | 65 => some { desc := (.slice 75), size := 1, bytes := 24, zero := [.slice none 0 0] }
  | 67 => some { desc := (.slice 87), size := 1, bytes := 24, zero := [.slice none 0 0] }
  | 69 => some { desc := (.struct #[{ name := "keys", type := 62, offset := 0, embedded := false, tag := "", pkgPath := "doorman/omap", byteOffset := 0 }, { name := "values", type := 67, offset := 1, embedded := false, tag := "", pkgPath := "doorman/omap", byteOffset := 24 }]), size := 2, bytes := 48, zero := [.slice none 0 0, .slice none 0 0] }
  | 70 => some { desc := (.slice 28), size := 1, bytes := 24, zero := [.slice none 0 0] }
  | 73 => some { desc := (.struct #[{ name := "Kind", type := 3, offset := 0, embedded := false, tag := "", pkgPath := "", byteOffset := 0 }, { name := "User", type := 9, offset := 1, embedded := false, tag := "", pkgPath := "", byteOffset := 8 }, { name := "Id", type := 3, offset := 2, embedded := false, tag := "", pkgPath := "", byteOffset := 24 }, { name := "Status", type := 3, offset := 3, embedded := false, tag := "", pkgPath := "", byteOffset := 32 }, { name := "Prio", type := 3, offset := 4, embedded := false, tag := "", pkgPath := "", byteOffset := 40 }, { name := "Ttl", type := 32, offset := 5, embedded := false, tag := "", pkgPath := "", byteOffset := 48 }, { name := "Users", type := 62, offset := 6, embedded := false, tag := "", pkgPath := "", byteOffset := 56 }]), size := 7, bytes := 80, zero := [.int .i64 0, .string .empty, .int .i64 0, .int .i64 0, .int .i64 0, .int .u64 0, .slice none 0 0] }
  | 75 => some { desc := (.struct #[{ name := "Sweep", type := 4, offset := 0, embedded := false, tag := "", pkgPath := "", byteOffset := 0 }, { name := "Op", type := 73, offset := 1, embedded := false, tag := "", pkgPath := "", byteOffset := 8 }, { name := "By", type := 32, offset := 8, embedded := false, tag := "", pkgPath := "", byteOffset := 88 }]), size := 9, bytes := 96, zero := [.bool false, .int .i64 0, .string .empty, .int .i64 0, .int .i64 0, .int .i64 0, .int .u64 0, .slice none 0 0, .int .u64 0] }
  | 85 => some { desc := (.slice 91), size := 1, bytes := 24, zero := [.slice none 0 0] }
  | 87 => some { desc := (.struct #[{ name := "Sessions", type := 85, offset := 0, embedded := false, tag := "", pkgPath := "", byteOffset := 0 }, { name := "Told", type := 28, offset := 1, embedded := false, tag := "", pkgPath := "", byteOffset := 24 }]), size := 4, bytes := 48, zero := [.slice none 0 0, .int .i64 0, .int .i64 0, .int .i64 0] }
  | 91 => some { desc := (.struct #[{ name := "Id", type := 3, offset := 0, embedded := false, tag := "", pkgPath := "", byteOffset := 0 }, { name := "Status", type := 3, offset := 1, embedded := false, tag := "", pkgPath := "", byteOffset := 8 }, { name := "Prio", type := 3, offset := 2, embedded := false, tag := "", pkgPath := "", byteOffset := 16 }, { name := "Until", type := 32, offset := 3, embedded := false, tag := "", pkgPath := "", byteOffset := 24 }]), size := 4, bytes := 32, zero := [.int .i64 0, .int .i64 0, .int .i64 0, .int .u64 0] }
  | 93 => some { desc := (.slice 96), size := 1, bytes := 24, zero := [.slice none 0 0] }
  | 96 => some { desc := (.struct #[{ name := "Name", type := 9, offset := 0, embedded := false, tag := "", pkgPath := "", byteOffset := 0 }, { name := "Sessions", type := 85, offset := 1, embedded := false, tag := "", pkgPath := "", byteOffset := 16 }, { name := "Told", type := 28, offset := 2, embedded := false, tag := "", pkgPath := "", byteOffset := 40 }]), size := 5, bytes := 64, zero := [.string .empty, .slice none 0 0, .int .i64 0, .int .i64 0, .int .i64 0] }
  | 111 => some { desc := (.slice 120), size := 1, bytes := 24, zero := [.slice none 0 0] }
  | 113 => some { desc := (.struct #[{ name := "keys", type := 62, offset := 0, embedded := false, tag := "", pkgPath := "doorman/omap", byteOffset := 0 }, { name := "values", type := 111, offset := 1, embedded := false, tag := "", pkgPath := "doorman/omap", byteOffset := 24 }]), size := 2, bytes := 48, zero := [.slice none 0 0, .slice none 0 0] }
  | 114 => some { desc := (.pointer 157), size := 1, bytes := 8, zero := [.pointer none] }
  | 115 => some { desc := (.array 8 114), size := 8, bytes := 64, zero := [.pointer none, .pointer none, .pointer none, .pointer none, .pointer none, .pointer none, .pointer none, .pointer none] }
  | 117 => some { desc := (.struct #[{ name := "watches", type := 113, offset := 0, embedded := false, tag := "", pkgPath := "doorman/feed", byteOffset := 0 }, { name := "queues", type := 115, offset := 2, embedded := false, tag := "", pkgPath := "doorman/feed", byteOffset := 48 }]), size := 10, bytes := 112, zero := [.slice none 0 0, .slice none 0 0, .pointer none, .pointer none, .pointer none, .pointer none, .pointer none, .pointer none, .pointer none, .pointer none] }
  | 120 => some { desc := (.int .u32), size := 1, bytes := 4, zero := [.int .u32 0] }
  | 126 => some { desc := (.slice 3), size := 1, bytes := 24, zero := [.slice none 0 0] }
  | 128 => some { desc := (.struct #[{ name := "Who", type := 3, offset := 0, embedded := false, tag := "", pkgPath := "", byteOffset := 0 }, { name := "User", type := 9, offset := 1, embedded := false, tag := "", pkgPath := "", byteOffset := 8 }]), size := 2, bytes := 24, zero := [.int .i64 0, .string .empty] }
  | 157 => some { desc := (.struct #[{ name := "room", type := 3, offset := 0, embedded := false, tag := "", pkgPath := "doorman/ring", byteOffset := 0 }, { name := "l", type := 33, offset := 1, embedded := false, tag := "", pkgPath := "doorman/ring", byteOffset := 8 }, { name := "lost", type := 4, offset := 2, embedded := false, tag := "", pkgPath := "doorman/ring", byteOffset := 32 }]), size := 3, bytes := 40, zero := [.int .i64 0, .slice none 0 0, .bool false] }
  | 193 => some { desc := (.int .u64), size := 1, bytes := 8, zero := [.int .u64 0] }
  | _ => none
theorem ty3 : (P.info? 3).map (fun i => (i.size, i.bytes, i.zero)) = some (1, 8, some (.int .i64 0)) := by kernel_rfl
theorem ty4 : (P.info? 4).map (fun i => (i.size, i.bytes, i.zero)) = some (1, 1, some (.bool false)) := by kernel_rfl
theorem ty5 : (P.info? 5).map (fun i => (i.size, i.bytes, i.zero)) = some (1, 1, some (.int .u8 0)) := by kernel_rfl
theorem ty9 : (P.info? 9).map (fun i => (i.size, i.bytes, i.zero)) = some (1, 16, some (.string .empty)) := by kernel_rfl
theorem ty23 : (P.info? 23).map (fun i => (i.size, i.bytes, i.zero)) = some (1, 8, some (.pointer none)) := by kernel_rfl
theorem ty28 : (P.info? 28).map (fun i => (i.size, i.bytes, i.zero)) = some (3, 24, some (.agg #[.int .i64 0, .int .i64 0, .int .i64 0])) := by kernel_rfl
theorem ty30 : (P.info? 30).map (fun i => (i.size, i.bytes, i.zero)) = some (7, 64, some (.agg #[.string .empty, .int .i64 0, .int .i64 0, .int .i64 0, .int .i64 0, .int .i64 0, .int .i64 0])) := by kernel_rfl
theorem ty31 : (P.info? 31).map (fun i => (i.size, i.bytes, i.zero)) = some (1, 24, some (.slice none 0 0)) := by kernel_rfl
theorem ty32 : (P.info? 32).map (fun i => (i.size, i.bytes, i.zero)) = some (1, 8, some (.int .u64 0)) := by kernel_rfl
theorem ty33 : (P.info? 33).map (fun i => (i.size, i.bytes, i.zero)) = some (1, 24, some (.slice none 0 0)) := by kernel_rfl
theorem ty37 : (P.info? 37).map (fun i => (i.size, i.bytes, i.zero)) = some (8, 72, some (.agg #[.string .empty, .int .i64 0, .int .i64 0, .int .i64 0, .int .i64 0, .int .i64 0, .int .i64 0, .int .u64 0])) := by kernel_rfl
theorem ty39 : (P.info? 39).map (fun i => (i.size, i.bytes, i.zero)) = some (1, 24, some (.slice none 0 0)) := by kernel_rfl
theorem ty43 : (P.info? 43).map (fun i => (i.size, i.bytes, i.zero)) = some (1, 24, some (.slice none 0 0)) := by kernel_rfl
theorem ty44 : (P.info? 44).map (fun i => (i.size, i.bytes, i.zero)) = some (1, 24, some (.slice none 0 0)) := by kernel_rfl
theorem ty46 : (P.info? 46).map (fun i => (i.size, i.bytes, i.zero)) = some (1, 24, some (.slice none 0 0)) := by kernel_rfl
theorem ty48 : (P.info? 48).map (fun i => (i.size, i.bytes, i.zero)) = some (1, 8, some (.pointer none)) := by kernel_rfl
theorem ty49 : (P.info? 49).map (fun i => (i.size, i.bytes, i.zero)) = some (1, 24, some (.slice none 0 0)) := by kernel_rfl
theorem ty50 : (P.info? 50).map (fun i => (i.size, i.bytes, i.zero)) = some (8, 192, some (.agg #[.slice none 0 0, .slice none 0 0, .slice none 0 0, .slice none 0 0, .slice none 0 0, .slice none 0 0, .slice none 0 0, .slice none 0 0])) := by kernel_rfl
theorem ty51 : (P.info? 51).map (fun i => (i.size, i.bytes, i.zero)) = some (8, 8, some (.agg #[.bool false, .bool false, .bool false, .bool false, .bool false, .bool false, .bool false, .bool false])) := by kernel_rfl
theorem ty53 : (P.info? 53).map (fun i => (i.size, i.bytes, i.zero)) = some (18, 232, some (.agg #[.int .i64 0, .slice none 0 0, .slice none 0 0, .slice none 0 0, .slice none 0 0, .slice none 0 0, .slice none 0 0, .slice none 0 0, .slice none 0 0, .slice none 0 0, .bool false, .bool false, .bool false, .bool false, .bool false, .bool false, .bool false, .bool false])) := by kernel_rfl
theorem ty55 : (P.info? 55).map (fun i => (i.size, i.bytes, i.zero)) = some (5, 48, some (.agg #[.int .u8 0, .int .i64 0, .string .empty, .int .i64 0, .int .u64 0])) := by kernel_rfl
theorem ty57 : (P.info? 57).map (fun i => (i.size, i.bytes, i.zero)) = some (7, 64, some (.agg #[.string .empty, .int .i64 0, .int .i64 0, .int .i64 0, .int .i64 0, .int .i64 0, .int .i64 0])) := by kernel_rfl
theorem ty58 : (P.info? 58).map (fun i => (i.size, i.bytes, i.zero)) = some (1, 24, some (.slice none 0 0)) := by kernel_rfl
theorem ty62 : (P.info? 62).map (fun i => (i.size, i.bytes, i.zero)) = some (1, 24, some (.slice none 0 0)) := by kernel_rfl
theorem ty65 : (P.info? 65).map (fun i => (i.size, i.bytes, i.zero)) = some (1, 24, some (.slice none 0 0)) := by kernel_rfl
theorem ty67 : (P.info? 67).map (fun i => (i.size, i.bytes, i.zero)) = some (1, 24, some (.slice none 0 0)) := by kernel_rfl
theorem ty69 : (P.info? 69).map (fun i => (i.size, i.bytes, i.zero)) = some (2, 48, some (.agg #[.slice none 0 0, .slice none 0 0])) := by kernel_rfl
theorem ty70 : (P.info? 70).map (fun i => (i.size, i.bytes, i.zero)) = some (1, 24, some (.slice none 0 0)) := by kernel_rfl
theorem ty73 : (P.info? 73).map (fun i => (i.size, i.bytes, i.zero)) = some (7, 80, some (.agg #[.int .i64 0, .string .empty, .int .i64 0, .int .i64 0, .int .i64 0, .int .u64 0, .slice none 0 0])) := by kernel_rfl
theorem ty75 : (P.info? 75).map (fun i => (i.size, i.bytes, i.zero)) = some (9, 96, some (.agg #[.bool false, .int .i64 0, .string .empty, .int .i64 0, .int .i64 0, .int .i64 0, .int .u64 0, .slice none 0 0, .int .u64 0])) := by kernel_rfl
theorem ty85 : (P.info? 85).map (fun i => (i.size, i.bytes, i.zero)) = some (1, 24, some (.slice none 0 0)) := by kernel_rfl
theorem ty87 : (P.info? 87).map (fun i => (i.size, i.bytes, i.zero)) = some (4, 48, some (.agg #[.slice none 0 0, .int .i64 0, .int .i64 0, .int .i64 0])) := by kernel_rfl
theorem ty91 : (P.info? 91).map (fun i => (i.size, i.bytes, i.zero)) = some (4, 32, some (.agg #[.int .i64 0, .int .i64 0, .int .i64 0, .int .u64 0])) := by kernel_rfl
theorem ty93 : (P.info? 93).map (fun i => (i.size, i.bytes, i.zero)) = some (1, 24, some (.slice none 0 0)) := by kernel_rfl
theorem ty96 : (P.info? 96).map (fun i => (i.size, i.bytes, i.zero)) = some (5, 64, some (.agg #[.string .empty, .slice none 0 0, .int .i64 0, .int .i64 0, .int .i64 0])) := by kernel_rfl
theorem ty111 : (P.info? 111).map (fun i => (i.size, i.bytes, i.zero)) = some (1, 24, some (.slice none 0 0)) := by kernel_rfl
theorem ty113 : (P.info? 113).map (fun i => (i.size, i.bytes, i.zero)) = some (2, 48, some (.agg #[.slice none 0 0, .slice none 0 0])) := by kernel_rfl
theorem ty114 : (P.info? 114).map (fun i => (i.size, i.bytes, i.zero)) = some (1, 8, some (.pointer none)) := by kernel_rfl
theorem ty115 : (P.info? 115).map (fun i => (i.size, i.bytes, i.zero)) = some (8, 64, some (.agg #[.pointer none, .pointer none, .pointer none, .pointer none, .pointer none, .pointer none, .pointer none, .pointer none])) := by kernel_rfl
theorem ty117 : (P.info? 117).map (fun i => (i.size, i.bytes, i.zero)) = some (10, 112, some (.agg #[.slice none 0 0, .slice none 0 0, .pointer none, .pointer none, .pointer none, .pointer none, .pointer none, .pointer none, .pointer none, .pointer none])) := by kernel_rfl
theorem ty120 : (P.info? 120).map (fun i => (i.size, i.bytes, i.zero)) = some (1, 4, some (.int .u32 0)) := by kernel_rfl
theorem ty126 : (P.info? 126).map (fun i => (i.size, i.bytes, i.zero)) = some (1, 24, some (.slice none 0 0)) := by kernel_rfl
theorem ty128 : (P.info? 128).map (fun i => (i.size, i.bytes, i.zero)) = some (2, 24, some (.agg #[.int .i64 0, .string .empty])) := by kernel_rfl
theorem ty157 : (P.info? 157).map (fun i => (i.size, i.bytes, i.zero)) = some (3, 40, some (.agg #[.int .i64 0, .slice none 0 0, .bool false])) := by kernel_rfl
theorem ty193 : (P.info? 193).map (fun i => (i.size, i.bytes, i.zero)) = some (1, 8, some (.int .u64 0)) := by kernel_rfl
theorem row_ok {t : TypeId} {d : TypeDesc} {size bytes : Nat} {z : Value} {zero : List Value} (hu : P.underlying t = some d) (hi : (P.info? t).map (fun i => (i.size, i.bytes, i.zero)) = some (size, bytes, some z)) (hz : z.cells.toList = zero) :
    P.underlying t = some d ∧ ∃ i z, P.info? t = some i ∧ i.size = size ∧ i.bytes = bytes ∧ i.zero = some z ∧ z.cells.toList = zero := by
  refine ⟨hu, ?_⟩
  cases h : P.info? t with
  | none => rw [h] at hi; cases hi
  | some i =>
    rw [h] at hi
    simp only [Option.map_some, Option.some.injEq, Prod.mk.injEq] at hi
    exact ⟨i, z, rfl, hi.1, hi.2.1, hi.2.2, hz⟩
theorem tyOk : TyOk P T := by
  intro t ti h
  unfold T at h
  split at h
  · cases h; exact row_ok Try.underlying3 ty3 rfl
  · cases h; exact row_ok Try.underlying4 ty4 rfl
  · cases h; exact row_ok Try.underlying5 ty5 rfl
  · cases h; exact row_ok Try.underlying9 ty9 rfl
  · cases h; exact row_ok Try.underlying23 ty23 rfl
  · cases h; exact row_ok Try.underlying28 ty28 rfl
  · cases h; exact row_ok Try.underlying30 ty30 rfl
  · cases h; exact row_ok Try.underlying31 ty31 rfl
  · cases h; exact row_ok Try.underlying32 ty32 rfl
  · cases h; exact row_ok Try.underlying33 ty33 rfl
  · cases h; exact row_ok Try.underlying37 ty37 rfl
  · cases h; exact row_ok Try.underlying39 ty39 rfl
  · cases h; exact row_ok Try.underlying43 ty43 rfl
  · cases h; exact row_ok Try.underlying44 ty44 rfl
  · cases h; exact row_ok Try.underlying46 ty46 rfl
  · cases h; exact row_ok Try.underlying48 ty48 rfl
  · cases h; exact row_ok Try.underlying49 ty49 rfl
  · cases h; exact row_ok Try.underlying50 ty50 rfl
  · cases h; exact row_ok Try.underlying51 ty51 rfl
  · cases h; exact row_ok Try.underlying53 ty53 rfl
  · cases h; exact row_ok Try.underlying55 ty55 rfl
  · cases h; exact row_ok Try.underlying57 ty57 rfl
  · cases h; exact row_ok Try.underlying58 ty58 rfl
  · cases h; exact row_ok Try.underlying62 ty62 rfl
  · cases h; exact row_ok Try.underlying65 ty65 rfl
  · cases h; exact row_ok Try.underlying67 ty67 rfl
  · cases h; exact row_ok Try.underlying69 ty69 rfl
  · cases h; exact row_ok Try.underlying70 ty70 rfl
  · cases h; exact row_ok Try.underlying73 ty73 rfl
  · cases h; exact row_ok Try.underlying75 ty75 rfl
  · cases h; exact row_ok Try.underlying85 ty85 rfl
  · cases h; exact row_ok Try.underlying87 ty87 rfl
  · cases h; exact row_ok Try.underlying91 ty91 rfl
  · cases h; exact row_ok Try.underlying93 ty93 rfl
  · cases h; exact row_ok Try.underlying96 ty96 rfl
  · cases h; exact row_ok Try.underlying111 ty111 rfl
  · cases h; exact row_ok Try.underlying113 ty113 rfl
  · cases h; exact row_ok Try.underlying114 ty114 rfl
  · cases h; exact row_ok Try.underlying115 ty115 rfl
  · cases h; exact row_ok Try.underlying117 ty117 rfl
  · cases h; exact row_ok Try.underlying120 ty120 rfl
  · cases h; exact row_ok Try.underlying126 ty126 rfl
  · cases h; exact row_ok Try.underlying128 ty128 rfl
  · cases h; exact row_ok Try.underlying157 ty157 rfl
  · cases h; exact row_ok Try.underlying193 ty193 rfl
  · cases h
theorem eqc28 {xs ys : List AV} : eqC P T 28 xs ys = (kOks [.int .i64, .int .i64, .int .i64] xs ys = true) := eqC_eq (by kernel_rfl) (by kernel_rfl)
theorem eqc30 {xs ys : List AV} : eqC P T 30 xs ys = (kOks [.str, .int .i64, .int .i64, .int .i64, .int .i64, .int .i64, .int .i64] xs ys = true) := eqC_eq (by kernel_rfl) (by kernel_rfl)
theorem eqc37 {xs ys : List AV} : eqC P T 37 xs ys = (kOks [.str, .int .i64, .int .i64, .int .i64, .int .i64, .int .i64, .int .i64, .int .u64] xs ys = true) := eqC_eq (by kernel_rfl) (by kernel_rfl)
theorem eqc55 {xs ys : List AV} : eqC P T 55 xs ys = (kOks [.int .u8, .int .i64, .str, .int .i64, .int .u64] xs ys = true) := eqC_eq (by kernel_rfl) (by kernel_rfl)
theorem eqc57 {xs ys : List AV} : eqC P T 57 xs ys = (kOks [.str, .int .i64, .int .i64, .int .i64, .int .i64, .int .i64, .int .i64] xs ys = true) := eqC_eq (by kernel_rfl) (by kernel_rfl)
theorem eqc91 {xs ys : List AV} : eqC P T 91 xs ys = (kOks [.int .i64, .int .i64, .int .i64, .int .u64] xs ys = true) := eqC_eq (by kernel_rfl) (by kernel_rfl)
theorem eqc128 {xs ys : List AV} : eqC P T 128 xs ys = (kOks [.int .i64, .str] xs ys = true) := eqC_eq (by kernel_rfl) (by kernel_rfl)
end Go.Proofs.Ytljgfapbbhbbpaa
