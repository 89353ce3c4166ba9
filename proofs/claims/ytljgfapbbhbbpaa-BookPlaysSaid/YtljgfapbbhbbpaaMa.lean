/- The types of the seat, as the walk wants them. Written by a small program of this session (seat.py); the kernel holds each row against the program. -/
import Derived.Test.YtljgfapbbhbbpaaProg
import Derived.Test.YtljgfapbbhbbpaaSymZd
import Derived.KernelRfl
import Derived.Test.YtljgfapbbhbbpaaSymU
namespace Go.Proofs.Ytljgfapbbhbbpaa
open Go Go.Proofs.Ytljgfapbbhbbpaa.Sym
set_option maxRecDepth 100000
noncomputable abbrev P : Program := Try.prog
def T : TypeId → Option TI
  | 3 => some { desc := (.int .i64), size := 1, bytes := 8, zero := [.int .i64 0] }
  | 4 => some { desc := .bool, size := 1, bytes := 1, zero := [.bool false] }
  | 5 => some { desc := (.int .u8), size := 1, bytes := 1, zero := [.int .u8 0] }
  | 9 => some { desc := .string, size := 1, bytes := 16, zero := [.string .empty] }
  | 23 => some { desc := (.pointer 117), size := 1, bytes := 8, zero := [.pointer none] }
  | 28 => some { desc := (.struct #[{ name := "Status", type := 3, offset := 0, embedded := false, tag := "", pkgPath := "", byteOffset := 0 }, { name := "Prio", type := 3, offset := 1, embedded := false, tag := "", pkgPath := "", byteOffset := 8 }, { name := "Live", type := 3, offset := 2, embedded := false, tag := "", pkgPath := "", byteOffset := 16 }]), size := 3, bytes := 24, zero := [.int .i64 0, .int .i64 0, .int .i64 0] }
  | 30 => some { desc := (.struct #[{ name := "User", type := 9, offset := 0, embedded := false, tag := "", pkgPath := "", byteOffset := 0 }, { name := "Old", type := 28, offset := 1, embedded := false, tag := "", pkgPath := "", byteOffset := 16 }, { name := "New", type := 28, offset := 4, embedded := false, tag := "", pkgPath := "", byteOffset := 40 }]), size := 7, bytes := 64, zero := [.string .empty, .int .i64 0, .int .i64 0, .int .i64 0, .int .i64 0, .int .i64 0, .int .i64 0] }
  | 31 => some { desc := (.slice 30), size := 1, bytes := 24, zero := [.slice none 0 0] }
  | 32 => some { desc := (.int .u64), size := 1, bytes := 8, zero := [.int .u64 0] }
  | 33 => some { desc := (.slice 37), size := 1, bytes := 24, zero := [.slice none 0 0] }
  | 37 => some { desc := (.struct #[{ name := "User", type := 9, offset := 0, embedded := false, tag := "", pkgPath := "", byteOffset := 0 }, { name := "Old", type := 28, offset := 1, embedded := false, tag := "", pkgPath := "", byteOffset := 16 }, { name := "New", type := 28, offset := 4, embedded := false, tag := "", pkgPath := "", byteOffset := 40 }, { name := "Seq", type := 32, offset := 7, embedded := false, tag := "", pkgPath := "", byteOffset := 64 }]), size := 8, bytes := 72, zero := [.string .empty, .int .i64 0, .int .i64 0, .int .i64 0, .int .i64 0, .int .i64 0, .int .i64 0, .int .u64 0] }
  | 39 => some { desc := (.slice 33), size := 1, bytes := 24, zero := [.slice none 0 0] }
  | 43 => some { desc := (.slice 44), size := 1, bytes := 24, zero := [.slice none 0 0] }
  | 44 => some { desc := (.slice 32), size := 1, bytes := 24, zero := [.slice none 0 0] }
  | 46 => some { desc := (.slice 55), size := 1, bytes := 24, zero := [.slice none 0 0] }
  | 48 => some { desc := (.pointer 53), size := 1, bytes := 8, zero := [.pointer none] }
  | 49 => some { desc := (.slice 128), size := 1, bytes := 24, zero := [.slice none 0 0] }
  | 50 => some { desc := (.array 8 33), size := 8, bytes := 192, zero := [.slice none 0 0, .slice none 0 0, .slice none 0 0, .slice none 0 0, .slice none 0 0, .slice none 0 0, .slice none 0 0, .slice none 0 0] }
  | 51 => some { desc := (.array 8 4), size := 8, bytes := 8, zero := [.bool false, .bool false, .bool false, .bool false, .bool false, .bool false, .bool false, .bool false] }
  | 53 => some { desc := (.struct #[{ name := "Room", type := 3, offset := 0, embedded := false, tag := "", pkgPath := "", byteOffset := 0 }, { name := "Pairs", type := 49, offset := 1, embedded := false, tag := "", pkgPath := "", byteOffset := 8 }, { name := "Queues", type := 50, offset := 2, embedded := false, tag := "", pkgPath := "", byteOffset := 32 }, { name := "Lost", type := 51, offset := 10, embedded := false, tag := "", pkgPath := "", byteOffset := 224 }]), size := 18, bytes := 232, zero := [.int .i64 0, .slice none 0 0, .slice none 0 0, .slice none 0 0, .slice none 0 0, .slice none 0 0, .slice none 0 0, .slice none 0 0, .slice none 0 0, .slice none 0 0, .bool false, .bool false, .bool false, .bool false, .bool false, .bool false, .bool false, .bool false] }
  | 55 => some { desc := (.struct #[{ name := "Do", type := 5, offset := 0, embedded := false, tag := "", pkgPath := "", byteOffset := 0 }, { name := "Who", type := 3, offset := 1, embedded := false, tag := "", pkgPath := "", byteOffset := 8 }, { name := "User", type := 9, offset := 2, embedded := false, tag := "", pkgPath := "", byteOffset := 16 }, { name := "Live", type := 3, offset := 3, embedded := false, tag := "", pkgPath := "", byteOffset := 32 }, { name := "Seq", type := 32, offset := 4, embedded := false, tag := "", pkgPath := "", byteOffset := 40 }]), size := 5, bytes := 48, zero := [.int .u8 0, .int .i64 0, .string .empty, .int .i64 0, .int .u64 0] }
  | 57 => some { desc := (.struct #[{ name := "User", type := 9, offset := 0, embedded := false, tag := "", pkgPath := "", byteOffset := 0 }, { name := "Old", type := 28, offset := 1, embedded := false, tag := "", pkgPath := "", byteOffset := 16 }, { name := "New", type := 28, offset := 4, embedded := false, tag := "", pkgPath := "", byteOffset := 40 }]), size := 7, bytes := 64, zero := [.string .empty, .int .i64 0, .int .i64 0, .int .i64 0, .int .i64 0, .int .i64 0, .int .i64 0] }
  | 58 => some { desc := (.slice 57), size := 1, bytes := 24, zero := [.slice none 0 0] }
  | 62 => some { desc := (.slice 9), size := 1, bytes := 24, zero := [.slice none 0 0] }
  | 65 => some { desc := (.slice 75), size := 1, bytes := 24, zero := [.slice none 0 0] }
  | 67 => some { desc := (.slice 87), size := 1, bytes := 24, zero := [.slice none 0 0] }
  | 69 => some { desc := (.struct #[{ name := "keys", type := 62, offset := 0, embedded := false, tag := "", pkgPath := "doorman/omap", byteOffset := 0 }, { name := "values", type := 67, offset := 1, embedded := false, tag := "", pkgPath := "doorman/omap", byteOffset := 24 }]), size := 2, bytes := 48, zero := [.slice none 0 0, .slice none 0 0] }
  | 70 => some { desc := (.slice 28), size := 1, bytes := 24, zero := [.slice none 0 0] }
  | 73 => some { desc := (.struct #[{ name := "Kind", type := 3, offset := 0, embedded := false, tag := "", pkgPath := "", byteOffset := 0 }, { name := "User", type := 9, offset := 1, embedded := false, tag := "", pkgPath := "", byteOffset := 8 }, { name := "Id", type := 3, offset := 2, embedded := false, tag := "", pkgPath := "", byteOffset := 24 }, { name := "Status", type := 3, offset := 3, embedded := false, tag := "", pkgPath := "", byteOffset := 32 }, { name := "Prio", type := 3, offset := 4, embedded := false, tag := "", pkgPath := "", byteOffset := 40 }, { name := "Ttl", type := 32, offset := 5, embedded := false, tag := "", pkgPath := "", byteOffset := 48 }, { name := "Users", type := 62, offset := 6, embedded := false, tag := "", pkgPath := "", byteOffset := 56 }]), size := 7, bytes := 80, zero := [.int .i64 0, .string .empty, .int .i64 0, .int .i64 0, .int .i64 0, .int .u64 0, .slice none 0 0] }
  | 75 => some { desc := (.struct #[{ name := "Sweep", type := 4, offset := 0, embedded := false, tag := "", pkgPath := "", byteOffset := 0 }, { name := "Op", type := 73, offset := 1, embedded := false, tag := "", pkgPath := "", byteOffset := 8 }, { name := "By", type := 32, offset := 8, embedded := false, tag := "", pkgPath := "", byteOffset := 88 }]), size := 9, bytes := 96, zero := [.bool false, .int .i64 0, .string .empty, .int .i64 0, .int .i64 0, .int .i64 0, .int .u64 0, .slice none 0 0, .int .u64 0] }
  | 85 => some { desc := (.slice 91), size := 1, bytes := 24, zero := [.slice none 0 0] }
  | 87 => some { desc := (.struct #[{ name := "Sessions", type := 85, offset := 0, embedded := false, tag := "", pkgPath := "", byteOffset := 0 }, { name := "Told", type := 28, offset := 1, embedded := false, tag := "", pkgPath := "", byteOffset := 24 }]), size := 4, bytes := 48, zero := [.slice none 0 0, .int .i64 0, .int .i64 0, .int .i64 0] }
  | 91 => some { desc := (.struct #[{ name := "Id", type := 3, offset := 0, embedded := false, tag := "", pkgPath := "", byteOffset := 0 }, { name := "Status", type := 3, offset := 1, embedded := false, tag := "", pkgPath := "", byteOffset := 8 }, { name := "Prio", type := 3, offset := 2, embedded := false, tag := "", pkgPath := "", byteOffset := 16 }, { name := "Until", type := 32, offset := 3, embedded := false, tag := "", pkgPath := "", byteOffset := 24 }]), size := 4, bytes := 32, zero := [.int .i64 0, .int .i64 0, .int .i64 0, .int .u64 0] }
  | 93 => some { desc := (.slice 96), size := 1, bytes := 24, zero := [.slice none 0 0] }
  | 96 => some { desc := (.struct #[{ name := "Name", type := 9, offset := 0, embedded := false, tag := "", pkgPath := "", byteOffset := 0 }, { name := "Sessions", type := 85, offset := 1, embedded := false, tag := "", pkgPath := "", byteOffset := 16 }, { name := "Told", type := 28, offset := 2, embedded := false, tag := "", pkgPath := "", byteOffset := 40 }]), size := 5, bytes := 64, zero := [.string .empty, .slice none 0 0, .int .i64 0, .int .i64 0, .int .i64 0] }
  | 111 => some { desc := (.slice 120), size := 1, bytes := 24, zero := [.slice none 0 0] }
  | 113 => some { desc := (.struct #[{ name := "keys", type := 62, offset := 0, embedded := false, tag := "", pkgPath := "doorman/omap", byteOffset := 0 }, { name := "values", type := 111, offset := 1, embedded := false, tag := "", pkgPath := "doorman/omap", byteOffset := 24 }]), size := 2, bytes := 48, zero := [.slice none 0 0, .slice none 0 0] }
  | 114 => some { desc := (.pointer 157), size := 1, bytes := 8, zero := [.pointer none] }
  | 115 => some { desc := (.array 8 114), size := 8, bytes := 64, zero := [.pointer none, .pointer none, .pointer none, .pointer none, .pointer none, .pointer none, .pointer none, .pointer none] }
  | 117 => some { desc := (.struct #[{ name := "watches", type := 113, offset := 0, embedded := false, tag := "", pkgPath := "doorman/feed", byteOffset := 0 }, { name := "queues", type := 115, offset := 2, embedded := false, tag := "", pkgPath := "doorman/feed", byteOffset := 48 }]), size := 10, bytes := 112, zero := [.slice none 0 0, .slice none 0 0, .pointer none, .pointer none, .pointer none, .pointer none, .pointer none, .pointer none, .pointer none, .pointer none] }
  | 120 => some { desc := (.int .u32), size := 1, bytes := 4, zero := [.int .u32 0] }
  | 126 => some { desc := (.slice 3), size := 1, bytes := 24, zero := [.slice none 0 0] }
  | 128 => some { desc := (.struct #[{ name := "Who", type := 3, offset := 0, embedded := false, tag := "", pkgPath := "", byteOffset := 0 }, { name := "User", type := 9, offset := 1, embedded := false, tag := "", pkgPath := "", byteOffset := 8 }]), size := 2, bytes := 24, zero := [.int .i64 0, .string .empty] }
  | 157 => some { desc := (.struct #[{ name := "room", type := 3, offset := 0, embedded := false, tag := "", pkgPath := "doorman/ring", byteOffset := 0 }, { name := "l", type := 33, offset := 1, embedded := false, tag := "", pkgPath := "doorman/ring", byteOffset := 8 }, { name := "lost", type := 4, offset := 2, embedded := false, tag := "", pkgPath := "doorman/ring", byteOffset := 32 }]), size := 3, bytes := 40, zero := [.int .i64 0, .slice none 0 0, .bool false] }
  | 193 => some { desc := (.int .u64), size := 1, bytes := 8, zero := [.int .u64 0] }
  | _ => none
theorem ty3 : (P.info? 3).map (fun i => (i.size, i.bytes, i.zero)) = some (1, 8, some (.int .i64 0)) := by kernel_rfl
theorem ty4 : (P.info? 4).map (fun i => (i.size, i.bytes, i.zero)) = some (1, 1, some (.bool false)) := by kernel_rfl
theorem ty5 : (P.info? 5).map (fun i => (i.size, i.bytes, i.zero)) = some (1, 1, some (.int .u8 0)) := by kernel_rfl
theorem ty9 : (P.info? 9).map (fun i => (i.size, i.bytes, i.zero)) = some (1, 16, some (.string .empty)) := by kernel_rfl
theorem ty23 : (P.info? 23).map (fun i => (i.size, i.bytes, i.zero)) = some (1, 8, some (.pointer none)) := by kernel_rfl
theorem ty28 : (P.info? 28).map (fun i => (i.size, i.bytes, i.zero)) = some (3, 24, some (.agg #[.int .i64 0, .int .i64 0, .int .i64 0])) := by kernel_rfl
theorem ty30 : (P.info? 30).map (fun i => (i.size, i.bytes, i.zero)) = some (7, 64, some (.agg #[.string .empty, .int .i64 0, .int .i64 0, .int .i64 0, .int .i64 0, .int .i64 0, .int .i64 0])) := by kernel_rfl
theorem ty31 : (P.info? 31).map (fun i => (i.size, i.bytes, i.zero)) = some (1, 24, some (.slice none 0 0)) := by kernel_rfl
theorem ty32 : (P.info? 32).map (fun i => (i.size, i.bytes, i.zero)) = some (1, 8, some (.int .u64 0)) := by kernel_rfl
theorem ty33 : (P.info? 33).map (fun i => (i.size, i.bytes, i.zero)) = some (1, 24, some (.slice none 0 0)) := by kernel_rfl
theorem ty37 : (P.info? 37).map (fun i => (i.size, i.bytes, i.zero)) = some (8, 72, some (.agg #[.string .empty, .int .i64 0, .int .i64 0, .int .i64 0, .int .i64 0, .int .i64 0, .int .i64 0, .int .u64 0])) := by kernel_rfl
theorem ty39 : (P.info? 39).map (fun i => (i.size, i.bytes, i.zero)) = some (1, 24, some (.slice none 0 0)) := by kernel_rfl
theorem ty43 : (P.info? 43).map (fun i => (i.size, i.bytes, i.zero)) = some (1, 24, some (.slice none 0 0)) := by kernel_rfl
theorem ty44 : (P.info? 44).map (fun i => (i.size, i.bytes, i.zero)) = some (1, 24, some (.slice none 0 0)) := by kernel_rfl
theorem ty46 : (P.info? 46).map (fun i => (i.size, i.bytes, i.zero)) = some (1, 24, some (.slice none 0 0)) := by kernel_rfl
theorem ty48 : (P.info? 48).map (fun i => (i.size, i.bytes, i.zero)) = some (1, 8, some (.pointer none)) := by kernel_rfl
theorem ty49 : (P.info? 49).map (fun i => (i.size, i.bytes, i.zero)) = some (1, 24, some (.slice none 0 0)) := by kernel_rfl
theorem ty50 : (P.info? 50).map (fun i => (i.size, i.bytes, i.zero)) = some (8, 192, some (.agg #[.slice none 0 0, .slice none 0 0, .slice none 0 0, .slice none 0 0, .slice none 0 0, .slice none 0 0, .slice none 0 0, .slice none 0 0])) := by kernel_rfl
theorem ty51 : (P.info? 51).map (fun i => (i.size, i.bytes, i.zero)) = some (8, 8, some (.agg #[.bool false, .bool false, .bool false, .bool false, .bool false, .bool false, .bool false, .bool false])) := by kernel_rfl
theorem ty53 : (P.info? 53).map (fun i => (i.size, i.bytes, i.zero)) = some (18, 232, some (.agg #[.int .i64 0, .slice none 0 0, .slice none 0 0, .slice none 0 0, .slice none 0 0, .slice none 0 0, .slice none 0 0, .slice none 0 0, .slice none 0 0, .slice none 0 0, .bool false, .bool false, .bool false, .bool false, .bool false, .bool false, .bool false, .bool false])) := by kernel_rfl
theorem ty55 : (P.info? 55).map (fun i => (i.size, i.bytes, i.zero)) = some (5, 48, some (.agg #[.int .u8 0, .int .i64 0, .string .empty, .int .i64 0, .int .u64 0])) := by kernel_rfl
theorem ty57 : (P.info? 57).map (fun i => (i.size, i.bytes, i.zero)) = some (7, 64, some (.agg #[.string .empty, .int .i64 0, .int .i64 0, .int .i64 0, .int .i64 0, .int .i64 0, .int .i64 0])) := by kernel_rfl
theorem ty58 : (P.info? 58).map (fun i => (i.size, i.bytes, i.zero)) = some (1, 24, some (.slice none 0 0)) := by kernel_rfl
theorem ty62 : (P.info? 62).map (fun i => (i.size, i.bytes, i.zero)) = some (1, 24, some (.slice none 0 0)) := by kernel_rfl
theorem ty65 : (P.info? 65).map (fun i => (i.size, i.bytes, i.zero)) = some (1, 24, some (.slice none 0 0)) := by kernel_rfl
theorem ty67 : (P.info? 67).map (fun i => (i.size, i.bytes, i.zero)) = some (1, 24, some (.slice none 0 0)) := by kernel_rfl
theorem ty69 : (P.info? 69).map (fun i => (i.size, i.bytes, i.zero)) = some (2, 48, some (.agg #[.slice none 0 0, .slice none 0 0])) := by kernel_rfl
theorem ty70 : (P.info? 70).map (fun i => (i.size, i.bytes, i.zero)) = some (1, 24, some (.slice none 0 0)) := by kernel_rfl
theorem ty73 : (P.info? 73).map (fun i => (i.size, i.bytes, i.zero)) = some (7, 80, some (.agg #[.int .i64 0, .string .empty, .int .i64 0, .int .i64 0, .int .i64 0, .int .u64 0, .slice none 0 0])) := by kernel_rfl
theorem ty75 : (P.info? 75).map (fun i => (i.size, i.bytes, i.zero)) = some (9, 96, some (.agg #[.bool false, .int .i64 0, .string .empty, .int .i64 0, .int .i64 0, .int .i64 0, .int .u64 0, .slice none 0 0, .int .u64 0])) := by kernel_rfl
theorem ty85 : (P.info? 85).map (fun i => (i.size, i.bytes, i.zero)) = some (1, 24, some (.slice none 0 0)) := by kernel_rfl
theorem ty87 : (P.info? 87).map (fun i => (i.size, i.bytes, i.zero)) = some (4, 48, some (.agg #[.slice none 0 0, .int .i64 0, .int .i64 0, .int .i64 0])) := by kernel_rfl
theorem ty91 : (P.info? 91).map (fun i => (i.size, i.bytes, i.zero)) = some (4, 32, some (.agg #[.int .i64 0, .int .i64 0, .int .i64 0, .int .u64 0])) := by kernel_rfl
theorem ty93 : (P.info? 93).map (fun i => (i.size, i.bytes, i.zero)) = some (1, 24, some (.slice none 0 0)) := by kernel_rfl
theorem ty96 : (P.info? 96).map (fun i => (i.size, i.bytes, i.zero)) = some (5, 64, some (.agg #[.string .empty, .slice none 0 0, .int .i64 0, .int .i64 0, .int .i64 0])) := by kernel_rfl
theorem ty111 : (P.info? 111).map (fun i => (i.size, i.bytes, i.zero)) = some (1, 24, some (.slice none 0 0)) := by kernel_rfl
theorem ty113 : (P.info? 113).map (fun i => (i.size, i.bytes, i.zero)) = some (2, 48, some (.agg #[.slice none 0 0, .slice none 0 0])) := by kernel_rfl
theorem ty114 : (P.info? 114).map (fun i => (i.size, i.bytes, i.zero)) = some (1, 8, some (.pointer none)) := by kernel_rfl
theorem ty115 : (P.info? 115).map (fun i => (i.size, i.bytes, i.zero)) = some (8, 64, some (.agg #[.pointer none, .pointer none, .pointer none, .pointer none, .pointer none, .pointer none, .pointer none, .pointer none])) := by kernel_rfl
theorem ty117 : (P.info? 117).map (fun i => (i.size, i.bytes, i.zero)) = some (10, 112, some (.agg #[.slice none 0 0, .slice none 0 0, .pointer none, .pointer none, .pointer none, .pointer none, .pointer none, .pointer none, .pointer none, .pointer none])) := by kernel_rfl
theorem ty120 : (P.info? 120).map (fun i => (i.size, i.bytes, i.zero)) = some (1, 4, some (.int .u32 0)) := by kernel_rfl
theorem ty126 : (P.info? 126).map (fun i => (i.size, i.bytes, i.zero)) = some (1, 24, some (.slice none 0 0)) := by kernel_rfl
theorem ty128 : (P.info? 128).map (fun i => (i.size, i.bytes, i.zero)) = some (2, 24, some (.agg #[.int .i64 0, .string .empty])) := by kernel_rfl
theorem ty157 : (P.info? 157).map (fun i => (i.size, i.bytes, i.zero)) = some (3, 40, some (.agg #[.int .i64 0, .slice none 0 0, .bool false])) := by kernel_rfl
theorem ty193 : (P.info? 193).map (fun i => (i.size, i.bytes, i.zero)) = some (1, 8, some (.int .u64 0)) := by kernel_rfl
theorem row_ok {t : TypeId} {d : TypeDesc} {size bytes : Nat} {z : Value} {zero : List Value} (hu : P.underlying t = some d) (hi : (P.info? t).map (fun i => (i.size, i.bytes, i.zero)) = some (size, bytes, some z)) (hz : z.cells.toList = zero) :
    P.underlying t = some d ∧ ∃ i z, P.info? t = some i ∧ i.size = size ∧ i.bytes = bytes ∧ i.zero = some z ∧ z.cells.toList = zero := by
  refine ⟨hu, ?_⟩
  cases h : P.info? t with
  | none => rw [h] at hi; cases hi
  | some i =>
    rw [h] at hi
    simp only [Option.map_some, Option.some.injEq, Prod.mk.injEq] at hi
    exact ⟨i, z, rfl, hi.1, hi.2.1, hi.2.2, hz⟩
theorem tyOk : TyOk P T := by
  intro t ti h
  unfold T at h
  split at h
  · cases h; exact row_ok Try.underlying3 ty3 rfl
  · cases h; exact row_ok Try.underlying4 ty4 rfl
  · cases h; exact row_ok Try.underlying5 ty5 rfl
  · cases h; exact row_ok Try.underlying9 ty9 rfl
  · cases h; exact row_ok Try.underlying23 ty23 rfl
  · cases h; exact row_ok Try.underlying28 ty28 rfl
  · cases h; exact row_ok Try.underlying30 ty30 rfl
  · cases h; exact row_ok Try.underlying31 ty31 rfl
  · cases h; exact row_ok Try.underlying32 ty32 rfl
  · cases h; exact row_ok Try.underlying33 ty33 rfl
  · cases h; exact row_ok Try.underlying37 ty37 rfl
  · cases h; exact row_ok Try.underlying39 ty39 rfl
  · cases h; exact row_ok Try.underlying43 ty43 rfl
  · cases h; exact row_ok Try.underlying44 ty44 rfl
  · cases h; exact row_ok Try.underlying46 ty46 rfl
  · cases h; exact row_ok Try.underlying48 ty48 rfl
  · cases h; exact row_ok Try.underlying49 ty49 rfl
  · cases h; exact row_ok Try.underlying50 ty50 rfl
  · cases h; exact row_ok Try.underlying51 ty51 rfl
  · cases h; exact row_ok Try.underlying53 ty53 rfl
  · cases h; exact row_ok Try.underlying55 ty55 rfl
  · cases h; exact row_ok Try.underlying57 ty57 rfl
  · cases h; exact row_ok Try.underlying58 ty58 rfl
  · cases h; exact row_ok Try.underlying62 ty62 rfl
  · cases h; exact row_ok Try.underlying65 ty65 rfl
  · cases h; exact row_ok Try.underlying67 ty67 rfl
  · cases h; exact row_ok Try.underlying69 ty69 rfl
  · cases h; exact row_ok Try.underlying70 ty70 rfl
  · cases h; exact row_ok Try.underlying73 ty73 rfl
  · cases h; exact row_ok Try.underlying75 ty75 rfl
  · cases h; exact row_ok Try.underlying85 ty85 rfl
  · cases h; exact row_ok Try.underlying87 ty87 rfl
  · cases h; exact row_ok Try.underlying91 ty91 rfl
  · cases h; exact row_ok Try.underlying93 ty93 rfl
  · cases h; exact row_ok Try.underlying96 ty96 rfl
  · cases h; exact row_ok Try.underlying111 ty111 rfl
  · cases h; exact row_ok Try.underlying113 ty113 rfl
  · cases h; exact row_ok Try.underlying114 ty114 rfl
  · cases h; exact row_ok Try.underlying115 ty115 rfl
  · cases h; exact row_ok Try.underlying117 ty117 rfl
  · cases h; exact row_ok Try.underlying120 ty120 rfl
  · cases h; exact row_ok Try.underlying126 ty126 rfl
  · cases h; exact row_ok Try.underlying128 ty128 rfl
  · cases h; exact row_ok Try.underlying157 ty157 rfl
  · cases h; exact row_ok Try.underlying193 ty193 rfl
  · cases h
theorem eqc28 {xs ys : List AV} : eqC P T 28 xs ys = (kOks [.int .i64, .int .i64, .int .i64] xs ys = true) := eqC_eq (by kernel_rfl) (by kernel_rfl)
theorem eqc30 {xs ys : List AV} : eqC P T 30 xs ys = (kOks [.str, .int .i64, .int .i64, .int .i64, .int .i64, .int .i64, .int .i64] xs ys = true) := eqC_eq (by kernel_rfl) (by kernel_rfl)
theorem eqc37 {xs ys : List AV} : eqC P T 37 xs ys = (kOks [.str, .int .i64, .int .i64, .int .i64, .int .i64, .int .i64, .int .i64, .int .u64] xs ys = true) := eqC_eq (by kernel_rfl) (by kernel_rfl)
theorem eqc55 {xs ys : List AV} : eqC P T 55 xs ys = (kOks [.int .u8, .int .i64, .str, .int .i64, .int .u64] xs ys = true) := eqC_eq (by kernel_rfl) (by kernel_rfl)
theorem eqc57 {xs ys : List AV} : eqC P T 57 xs ys = (kOks [.str, .int .i64, .int .i64, .int .i64, .int .i64, .int .i64, .int .i64] xs ys = true) := eqC_eq (by kernel_rfl) (by kernel_rfl)
theorem eqc91 {xs ys : List AV} : eqC P T 91 xs ys = (kOks [.int .i64, .int .i64, .int .i64, .int .u64] xs ys = true) := eqC_eq (by kernel_rfl) (by kernel_rfl)
theorem eqc128 {xs ys : List AV} : eqC P T 128 xs ys = (kOks [.int .i64, .str] xs ys = true) := eqC_eq (by kernel_rfl) (by kernel_rfl)
end Go.Proofs.Ytljgfapbbhbbpaa
namespace Go.Proofs.Ytljgfapbbhbbpaa
open Go Go.Proofs.Ytljgfapbbhbbpaa.Sym
set_option linter.unusedSimpArgs false
set_option linter.unusedVariables false

structure StrictOrd {α : Type} (lt : α → α → Bool) : Prop where
  irrefl : ∀ a, lt a a = false
  trans : ∀ a b c, lt a b = true → lt b c = true → lt a c = true
  total : ∀ a b, lt a b = false → lt b a = false → a = b
section
variable {α : Type} {lt : α → α → Bool}
def Rises (lt : α → α → Bool) (l : List α) : Prop := l.Pairwise fun a b => lt a b = true
/-- How many are less. -/
def lb (lt : α → α → Bool) (l : List α) (k : α) : Nat := (l.takeWhile fun x => lt x k).length
theorem lb_le (l : List α) (k : α) : lb lt l k ≤ l.length := by
  unfold lb
  induction l with
  | nil => exact Nat.le_refl _
  | cons x xs ih =>
    simp only [List.takeWhile_cons]
    split
    · simp; exact ih
    · simp
theorem lb_lt {l : List α} {k : α} : ∀ {i : Nat} (h : i < lb lt l k), lt (l[i]'(Nat.lt_of_lt_of_le h (lb_le l k))) k = true := by
  induction l with
  | nil => intro i h; simp [lb] at h
  | cons x xs ih =>
    intro i h
    have h' := h
    simp only [lb, List.takeWhile_cons] at h'
    split at h'
    · rename_i hx
      cases i with
      | zero => exact hx
      | succ i => exact ih (i := i) (by simpa [lb] using h')
    · simp at h'
theorem lb_ge (O : StrictOrd lt) {l : List α} (hl : Rises lt l) {k : α} : ∀ {i : Nat} (h : i < l.length), lb lt l k ≤ i → lt l[i] k = false := by
  induction l with
  | nil => intro i h; simp at h
  | cons x xs ih =>
    intro i h hi
    have hp := List.pairwise_cons.1 hl
    by_cases hx : lt x k = true
    · cases i with
      | zero => simp [lb, List.takeWhile_cons, hx] at hi
      | succ i =>
        refine ih hp.2 (by simpa using h) ?_
        simp only [lb, List.takeWhile_cons, hx, if_true, List.length_cons] at hi ⊢
        omega
    · have hx' : lt x k = false := by simpa using hx
      cases i with
      | zero => exact hx'
      | succ i =>
        have hi' : i < xs.length := by simpa using h
        cases hc : lt xs[i] k with
        | false => simpa using hc
        | true =>
          have := O.trans _ _ _ (hp.1 _ (List.getElem_mem hi')) hc
          rw [hx'] at this; cases this
theorem lb_unique (O : StrictOrd lt) {l : List α} (hl : Rises lt l) {k : α} {p : Nat} (hp : p ≤ l.length) (h1 : ∀ i (h : i < l.length), i < p → lt l[i] k = true) (h2 : ∀ i (h : i < l.length), p ≤ i → lt l[i] k = false) : p = lb lt l k := by
  rcases Nat.lt_trichotomy p (lb lt l k) with h | h | h
  · have a := lb_lt h
    have b := h2 p (Nat.lt_of_lt_of_le h (lb_le l k)) (Nat.le_refl _)
    rw [b] at a; cases a
  · exact h
  · have hlt : lb lt l k < l.length := by omega
    have a := lb_ge O hl hlt (Nat.le_refl _)
    have b := h1 _ hlt h
    rw [b] at a; cases a
/-- Is a key there? -/
def hasAt (lt eq : α → α → Bool) (l : List α) (k : α) : Bool := match l[lb lt l k]? with | some x => eq x k | none => false
theorem hasAt_lt {eq : α → α → Bool} {l : List α} {k : α} (h : lb lt l k < l.length) : hasAt lt eq l k = eq l[lb lt l k] k := by
  rw [hasAt, List.getElem?_eq_getElem h]
theorem hasAt_ge {eq : α → α → Bool} {l : List α} {k : α} (h : ¬ lb lt l k < l.length) : hasAt lt eq l k = false := by
  rw [hasAt, List.getElem?_eq_none (by omega)]
theorem hasAt_iff (O : StrictOrd lt) {eq : α → α → Bool} (he : ∀ a b, eq a b = true ↔ a = b) {l : List α} (hl : Rises lt l) {k : α} : hasAt lt eq l k = true ↔ k ∈ l := by
  constructor
  · intro h
    by_cases hc : lb lt l k < l.length
    · rw [hasAt_lt hc] at h
      rw [← (he _ _).1 h]; exact List.getElem_mem hc
    · rw [hasAt_ge hc] at h; cases h
  · intro h
    obtain ⟨i, hi, rfl⟩ := List.mem_iff_getElem.1 h
    have h1 : lb lt l l[i] = i := by
      refine (lb_unique O hl (Nat.le_of_lt hi) (fun j hj hji => List.pairwise_iff_getElem.1 hl j i hj hi hji) (fun j hj hij => ?_)).symm
      rcases Nat.lt_or_ge i j with h | h
      · have a := List.pairwise_iff_getElem.1 hl i j hi hj h
        cases hc : lt l[j] l[i] with
        | false => rfl
        | true => have := O.trans _ _ _ a hc; rw [O.irrefl] at this; cases this
      · obtain rfl : i = j := by omega
        exact O.irrefl _
    rw [hasAt_lt (by omega)]
    simp only [h1]
    exact (he _ _).2 rfl
end

def ltI (a b : Int) : Bool := decide (a < b)
def eqI (a b : Int) : Bool := a == b
theorem ordI : StrictOrd ltI := ⟨fun a => by simp [ltI], fun a b c h1 h2 => by simp [ltI] at *; omega, fun a b h1 h2 => by simp [ltI] at *; omega⟩
theorem eqI_iff (a b : Int) : eqI a b = true ↔ a = b := by simp [eqI]
def ltS (a b : ByteArray) : Bool := Op.bytesLess a.toList b.toList
def eqS (a b : ByteArray) : Bool := a.toList == b.toList
theorem less_irrefl : ∀ l : List UInt8, Op.bytesLess l l = false
  | [] => rfl
  | a :: l => by simp [Op.bytesLess, less_irrefl l]
theorem less_trans : ∀ a b c : List UInt8, Op.bytesLess a b = true → Op.bytesLess b c = true → Op.bytesLess a c = true
  | _, [], _, h, _ => by simp [Op.bytesLess] at h
  | _, _ :: _, [], _, h => by simp [Op.bytesLess] at h
  | [], _ :: _, _ :: _, _, _ => rfl
  | a :: x, b :: y, c :: z, h1, h2 => by
    simp only [Op.bytesLess, Bool.or_eq_true, decide_eq_true_eq, Bool.and_eq_true, beq_iff_eq] at h1 h2 ⊢
    rcases h1 with h1 | ⟨rfl, h1⟩
    · rcases h2 with h2 | ⟨rfl, h2⟩
      · exact .inl (UInt8.lt_trans h1 h2)
      · exact .inl h1
    · rcases h2 with h2 | ⟨rfl, h2⟩
      · exact .inl h2
      · exact .inr ⟨rfl, less_trans x y z h1 h2⟩
theorem less_total : ∀ a b : List UInt8, Op.bytesLess a b = false → Op.bytesLess b a = false → a = b
  | [], [], _, _ => rfl
  | [], _ :: _, h, _ => by simp [Op.bytesLess] at h
  | _ :: _, [], _, h => by simp [Op.bytesLess] at h
  | a :: x, b :: y, h1, h2 => by
    simp only [Op.bytesLess, Bool.or_eq_false_iff, decide_eq_false_iff_not, Bool.and_eq_false_imp, beq_iff_eq] at h1 h2
    have hab : a = b := by
      apply UInt8.toNat_inj.1
      have p := h1.1; have q := h2.1
      rw [UInt8.lt_iff_toNat_lt] at p q
      omega
    subst hab
    rw [less_total x y (h1.2 rfl) (h2.2 rfl)]
theorem toList_inj {a b : ByteArray} (h : a.toList = b.toList) : a = b := by
  have e : ∀ c : ByteArray, c.toList = c.data.toList := fun c => by
    exact ByteArray.toList_eq c
  rw [e, e] at h
  cases a; cases b
  simp at h
  rw [h]
theorem ordS : StrictOrd ltS := ⟨fun a => less_irrefl _, fun a b c h1 h2 => less_trans _ _ _ h1 h2, fun a b h1 h2 => toList_inj (less_total _ _ h1 h2)⟩
theorem eqS_iff (a b : ByteArray) : eqS a b = true ↔ a = b := by
  rw [eqS, beq_iff_eq]
  exact ⟨toList_inj, fun h => by rw [h]⟩
end Go.Proofs.Ytljgfapbbhbbpaa
namespace Go.Proofs.Ytljgfapbbhbbpaa
set_option linter.unusedSimpArgs false
set_option linter.unusedVariables false
section
variable {α β : Type} {lt eq : α → α → Bool}
def withG (lt eq : α → α → Bool) (m : List (α × β)) (k : α) (v : β) : List (α × β) :=
  if hasAt lt eq (m.map Prod.fst) k = true then m.set (lb lt (m.map Prod.fst) k) (k, v)
  else m.take (lb lt (m.map Prod.fst) k) ++ [(k, v)] ++ m.drop (lb lt (m.map Prod.fst) k)
def withoutG (lt eq : α → α → Bool) (m : List (α × β)) (k : α) : List (α × β) :=
  if hasAt lt eq (m.map Prod.fst) k = true then m.take (lb lt (m.map Prod.fst) k) ++ m.drop (lb lt (m.map Prod.fst) k + 1) else m
def getG (lt eq : α → α → Bool) (none : β) (m : List (α × β)) (k : α) : β × Bool :=
  if hasAt lt eq (m.map Prod.fst) k = true then ((m.map Prod.snd).getD (lb lt (m.map Prod.fst) k) none, true) else (none, false)
abbrev RisesM (lt : α → α → Bool) (m : List (α × β)) : Prop := Rises lt (m.map Prod.fst)
theorem risesM_iff {m : List (α × β)} : RisesM lt m ↔ m.Pairwise fun a b => lt a.1 b.1 = true := List.pairwise_map
theorem with_len (m : List (α × β)) (k : α) (v : β) : (withG lt eq m k v).length ≤ m.length + 1 := by
  unfold withG
  split
  · simp
  · simp
    omega
theorem without_len (m : List (α × β)) (k : α) : (withoutG lt eq m k).length ≤ m.length := by
  unfold withoutG
  split
  · simp; omega
  · exact Nat.le_refl _
theorem filter_none' {p : α × β → Bool} {l : List (α × β)} (h : ∀ x ∈ l, p x = false) : l.filter p = [] := by
  rw [List.filter_eq_nil_iff]; intro x hx; rw [h x hx]; decide
theorem filter_all' {p : α × β → Bool} {l : List (α × β)} (h : ∀ x ∈ l, p x = true) : l.filter p = l := List.filter_eq_self.2 h

/-- What is less, what is put, what is greater. -/
theorem with_eq (O : StrictOrd lt) (he : ∀ a b, eq a b = true ↔ a = b) {m : List (α × β)} (hr : RisesM lt m) (k : α) (v : β) :
    withG lt eq m k v = m.filter (fun p => lt p.1 k) ++ [(k, v)] ++ m.filter (fun p => lt k p.1) := by
  induction m with
  | nil => simp [withG, hasAt, lb]
  | cons x xs ih =>
    have hp := List.pairwise_cons.1 (risesM_iff.1 hr)
    by_cases hx : lt x.1 k = true
    · have hkx : lt k x.1 = false := by
        cases hc : lt k x.1 with
        | false => rfl
        | true => have := O.trans _ _ _ hx hc; rw [O.irrefl] at this; cases this
      have hlb : lb lt ((x :: xs).map Prod.fst) k = lb lt (xs.map Prod.fst) k + 1 := by simp [lb, List.takeWhile_cons, hx]
      have hh : hasAt lt eq ((x :: xs).map Prod.fst) k = hasAt lt eq (xs.map Prod.fst) k := by unfold hasAt; rw [hlb]; simp
      have e : withG lt eq (x :: xs) k v = x :: withG lt eq xs k v := by
        unfold withG
        rw [hh, hlb]
        split <;> simp
      rw [e, ih (risesM_iff.2 hp.2), List.filter_cons, List.filter_cons, hx, hkx]
      simp
    · have hx' : lt x.1 k = false := by simpa using hx
      have hlb : lb lt ((x :: xs).map Prod.fst) k = 0 := by simp [lb, List.takeWhile_cons, hx']
      have hh : hasAt lt eq ((x :: xs).map Prod.fst) k = eq x.1 k := by unfold hasAt; rw [hlb]; simp
      have hlow : ∀ y ∈ xs, lt y.1 k = false := by
        intro y hy
        cases hc : lt y.1 k with
        | false => rfl
        | true => have := O.trans _ _ _ (hp.1 y hy) hc; rw [hx'] at this; cases this
      unfold withG
      rw [hh, hlb, List.filter_cons, hx', filter_none' hlow]
      cases heq : eq x.1 k with
      | true =>
        have hk := (he _ _).1 heq
        subst hk
        rw [List.filter_cons, O.irrefl, filter_all' (l := xs) (fun y hy => hp.1 y hy)]
        simp
      | false =>
        have hkx : lt k x.1 = true := by
          cases hc : lt k x.1 with
          | true => rfl
          | false =>
            have := O.total _ _ hx' hc
            rw [(he _ _).2 this] at heq; cases heq
        rw [List.filter_cons, hkx, filter_all' (l := xs) (fun y hy => O.trans _ _ _ hkx (hp.1 y hy))]
        simp
theorem without_eq (O : StrictOrd lt) (he : ∀ a b, eq a b = true ↔ a = b) {m : List (α × β)} (hr : RisesM lt m) (k : α) :
    withoutG lt eq m k = m.filter (fun p => !eq p.1 k) := by
  induction m with
  | nil => simp [withoutG, hasAt, lb]
  | cons x xs ih =>
    have hp := List.pairwise_cons.1 (risesM_iff.1 hr)
    by_cases hx : lt x.1 k = true
    · have hne : eq x.1 k = false := by
        cases hc : eq x.1 k with
        | false => rfl
        | true => rw [(he _ _).1 hc, O.irrefl] at hx; cases hx
      have hlb : lb lt ((x :: xs).map Prod.fst) k = lb lt (xs.map Prod.fst) k + 1 := by simp [lb, List.takeWhile_cons, hx]
      have hh : hasAt lt eq ((x :: xs).map Prod.fst) k = hasAt lt eq (xs.map Prod.fst) k := by unfold hasAt; rw [hlb]; simp
      have e : withoutG lt eq (x :: xs) k = x :: withoutG lt eq xs k := by
        unfold withoutG
        rw [hh, hlb]
        split <;> simp
      rw [e, ih (risesM_iff.2 hp.2), List.filter_cons, hne]
      simp
    · have hx' : lt x.1 k = false := by simpa using hx
      have hlb : lb lt ((x :: xs).map Prod.fst) k = 0 := by simp [lb, List.takeWhile_cons, hx']
      have hh : hasAt lt eq ((x :: xs).map Prod.fst) k = eq x.1 k := by unfold hasAt; rw [hlb]; simp
      have hne : ∀ y ∈ xs, eq y.1 k = false := by
        intro y hy
        cases hc : eq y.1 k with
        | false => rfl
        | true =>
          have h1 := hp.1 y hy
          rw [(he _ _).1 hc, hx'] at h1; cases h1
      unfold withoutG
      rw [hh, hlb, List.filter_cons, filter_all' (l := xs) (fun y hy => by rw [hne y hy]; rfl)]
      cases heq : eq x.1 k <;> simp
theorem with_rises (O : StrictOrd lt) (he : ∀ a b, eq a b = true ↔ a = b) {m : List (α × β)} (hr : RisesM lt m) (k : α) (v : β) : RisesM lt (withG lt eq m k v) := by
  rw [with_eq O he hr]
  have h0 := risesM_iff.1 hr
  refine risesM_iff.2 ?_
  rw [List.append_assoc, List.pairwise_append]
  refine ⟨h0.sublist List.filter_sublist, ?_, ?_⟩
  · rw [List.cons_append, List.nil_append, List.pairwise_cons]
    exact ⟨fun y hy => (List.mem_filter.1 hy).2, h0.sublist List.filter_sublist⟩
  · intro a ha b hb
    have ha := (List.mem_filter.1 ha).2
    rcases List.mem_append.1 hb with hb | hb
    · obtain rfl : b = (k, v) := by simpa using hb
      exact ha
    · exact O.trans _ _ _ ha (List.mem_filter.1 hb).2
theorem without_rises (O : StrictOrd lt) (he : ∀ a b, eq a b = true ↔ a = b) {m : List (α × β)} (hr : RisesM lt m) (k : α) : RisesM lt (withoutG lt eq m k) := by
  rw [without_eq O he hr]
  exact risesM_iff.2 ((risesM_iff.1 hr).sublist List.filter_sublist)
/-- What is found is what is there. -/
theorem get_mem (O : StrictOrd lt) (he : ∀ a b, eq a b = true ↔ a = b) {m : List (α × β)} (hr : RisesM lt m) {k : α} {v none : β} (h : (k, v) ∈ m) : getG lt eq none m k = (v, true) := by
  obtain ⟨i, hi, hiv⟩ := List.mem_iff_getElem.1 h
  have hmk : k ∈ m.map Prod.fst := List.mem_map.2 ⟨_, h, rfl⟩
  have hh := (hasAt_iff O he hr).2 hmk
  have hki : (m.map Prod.fst)[i]'(by simpa using hi) = k := by simp [hiv]
  have hlb : lb lt (m.map Prod.fst) k = i := by
    have hl : lb lt (m.map Prod.fst) k < (m.map Prod.fst).length := by
      apply Nat.lt_of_not_le
      intro hc
      rw [hasAt_ge (by omega)] at hh; cases hh
    rw [hasAt_lt hl] at hh
    have h2 := (he _ _).1 hh
    rcases Nat.lt_trichotomy (lb lt (m.map Prod.fst) k) i with h3 | h3 | h3
    · have := List.pairwise_iff_getElem.1 hr _ _ hl (by simpa using hi) h3
      rw [h2, hki, O.irrefl] at this; cases this
    · exact h3
    · have := List.pairwise_iff_getElem.1 hr _ _ (by simpa using hi) hl h3
      rw [h2, hki, O.irrefl] at this; cases this
  unfold getG
  rw [if_pos hh, hlb, List.getD_eq_getElem?_getD, List.getElem?_map, List.getElem?_eq_getElem hi, hiv]
  rfl
theorem get_none (O : StrictOrd lt) (he : ∀ a b, eq a b = true ↔ a = b) {m : List (α × β)} (hr : RisesM lt m) {k : α} {none : β} (h : k ∉ m.map Prod.fst) : getG lt eq none m k = (none, false) := by
  unfold getG
  rw [if_neg (fun hc => h ((hasAt_iff O he hr).1 hc))]
theorem get_with (O : StrictOrd lt) (he : ∀ a b, eq a b = true ↔ a = b) {m : List (α × β)} (hr : RisesM lt m) (k : α) (v none : β) : getG lt eq none (withG lt eq m k v) k = (v, true) :=
  get_mem O he (with_rises O he hr k v) (by rw [with_eq O he hr]; simp)
theorem mem_with (O : StrictOrd lt) (he : ∀ a b, eq a b = true ↔ a = b) {m : List (α × β)} (hr : RisesM lt m) {k : α} {v : β} {p : α × β} : p ∈ withG lt eq m k v ↔ p = (k, v) ∨ (p ∈ m ∧ p.1 ≠ k) := by
  rw [with_eq O he hr]
  simp only [List.mem_append, List.mem_filter, List.mem_singleton]
  constructor
  · rintro ((⟨h1, h2⟩ | h) | ⟨h1, h2⟩)
    · exact .inr ⟨h1, fun hc => by rw [hc, O.irrefl] at h2; cases h2⟩
    · exact .inl h
    · exact .inr ⟨h1, fun hc => by rw [hc, O.irrefl] at h2; cases h2⟩
  · rintro (h | ⟨h1, h2⟩)
    · exact .inl (.inr h)
    · cases ha : lt p.1 k with
      | true => exact .inl (.inl ⟨h1, rfl⟩)
      | false =>
        cases hb : lt k p.1 with
        | true => exact .inr ⟨h1, rfl⟩
        | false => exact absurd (O.total _ _ ha hb) h2
end
end Go.Proofs.Ytljgfapbbhbbpaa
namespace Go.Proofs.Ytljgfapbbhbbpaa
open Go Go.Proofs.Ytljgfapbbhbbpaa.Sym
set_option maxRecDepth 100000
set_option linter.unusedSimpArgs false
set_option linter.unusedVariables false

abbrev u64 (n : Int) : AV := .v (.int .u64 n)
abbrev i64 (n : Int) : AV := .v (.int .i64 n)
abbrev bool (b : Bool) : AV := .v (.bool b)
abbrev str (s : ByteArray) : AV := .v (.string s)
theorem wrap_i64 {n : Int} (h1 : -9223372036854775808 ≤ n) (h2 : n ≤ 9223372036854775807) : IntKind.i64.wrap n = n := by rw [IntKind.wrap_i64]; omega
theorem wrap_u64 {n : Int} (h1 : 0 ≤ n) (h2 : n ≤ 18446744073709551615) : IntKind.u64.wrap n = n := by rw [IntKind.wrap_u64]; omega
theorem at_map {α : Type} {l : List α} {f : α → AV} {i : Nat} (h : i < l.length) : (l.map f).getD (Int.toNat (i : Int)) .any = f l[i] := by
  simp [List.getD_eq_getElem?_getD, List.getElem?_eq_getElem h]
theorem set_same_map {α : Type} {l : List α} {f : α → AV} {i : Nat} (h : i < l.length) {x : AV} (hx : x = f l[i]) : (l.map f).set i x = l.map f := by
  subst hx
  apply List.ext_getElem?
  intro j
  by_cases hj : i = j
  · subst hj
    rw [List.getElem?_set_self (by simpa using h), List.getElem?_map, List.getElem?_eq_getElem h]; rfl
  · rw [List.getElem?_set_ne hj]
theorem cut_last {i sz : Nat} {f : AV} {xs : List AV} (h : i < xs.length) : (if 0 + (xs.length - 1) ≤ (xs.take i ++ xs.drop (i + 1) ++ [f]).length then AV.sl sz ((xs.take i ++ xs.drop (i + 1) ++ [f]).take (xs.length - 1)) else .any) = .sl sz (xs.take i ++ xs.drop (i + 1)) := by
  rw [if_pos (by simp; omega), List.take_append_of_le_length (by simp; omega), List.take_of_length_le (by simp; omega)]
theorem half_idx {i j : Nat} (h : i + j ≤ 9223372036854775807) (hij : i < j) : i ≤ (i + j) / 2 ∧ (i + j) / 2 < j ∧ IntKind.i64.wrap (shrF .u64 (IntKind.u64.wrap (IntKind.i64.wrap ((i : Int) + (j : Int)))) 1) = (((i + j) / 2 : Nat) : Int) := by
  refine ⟨by omega, by omega, ?_⟩
  have e : IntKind.i64.wrap ((i : Int) + (j : Int)) = ((i + j : Nat) : Int) := by rw [wrap_i64 (by omega) (by omega)]; rfl
  rw [e, wrap_u64 (by omega) (by omega)]
  have e2 : shrF .u64 ((i + j : Nat) : Int) 1 = (((i + j) / 2 : Nat) : Int) := by
    show ((i + j : Nat) : Int).fdiv (2 ^ 1) = _
    rw [Int.fdiv_eq_ediv_of_nonneg _ (by decide)]
    omega
  rw [e2, wrap_i64 (by omega) (by omega)]

theorem cmpNaN_int (a : Int) : PCall P 124 [i64 a] (fun x => x = bool false) := by
  refine pcall_go tyOk Try.func124 rfl rfl ?_
  intro K hK
  simp only [Try.ntmps124, List.length_cons, List.length_nil, Nat.reduceAdd, Nat.reduceSub, List.replicate, List.cons_append, List.nil_append]
  try simp (maxSteps := 1000000) only [go_region, go_seq, go_ret, go_ops_nil, go_op, opK_none, contK_some, callOf, fstep, fpre, fstep0, fbinA, fbin, fbin0, St.ev, St.put, List.getD_cons_zero, List.getD_cons_succ, List.set, true_and, Bool.true_and, bne_self_eq_false]
  apply hK
  simp only [Try.results124, retK, ares, List.take_nil, Bool.and_true, Bool.true_and, AV.ofResults, St.trunc, truncVs, truncV, List.getD_cons_zero, List.getD_cons_succ, List.map_nil, true_and, and_true, List.cons.injEq, exists_eq_left']
theorem cmpNaN_str (a : ByteArray) : PCall P 126 [str a] (fun x => x = bool false) := by
  refine pcall_go tyOk Try.func126 rfl rfl ?_
  intro K hK
  simp only [Try.ntmps126, List.length_cons, List.length_nil, Nat.reduceAdd, Nat.reduceSub, List.replicate, List.cons_append, List.nil_append]
  try simp (maxSteps := 1000000) only [go_region, go_seq, go_ret, go_ops_nil, go_op, opK_none, contK_some, callOf, fstep, fpre, fstep0, fbinA, fbin, fbin0, St.ev, St.put, List.getD_cons_zero, List.getD_cons_succ, List.set, true_and, Bool.true_and, Bool.not_true, beq_self_eq_true]
  apply hK
  simp only [Try.results126, retK, ares, List.take_nil, Bool.and_true, Bool.true_and, AV.ofResults, St.trunc, truncVs, truncV, List.getD_cons_zero, List.getD_cons_succ, List.map_nil, true_and, and_true, List.cons.injEq, exists_eq_left']
theorem slicesNaN_str (a : ByteArray) : PCall P 119 [str a] (fun x => x = bool false) := by
  refine pcall_go tyOk Try.func119 rfl rfl ?_
  intro K hK
  simp only [Try.ntmps119, List.length_cons, List.length_nil, Nat.reduceAdd, Nat.reduceSub, List.replicate, List.cons_append, List.nil_append]
  try simp (maxSteps := 1000000) only [go_region, go_seq, go_ret, go_ops_nil, go_op, opK_none, contK_some, callOf, fstep, fpre, fstep0, fbinA, fbin, fbin0, St.ev, St.put, List.getD_cons_zero, List.getD_cons_succ, List.set, true_and, Bool.true_and, Bool.not_true, beq_self_eq_true]
  apply hK
  simp only [Try.results119, retK, ares, List.take_nil, Bool.and_true, Bool.true_and, AV.ofResults, St.trunc, truncVs, truncV, List.getD_cons_zero, List.getD_cons_succ, List.map_nil, true_and, and_true, List.cons.injEq, exists_eq_left']
theorem less_str (a b : ByteArray) : PCall P 118 [str a, str b] (fun x => x = bool (ltS a b)) := by
  refine pcall_go tyOk Try.func118 rfl rfl ?_
  intro K hK
  simp only [Try.ntmps118, List.length_cons, List.length_nil, Nat.reduceAdd, Nat.reduceSub, List.replicate, List.cons_append, List.nil_append]
  try simp (maxSteps := 1000000) only [go_region, go_seq, go_ops_nil, go_op, opK_none, opK_some, contK_some, callOf, callK_eq, callJ_nil, callD_fn, fstep, fpre, fstep0, evs, St.ev, St.put, AV.owners, ownersAll, List.getD_cons_zero, List.getD_cons_succ, List.set, List.append_nil, true_and, Bool.true_and]
  (refine callG_use (cmpNaN_str a) rfl ?_; rintro _ rfl)
  try simp (maxSteps := 1000000) only [go_ret, go_ops_nil, go_op, go_guard, opK_none, contK_some, guardK_eq, guardV_ft, guardV_ff, undef, callOf, fstep, fpre, fstep0, fbinA, fbin, fbin0, fpick, St.ev, St.put, List.getD_cons_zero, List.getD_cons_succ, List.set, List.getElem?_cons_zero, List.getElem?_cons_succ, Option.bind_some, List.getElem?_toArray, true_and, Bool.true_and, Bool.false_eq_true, ↓reduceIte, cond_false]
  apply hK
  simp only [Try.results118, retK, ares, List.take_nil, Bool.and_true, Bool.true_and, AV.ofResults, St.trunc, truncVs, truncV, List.getD_cons_zero, List.getD_cons_succ, List.map_nil, true_and, and_true, List.cons.injEq, exists_eq_left']
  rfl
/-- The library's search in a slice whose elements rise. -/
theorem search_str (ks : List ByteArray) (hr : Rises ltS ks) (k : ByteArray) (hlen : ks.length ≤ 1000000) :
    PCall P 102 [.sl 1 (ks.map fun x => str x), str k] (fun x => x = .tup [i64 ((lb ltS ks k : Nat) : Int), bool (hasAt ltS eqS ks k)]) := by
  refine pcall_go tyOk Try.func102 rfl rfl ?_
  intro K hK
  simp only [Try.ntmps102, List.length_cons, List.length_nil, Nat.reduceAdd, Nat.reduceSub, List.replicate, List.cons_append, List.nil_append]
  try simp (maxSteps := 1000000) only [go_region, go_seq, go_block, go_loop, go_ops_nil, go_op, opK_none, contK_some, callOf, fstep, fpre, fstep0, flen, T, St.ev, St.put, List.getD_cons_zero, List.getD_cons_succ, List.set, true_and, Bool.true_and, List.length_map]
  have hle := lb_le (lt := ltS) ks k
  refine loopK_rule tyOk (α := Nat × Nat) 0 [0, 1, 4, 5, 6, 7, 8] (fun q => q.1 ≤ lb ltS ks k ∧ lb ltS ks k ≤ q.2 ∧ q.2 ≤ ks.length)
    (fun q => ⟨[.sl 1 (ks.map fun x => str x), str k, .any, .any, i64 0, bool false, i64 ks.length, i64 q.1, i64 q.2, .any, .any, .any, .any, .any, .any, .any, .any, .any, .any, .any, .any, .any, .any, .any, .any, .any, .any, .any, .any, .any, .any, .any, .any, .any, .any, .any, .any, .any, .any, .any, .any, .any, .any, .any, .any, .any, .any, .any, .any, .any, .any, .any, .any, .any], []⟩)
    (fun q => q.2 - q.1) (0, ks.length) (Nat.zero_le _) ⟨Nat.zero_le _, hle, Nat.le_refl _⟩ rfl ?_
  rintro ⟨i, j⟩ ⟨h1, h2, h3⟩
  simp only at h1 h2 h3
  try simp (maxSteps := 1000000) only [go_region, go_seq, go_cond, go_ops_nil, go_op, opK_none, contK_some, callOf, fstep, fpre, fstep0, fbinA, fbin, fbin0, St.ev, St.put, List.getD_cons_zero, List.getD_cons_succ, List.set, true_and, Bool.true_and]
  (first | refine guardV_split ?_ ?_ | refine condK_split ?_ ?_ | refine drawV_split ?_ ?_ | refine condY_split ?_ ?_ | refine guardY_split ?_ ?_) <;> intro hc <;> try simp (maxSteps := 1000000) only [go_skip, go_region, go_seq, go_block, go_exit, exitK_code, exitK_blk, exitK_nil, go_ops_nil, go_op, go_guard, opK_none, opK_some, contK_some, condK_t, condK_f, guardK_eq, callOf, callK_eq, fstep, fpre, fstep0, fbinA, gbin, gbits, gnil, fbin, fbin0, fload, fcell, findexAddr, fconvA, fconvert, evs, T, TI.isAgg, St.ev, St.put, AV.cells, AV.known, AV.owners, ownersAll, Value.cells, List.getD_cons_zero, List.getD_cons_succ, List.set, List.append_nil, List.getElem?_cons_zero, List.getElem?_cons_succ, Option.bind_some, List.getElem?_toArray, true_and, Bool.true_and, Bool.false_eq_true, ↓reduceIte, Int.reduceLE, loopX_exit]
  · have hij : i < j := by simpa using hc
    obtain ⟨hh, hlt, ew⟩ := half_idx (i := i) (j := j) (by omega) hij
    have hhn : (i + j) / 2 < ks.length := by omega
    have eg := at_map (f := fun x : ByteArray => str x) hhn
    have k1 : (0 : Int) ≤ (((i + j) / 2 : Nat) : Int) ∧ Int.toNat (((i + j) / 2 : Nat) : Int) < ks.length := by omega
    have w1 : IntKind.i64.wrap ((((i + j) / 2 : Nat) : Int) + 1) = (((i + j) / 2 + 1 : Nat) : Int) := by rw [wrap_i64 (by omega) (by omega)]; rfl
    try simp (maxSteps := 1000000) only [callJ_nil, callD_fn, evs, St.ev, AV.owners, List.getD_cons_zero, List.getD_cons_succ, List.map_cons, List.map_nil, List.length_cons, List.length_nil, List.headD_cons, List.append_nil, true_and, and_true, Bool.and_true, Bool.true_and, Nat.reduceLT, Nat.zero_add, ew, eg, k1, List.length_map]
    (refine callG_use (less_str _ k) rfl ?_; rintro _ rfl)
    cases hl : ltS ks[(i + j) / 2] k
    · try simp (maxSteps := 1000000) only [go_nil, go_region, go_cond, go_blk, go_ops_nil, go_op, opK_none, contK_some, condK_f, callOf, fstep, fpre, fstep0, St.ev, St.put, List.getD_cons_zero, List.getD_cons_succ, List.set, true_and, Bool.true_and]
      simp only [loopX_normal, St.trunc, St.keep, truncVs, truncV, keepV, List.elem_cons, List.elem_nil, List.take_zero, List.map_nil, Nat.reduceAdd, Nat.reduceBEq, Nat.zero_add, Bool.false_eq_true, ↓reduceIte]
      refine ⟨(i, (i + j) / 2), ⟨h1, ?_, by omega⟩, by simp only; omega, rfl⟩
      apply Nat.le_of_not_lt
      intro hb
      have := lb_lt (lt := ltS) hb
      rw [hl] at this; cases this
    · try simp (maxSteps := 1000000) only [go_nil, go_region, go_cond, go_blk, go_ops_nil, go_op, opK_none, contK_some, condK_t, callOf, fstep, fpre, fstep0, fbinA, fbin, fbin0, St.ev, St.put, List.getD_cons_zero, List.getD_cons_succ, List.set, true_and, Bool.true_and, w1]
      simp only [loopX_normal, St.trunc, St.keep, truncVs, truncV, keepV, List.elem_cons, List.elem_nil, List.take_zero, List.map_nil, Nat.reduceAdd, Nat.reduceBEq, Nat.zero_add, Bool.false_eq_true, ↓reduceIte]
      refine ⟨((i + j) / 2 + 1, j), ⟨?_, h2, h3⟩, by simp only; omega, rfl⟩
      apply Nat.lt_of_not_le
      intro hb
      have := lb_ge ordS hr hhn hb
      rw [hl] at this; cases this
  · have hij : ¬ i < j := by simpa using hc
    obtain rfl : i = lb ltS ks k := by omega
    by_cases hn : lb ltS ks k < ks.length
    · have eg := at_map (f := fun x : ByteArray => str x) hn
      have k1 : (0 : Int) ≤ ((lb ltS ks k : Nat) : Int) ∧ Int.toNat ((lb ltS ks k : Nat) : Int) < ks.length := by omega
      have d1 : decide (((lb ltS ks k : Nat) : Int) < (ks.length : Int)) = true := decide_eq_true (by omega)
      have hh := hasAt_lt (eq := eqS) hn
      rw [hh] at hK
      cases he : eqS ks[lb ltS ks k] k
      · rw [he] at hK
        have he' := he
        simp only [eqS] at he'
        try simp (maxSteps := 1000000) only [go_guard, opK_none, opK_some, contK_some, guardK_eq, guardV_tt, guardV_ff, callOf, callK_eq, callJ_nil, callD_fn, fstep, fpre, fstep0, fbinA, fbin, fbin0, fload, fcell, findexAddr, evs, T, TI.isAgg, St.ev, St.put, AV.cells, AV.known, AV.owners, ownersAll, Value.cells, List.getD_cons_zero, List.getD_cons_succ, List.set, List.map_cons, List.map_nil, List.length_cons, List.length_nil, List.headD_cons, List.append_nil, List.getElem?_cons_zero, List.getElem?_cons_succ, Option.bind_some, List.getElem?_toArray, true_and, and_true, Bool.and_true, Bool.true_and, Bool.false_eq_true, ↓reduceIte, Nat.reduceLT, Nat.zero_add, d1, eg, k1, List.length_map, he']
        (refine callG_use (slicesNaN_str _) rfl ?_; rintro _ rfl)
        try simp (maxSteps := 1000000) only [go_ret, go_ops_nil, go_op, go_guard, opK_none, contK_some, guardK_eq, guardV_tt, guardV_ft, guardV_ff, undef, callOf, fstep, fpre, fstep0, fpick, St.ev, St.put, List.getD_cons_zero, List.getD_cons_succ, List.set, List.getElem?_cons_zero, List.getElem?_cons_succ, Option.bind_some, List.getElem?_toArray, true_and, Bool.true_and, Bool.false_eq_true, ↓reduceIte, cond_true, cond_false]
        apply hK
        simp only [Try.results102, retK, ares, List.take_nil, Bool.and_true, Bool.true_and, AV.ofResults, St.trunc, truncVs, truncV, List.getD_cons_zero, List.getD_cons_succ, List.map_nil, true_and, and_true, List.cons.injEq, exists_eq_left']
      · rw [he] at hK
        have he' := he
        simp only [eqS] at he'
        try simp (maxSteps := 1000000) only [go_ret, go_ops_nil, go_op, go_guard, opK_none, contK_some, guardK_eq, guardV_tt, guardV_tf, guardV_u, undef, callOf, fstep, fpre, fstep0, fbinA, fbin, fbin0, fload, fcell, findexAddr, fpick, T, TI.isAgg, St.ev, St.put, AV.cells, AV.known, Value.cells, List.getD_cons_zero, List.getD_cons_succ, List.set, List.map_cons, List.map_nil, List.length_cons, List.length_nil, List.headD_cons, List.getElem?_cons_zero, List.getElem?_cons_succ, Option.bind_some, List.getElem?_toArray, true_and, and_true, Bool.and_true, Bool.true_and, Bool.false_eq_true, ↓reduceIte, Nat.reduceLT, Nat.zero_add, cond_true, d1, eg, k1, List.length_map, he']
        apply hK
        simp only [Try.results102, retK, ares, List.take_nil, Bool.and_true, Bool.true_and, AV.ofResults, St.trunc, truncVs, truncV, List.getD_cons_zero, List.getD_cons_succ, List.map_nil, true_and, and_true, List.cons.injEq, exists_eq_left']
    · have d1 : decide (((lb ltS ks k : Nat) : Int) < (ks.length : Int)) = false := decide_eq_false (by omega)
      rw [hasAt_ge hn] at hK
      try simp (maxSteps := 1000000) only [go_ret, go_ops_nil, go_op, go_guard, opK_none, contK_some, guardK_eq, guardV_ft, guardV_u, undef, callOf, fstep, fpre, fstep0, fpick, St.ev, St.put, List.getD_cons_zero, List.getD_cons_succ, List.set, List.getElem?_cons_zero, List.getElem?_cons_succ, Option.bind_some, List.getElem?_toArray, true_and, Bool.true_and, Bool.false_eq_true, ↓reduceIte, d1]
      apply hK
      simp only [Try.results102, retK, ares, List.take_nil, Bool.and_true, Bool.true_and, AV.ofResults, St.trunc, truncVs, truncV, List.getD_cons_zero, List.getD_cons_succ, List.map_nil, true_and, and_true, List.cons.injEq, exists_eq_left']

end Go.Proofs.Ytljgfapbbhbbpaa
namespace Go.Proofs.Ytljgfapbbhbbpaa
open Go Go.Proofs.Ytljgfapbbhbbpaa.Sym
set_option maxRecDepth 100000
set_option linter.unusedSimpArgs false
set_option linter.unusedVariables false

/-- A session, as the program holds it. -/
structure Ses where
  id : Int
  st : Int
  pr : Int
  un : Int
  deriving DecidableEq
def Ses.av (s : Ses) : AV := .agg [i64 s.id, i64 s.st, i64 s.pr, u64 s.un]
abbrev sess (id st pr un : Int) : AV := .agg [i64 id, i64 st, i64 pr, u64 un]
def avs (l : List Ses) : List AV := l.map Ses.av
def Ses.lives (now : Int) (s : Ses) : Bool := !decide (s.un ≤ now)
def lives (now : Int) (l : List Ses) : List Ses := l.filter (Ses.lives now)
def Ses.ok (s : Ses) : Prop := (Lit.int .i64 s.id).wf = true ∧ (Lit.int .i64 s.st).wf = true ∧ (Lit.int .i64 s.pr).wf = true ∧ (Lit.int .u64 s.un).wf = true

theorem fits_ses {x : AV} (h : fitsAll [.int .i64, .int .i64, .int .i64, .int .u64] x.cells) (hx : x = .agg x.cells) : ∃ s : Ses, x = s.av ∧ s.ok := by
  obtain ⟨_, _, e1, ⟨a, rfl, ha⟩, _, _, rfl, ⟨b, rfl, hb⟩, _, _, rfl, ⟨c, rfl, hc⟩, _, _, rfl, ⟨d, rfl, hd⟩, rfl⟩ := h
  exact ⟨⟨a, b, c, d⟩, by rw [hx, e1]; rfl, ha, hb, hc, hd⟩

theorem fits_list {ys : List AV} (h : ∀ y ∈ ys, ∃ zs, fitsAll [.int .i64, .int .i64, .int .i64, .int .u64] zs ∧ y = pack true zs) : ∃ l : List Ses, ys = avs l ∧ ∀ s ∈ l, s.ok := by
  induction ys with
  | nil => exact ⟨[], rfl, fun s hs => by cases hs⟩
  | cons y ys ih =>
    obtain ⟨l, rfl, hl⟩ := ih (fun z hz => h z (List.mem_cons_of_mem _ hz))
    obtain ⟨zs, hz, rfl⟩ := h y List.mem_cons_self
    obtain ⟨s, hs, hs'⟩ := fits_ses (x := .agg zs) hz rfl
    refine ⟨s :: l, by rw [pack, if_pos rfl, hs]; rfl, fun t ht => ?_⟩
    rcases List.mem_cons.1 ht with rfl | ht
    · exact hs'
    · exact hl t ht

theorem tick_Late (a b : Int) : PCall P 96 [u64 a, u64 b] (fun x => x = bool (decide (b ≤ a))) := by
  refine pcall_go tyOk Try.func96 rfl rfl ?_
  intro K hK
  simp only [Try.ntmps96, List.length_cons, List.length_nil, Nat.reduceAdd, Nat.reduceSub, List.replicate, List.cons_append, List.nil_append]
  try simp (maxSteps := 1000000) only [go_region, go_seq, go_ret, go_ops_nil, go_op, opK_none, contK_some, callOf, fstep, fpre, fstep0, fbinA, fbin, fbin0, St.ev, St.put, List.getD_cons_zero, List.getD_cons_succ, List.set, true_and, Bool.true_and]
  apply hK
  simp only [Try.results96, retK, ares, List.take_nil, Bool.and_true, Bool.true_and, AV.ofResults, St.trunc, truncVs, truncV, List.getD_cons_zero, List.getD_cons_succ, List.map_nil, true_and, and_true, List.cons.injEq, exists_eq_left']

theorem avs_len (l : List Ses) : (avs l).length = l.length := by simp [avs]
theorem avs_get {l : List Ses} {i : Nat} (h : i < l.length) : (avs l).getD (Int.toNat (i : Int)) .any = (l[i]).av := by
  simp [avs, List.getD_eq_getElem?_getD, List.getElem?_map, List.getElem?_eq_getElem h]
theorem at_idx {l : List Ses} {i : Nat} (hb : l.length < 9223372036854775807) (h : decide ((i : Int) < (l.length : Int)) = true) :
    ∃ hlt : i < l.length, (avs l).getD (Int.toNat (i : Int)) .any = .agg [i64 (l[i]).id, i64 (l[i]).st, i64 (l[i]).pr, u64 (l[i]).un] ∧ IntKind.i64.wrap ((i : Int) + 1) = ((i + 1 : Nat) : Int) ∧ ((0 : Int) ≤ (i : Int) ∧ Int.toNat (i : Int) < l.length) := by
  have hlt : i < l.length := by simpa using h
  exact ⟨hlt, avs_get hlt, by rw [wrap_i64 (by omega) (by omega)]; rfl, by omega⟩
theorem at_end {n i : Nat} (hi : i ≤ n) (h : decide ((i : Int) < (n : Int)) = false) : i = n := by
  have : ¬ ((i : Int) < (n : Int)) := by simpa using h
  omega

theorem ses_beq (s t : Ses) : (s.id == t.id && (s.st == t.st && (s.pr == t.pr && s.un == t.un))) = decide (s = t) := by
  cases s; cases t
  rw [Bool.eq_iff_iff]
  simp
theorem take_take_succ {a b : List Ses} {i : Nat} (h1 : i < a.length) (h2 : i < b.length) : (a.take (i + 1) = b.take (i + 1)) ↔ (a.take i = b.take i ∧ a[i] = b[i]) := by
  rw [take_one h1, take_one h2]
  constructor
  · intro h
    have := List.append_inj h (by simp; omega)
    exact ⟨this.1, by simpa using this.2⟩
  · rintro ⟨h3, h4⟩; rw [h3, h4]

theorem lives_take_skip {now : Int} {l : List Ses} {i : Nat} (h : i < l.length) (hl : (l[i]).lives now = false) : lives now (l.take (i + 1)) = lives now (l.take i) := by
  rw [take_one h, lives, List.filter_append, lives]; simp [hl]
theorem lives_take_in {now : Int} {l : List Ses} {i : Nat} (h : i < l.length) (hl : (l[i]).lives now = true) : lives now (l.take (i + 1)) = lives now (l.take i) ++ [l[i]] := by
  rw [take_one h, lives, List.filter_append, lives]; simp [hl]

theorem snoc_ind {α : Type} {p : List α → Prop} (h0 : p []) (h1 : ∀ l a, p l → p (l ++ [a])) : ∀ l, p l := by
  intro l
  rw [← List.reverse_reverse l]
  induction l.reverse with
  | nil => exact h0
  | cons a l ih => rw [List.reverse_cons]; exact h1 _ _ ih

/-- slices.Clone[[]doorman/api.Session,doorman/api.Session]: a new row. -/
theorem clone_ses (xs : List AV) (hlen : xs.length ≤ 1000000) :
    ACall P 94 [] [.sl 4 xs] (fun x m' => x = .own 0 4 0 xs.length ∧ m' = [.row 91 4 xs]) := by
  have hm : xs.length ≤ maxLen := by simp only [maxLen]; omega
  have hby : xs.length * 32 ≤ 140737488355328 := by omega
  by_cases h0 : xs = []
  · subst h0
    refine ACall.empty fun a cap => ?_
    cases a with
    | none =>
      refine ACall.weaken (K := fun x m' => x = .v (.slice none 0 0) ∧ m' = []) (ACallN.toA (acallM_go tyOk Try.func94 rfl rfl (N := 0) (M := 1) (Nat.zero_le _) (by simp) ?_)) ?_
      · intro K hK
        simp only [Try.ntmps94, List.length_cons, List.length_nil, Nat.reduceAdd, Nat.reduceSub, List.replicate, List.cons_append, List.nil_append]
        try simp (maxSteps := 1000000) only [go_region, go_seq, go_cond, go_ret, go_ops_nil, go_op, opK_none, contK_some, condK_t, callOf, fstep, fpre, fstep0, fbinA, gbin, gnil, isSliceTy, Option.isNone_none, fbin, fbin0, T, St.ev, St.put, List.getD_cons_zero, List.getD_cons_succ, List.set, true_and, Bool.true_and]
        apply hK
        simp only [Try.results94, retK, ares, List.take_nil, Bool.and_true, AV.ofResults, St.trunc, truncVs, truncV, List.getD_cons_zero, List.getD_cons_succ, List.map_nil, and_true, List.cons.injEq, exists_eq_left']
      · rintro x m' ⟨rfl, rfl⟩
        exact ⟨_, _, Turns.adopt (i := 0) 91 4 rfl, rfl, rfl⟩
    | some a =>
      refine ACallN.toA (acallM_go tyOk Try.func94 rfl rfl (N := 0) (M := 1) (Nat.zero_le _) (by simp) ?_)
      intro K hK
      simp only [Try.ntmps94, List.length_cons, List.length_nil, Nat.reduceAdd, Nat.reduceSub, List.replicate, List.cons_append, List.nil_append]
      try simp (maxSteps := 1000000) only [go_skip, go_region, go_seq, go_cond, go_ret, go_ops_nil, go_op, opK_none, contK_some, condK_f, callOf, fstep, fpre, fpost, fstep0, fbinA, gbin, gnil, isSliceTy, gappend, gapp, gelems, Option.isNone_some, fbin, fbin0, evParts, evOwners, fbuildSlice, felems, fappend, T, TI.isAgg, TI.zeroOk, setParts, partsOk, St.ev, St.put, St.shutAll, St.rehome, killV, killVs, AB.kill, Value.oneCell', List.getD_cons_zero, List.getD_cons_succ, List.set, List.map_cons, List.map_nil, List.length_cons, List.length_nil, List.all_cons, List.all_nil, List.nil_append, List.append_nil, List.getElem?_cons_zero, List.replicate, true_and, and_true, Bool.and_true, Bool.true_and, Bool.and_self, Bool.or_false, ↓reduceIte, decide_true, decide_false, Nat.reduceAdd, Nat.reduceMul, Nat.reduceEqDiff, Nat.reduceLT, Nat.zero_le, Nat.le_refl, Nat.add_zero, Nat.zero_add]
      apply hK
      simp only [Try.results94, retK, ares, List.take_nil, Bool.and_true, AV.ofResults, St.trunc, truncVs, truncV, AB.trunc, List.getD_cons_zero, List.getD_cons_succ, List.take_succ_cons, List.map_nil, List.map_cons, List.length_nil, Nat.reduceLeDiff, and_true, ↓reduceIte, List.cons.injEq, exists_eq_left']
  · have hpos : 0 < xs.length := List.length_pos_iff.2 h0
    refine ACallN.toA (acallM_go tyOk Try.func94 rfl rfl (N := 0) (M := 1) (Nat.zero_le _) (by simp) ?_)
    intro K hK
    simp only [Try.ntmps94, List.length_cons, List.length_nil, Nat.reduceAdd, Nat.reduceSub, List.replicate, List.cons_append, List.nil_append]
    try simp (maxSteps := 1000000) only [go_skip, go_region, go_seq, go_cond, go_ret, go_ops_nil, go_op, opK_none, contK_some, condK_f, callOf, fstep, fpre, fstep0, fbinA, gbin, gnil, isSliceTy, fbin, fbin0, evParts, evOwners, fbuildSlice, felems, fappend, T, TI.isAgg, TI.zeroOk, setParts, partsOk, St.ev, St.put, St.shutAll, St.rehome, killV, killVs, AB.kill, Value.oneCell', List.getD_cons_zero, List.getD_cons_succ, List.set, List.map_cons, List.map_nil, List.length_cons, List.length_nil, List.all_cons, List.all_nil, List.nil_append, List.getElem?_cons_zero, List.replicate, true_and, and_true, Bool.and_true, Bool.true_and, Bool.and_self, Bool.or_false, ↓reduceIte, decide_true, decide_false, Nat.reduceAdd, Nat.reduceMul, Nat.reduceEqDiff, Nat.reduceLT, Nat.zero_le, Nat.le_refl, Nat.zero_add, hpos]
    refine ⟨⟨hm, hby⟩, ?_⟩
    skip
    apply hK
    simp only [Try.results94, retK, ares, List.take_nil, Bool.and_true, AV.ofResults, St.trunc, truncVs, truncV, AB.trunc, List.getD_cons_zero, List.getD_cons_succ, List.take_succ_cons, List.map_nil, List.map_cons, Nat.reduceLeDiff, and_true, ↓reduceIte, List.cons.injEq, exists_eq_left']

/-- slices.Delete[[]doorman/api.Session,doorman/api.Session]: one element is taken out. -/
theorem delete_ses (xs : List AV) (i : Nat) (hi : i < xs.length) (hlen : xs.length ≤ 1000000) :
    ACall P 99 [.row 91 4 xs] [.own 0 4 0 xs.length, i64 (i : Int), i64 ((i + 1 : Nat) : Int)] (fun x m' => x = .own 0 4 0 (xs.length - 1) ∧ m' = [.row 91 4 (xs.take i ++ xs.drop (i + 1) ++ [(AV.agg [i64 0, i64 0, i64 0, u64 0])])]) := by
  refine ACall.weaken (K := fun x m' => x = .own 0 4 0 (xs.length - 1) ∧ ∃ N, m' = [.rowc 91 4 (xs.take i ++ xs.drop (i + 1) ++ [(AV.agg [i64 0, i64 0, i64 0, u64 0])]) N]) (ACallN.toA (m := [_]) (ACallN.room (by decide) fun N hN _ => ?_)) ?_
  · refine acallN_go tyOk Try.func99 rfl rfl (by simp) ?_
    intro K hK
    simp only [Try.ntmps99, List.length_cons, List.length_nil, Nat.reduceAdd, Nat.reduceSub, List.replicate, List.cons_append, List.nil_append]
    have f1 : ((i : Int) == ((i + 1 : Nat) : Int)) = false := by simp; omega
    try simp (maxSteps := 1000000) only [go_skip, go_region, go_seq, go_cond, go_draws, go_ops_nil, go_op, opK_none, contK_some, condK_f, callOf, fstep, fpre, fstep0, fsliceA, gsliceL, gsliceR, gbound, fbinA, fbin, fbin0, flen, fslice, optEv, T, St.ev, St.put, List.getD_cons_zero, List.getD_cons_succ, List.set, Option.isSome_some, true_and, and_true, Bool.and_true, Bool.true_and, Nat.le_refl, Int.toNat_natCast, f1]
    refine ⟨by omega, ?_⟩
    by_cases he : i + 1 = xs.length
    · have e1 : (xs.take i ++ xs.drop i).length = xs.length := by rw [List.take_append_drop]
      have e2 : ((xs.take i ++ xs.drop i).take i ++ List.replicate (xs.length - i) ((AV.agg [i64 0, i64 0, i64 0, u64 0]))) ++ (xs.take i ++ xs.drop i).drop (i + (xs.length - i)) = xs.take i ++ xs.drop (i + 1) ++ [(AV.agg [i64 0, i64 0, i64 0, u64 0])] := by
        rw [List.take_append_drop, List.drop_of_length_le (by omega), List.drop_of_length_le (by omega), show xs.length - i = 1 by omega, List.append_nil, List.append_nil]
        rfl
      have hni : ¬ i = xs.length := by omega
      refine draw_rule tyOk (by rfl) (by simp only [List.length_cons, List.length_nil, Nat.reduceAdd, Nat.le_refl]) (by kernel_rfl) rfl ?_
      try simp (maxSteps := 1000000) only [go_region, go_seq, go_op, opK_none, contK_some, callOf, fstep, fpre, fpost, fstep0, fsliceA, gsliceL, gsliceR, gpart, gbound, gelems, gclear, putSeg, dappendC, flen, felems, fslice, optEv, T, TI.isAgg, TI.zeroOk, TI.zav, St.ev, St.put, Value.oneCell', List.getD_cons_zero, List.getD_cons_succ, List.set, List.map_cons, List.map_nil, List.length_cons, List.length_nil, List.all_cons, List.all_nil, List.append_nil, List.getElem?_cons_zero, List.replicate, true_and, and_true, Bool.and_true, Bool.true_and, Bool.and_self, Bool.or_false, Bool.false_eq_true, ↓reduceIte, decide_true, decide_false, Nat.reduceAdd, Nat.reduceEqDiff, Nat.reduceLT, Nat.le_refl, Nat.add_zero, Nat.zero_add, newCount, drawR_nil, drawR_op, drawP_none, drawQ_some, dstep, isFree, dappend, St.app, bump, isNew, List.length_replicate, Int.toNat_natCast, he]
      refine ⟨by omega, by omega, by omega, ?_⟩
      refine ⟨by kernel_rfl, ?_⟩
      try simp (maxSteps := 1000000) only [go_region, go_seq, go_ret, go_ops_nil, go_op, opK_none, contK_some, callOf, fstep, fpre, fstep0, St.ev, St.put, List.getD_cons_zero, List.getD_cons_succ, List.set, List.getElem?_cons_zero, true_and, Bool.true_and, ↓reduceIte, hni, e1]
      refine ⟨by omega, by omega, ?_⟩
      apply hK
      simp only [Try.results99, retK, ares, List.take_nil, Bool.and_true, AV.ofResults, St.trunc, truncVs, truncV, AB.trunc, List.getD_cons_zero, List.getD_cons_succ, List.take_succ_cons, List.map_nil, List.map_cons, List.length_cons, List.length_nil, Nat.reduceAdd, Nat.reduceLeDiff, and_true, ↓reduceIte, List.cons.injEq, exists_eq_left']
      simp only [e2]
      exact ⟨by congr 1; omega, N, rfl⟩
    · have hd : (xs.drop (i + 1)).length = xs.length - (i + 1) := by simp
      have ht : (xs.drop (i + 1)).take (xs.length - (i + 1)) = xs.drop (i + 1) := List.take_of_length_le (by simp)
      have hni : ¬ i + (xs.length - (i + 1)) = xs.length := by omega
      have e1 : (xs.take i ++ xs.drop (i + 1) ++ xs.drop (i + (xs.length - (i + 1)))).length = xs.length := by simp; omega
      have e2 : (xs.take i ++ xs.drop (i + 1) ++ xs.drop (i + (xs.length - (i + 1)))).take (i + (xs.length - (i + 1))) ++ List.replicate (xs.length - (i + (xs.length - (i + 1)))) ((AV.agg [i64 0, i64 0, i64 0, u64 0])) ++
          (xs.take i ++ xs.drop (i + 1) ++ xs.drop (i + (xs.length - (i + 1)))).drop (i + (xs.length - (i + 1)) + (xs.length - (i + (xs.length - (i + 1))))) = xs.take i ++ xs.drop (i + 1) ++ [(AV.agg [i64 0, i64 0, i64 0, u64 0])] := by
        rw [show xs.length - (i + (xs.length - (i + 1))) = 1 by omega, List.drop_of_length_le (l := xs.take i ++ xs.drop (i + 1) ++ xs.drop (i + (xs.length - (i + 1)))) (by rw [e1]; omega), List.append_nil,
          List.take_append_of_le_length (by simp; omega), List.take_of_length_le (by simp; omega)]
        rfl
      refine draw_rule tyOk (by rfl) (by simp only [List.length_cons, List.length_nil, Nat.reduceAdd, Nat.le_refl]) (by kernel_rfl) rfl ?_
      try simp (maxSteps := 1000000) only [go_region, go_seq, go_op, opK_none, contK_some, callOf, fstep, fpre, fpost, fstep0, fsliceA, gsliceL, gsliceR, gpart, gbound, gelems, gclear, putSeg, dappendC, flen, felems, fslice, optEv, T, TI.isAgg, TI.zeroOk, TI.zav, St.ev, St.put, Value.oneCell', List.getD_cons_zero, List.getD_cons_succ, List.set, List.map_cons, List.map_nil, List.length_cons, List.length_nil, List.all_cons, List.all_nil, List.append_nil, List.getElem?_cons_zero, List.replicate, true_and, and_true, Bool.and_true, Bool.true_and, Bool.and_self, Bool.or_false, Bool.false_eq_true, ↓reduceIte, decide_true, decide_false, Nat.reduceAdd, Nat.reduceEqDiff, Nat.reduceLT, Nat.le_refl, Nat.add_zero, Nat.zero_add, newCount, drawR_nil, drawR_op, drawP_none, drawQ_some, dstep, isFree, dappend, St.app, bump, isNew, List.length_replicate, Int.toNat_natCast, he, ht, hd]
      refine ⟨by omega, by omega, by omega, ?_⟩
      refine ⟨by kernel_rfl, ?_⟩
      try simp (maxSteps := 1000000) only [go_region, go_seq, go_ret, go_ops_nil, go_op, opK_none, contK_some, callOf, fstep, fpre, fstep0, St.ev, St.put, List.getD_cons_zero, List.getD_cons_succ, List.set, List.getElem?_cons_zero, true_and, Bool.true_and, ↓reduceIte, hni, e1]
      refine ⟨by omega, by omega, ?_⟩
      apply hK
      simp only [Try.results99, retK, ares, List.take_nil, Bool.and_true, AV.ofResults, St.trunc, truncVs, truncV, AB.trunc, List.getD_cons_zero, List.getD_cons_succ, List.take_succ_cons, List.map_nil, List.map_cons, List.length_cons, List.length_nil, Nat.reduceAdd, Nat.reduceLeDiff, and_true, ↓reduceIte, List.cons.injEq, exists_eq_left']
      simp only [e2]
      exact ⟨by congr 1; omega, N, rfl⟩
  · rintro x m' ⟨rfl, N, rfl⟩
    exact ⟨_, _, Turns.unroom, rfl, rfl⟩

/-- slices.Insert[[]doorman/api.Session,doorman/api.Session]: one element more. -/
theorem insert_ses (xs : List AV) (v : AV) (i : Nat) (hi : i ≤ xs.length) (hlen : xs.length ≤ 1000000) :
    ACallX P (fun _ => false) 98 [.row 91 4 xs] [.own 0 4 0 xs.length, i64 (i : Int), .sl 4 [v]] (fun x m' => x = .own 0 4 0 (xs.length + 1) ∧ m' = [.row 91 4 (xs.take i ++ [v] ++ xs.drop i)]) := by
  refine ACallN.relocate (ACallN.room (by decide) fun N hN _ => acallM_go tyOk Try.func98 rfl rfl (N := 0) (M := 2) (Nat.zero_le _) (by simp) ?_)
  intro K hK
  simp only [Try.ntmps98, List.length_cons, List.length_nil, Nat.reduceAdd, Nat.reduceSub, List.replicate, List.cons_append, List.nil_append]
  have w1 : IntKind.i64.wrap ((xs.length : Int) + ((1 : Nat) : Int)) = ((xs.length + 1 : Nat) : Int) := by rw [wrap_i64 (by omega) (by omega)]; rfl
  have w2 : IntKind.i64.wrap ((i : Int) + ((1 : Nat) : Int)) = ((i + 1 : Nat) : Int) := by rw [wrap_i64 (by omega) (by omega)]; rfl
  have w3 : IntKind.i64.wrap (((xs.length + 1 : Nat) : Int) - (i : Int)) = ((xs.length + 1 - i : Nat) : Int) := by rw [wrap_i64 (by omega) (by omega)]; omega
  have c1 : (((1 : Nat) : Int) == 0) = false := by decide
  by_cases hin : i = xs.length
  · subst hin
    try simp (maxSteps := 1000000) only [go_skip, go_region, go_seq, go_cond, go_ops_nil, go_op, opK_none, contK_some, condK_t, condK_f, callOf, fstep, fpre, fpost, fstep0, gsliceR, gpart, gbound, fbinA, gappend, gapp, gelems, putSeg, fbin, fbin0, flen, felems, fappend, optEv, T, TI.isAgg, TI.zeroOk, St.ev, St.put, Value.oneCell', List.getD_cons_zero, List.getD_cons_succ, List.set, List.length_cons, List.length_nil, List.all_cons, List.all_nil, List.cons_append, List.nil_append, List.getElem?_cons_zero, true_and, and_true, Bool.and_true, Bool.true_and, Bool.and_self, Bool.or_false, ↓reduceIte, decide_true, decide_false, Nat.reduceAdd, Nat.reduceEqDiff, Nat.reduceLT, Nat.le_refl, Nat.zero_add, beq_self_eq_true, Int.toNat_natCast, c1]
    refine ⟨by omega, ?_⟩
    by_cases hr : xs.length + 1 ≤ N
    · try simp (maxSteps := 1000000) only [go_ret, go_ops_nil, go_op, opK_none, contK_some, callOf, fstep, fpre, fstep0, St.ev, St.put, List.getD_cons_zero, List.getD_cons_succ, List.set, true_and, Bool.true_and, ↓reduceIte, hr]
      apply hK
      simp only [Try.results98, retK, ares, List.take_nil, Bool.and_true, Bool.true_and, AV.ofResults, St.trunc, truncVs, truncV, AB.trunc, List.getD_cons_zero, List.getD_cons_succ, List.take_succ_cons, List.map_nil, List.map_cons, Nat.reduceLeDiff, true_and, and_true, ↓reduceIte, List.cons.injEq, exists_eq_left']
      exact .inl ⟨N, [], by simp⟩
    · try simp (maxSteps := 1000000) only [go_ret, go_ops_nil, go_op, opK_none, contK_some, callOf, fstep, fpre, fstep0, St.ev, St.put, List.getD_cons_zero, List.getD_cons_succ, List.set, true_and, Bool.true_and, ↓reduceIte, hr]
      refine ⟨⟨by simp only [maxLen]; omega, by omega⟩, ?_⟩
      skip
      apply hK
      simp only [Try.results98, retK, ares, List.take_nil, Bool.and_true, Bool.true_and, AV.ofResults, St.trunc, truncVs, truncV, AB.trunc, List.getD_cons_zero, List.getD_cons_succ, List.take_succ_cons, List.map_nil, List.map_cons, Nat.reduceLeDiff, true_and, and_true, ↓reduceIte, List.cons.injEq, exists_eq_left']
      exact .inr (by simp)
  · have hlt : i < xs.length := by omega
    have c2 : ((i : Int) == (xs.length : Int)) = false := by simp; omega
    by_cases hr : xs.length + 1 ≤ N
    · have d1 : decide ((N : Int) < ((xs.length + 1 : Nat) : Int)) = false := decide_eq_false (by omega)
      have n1 : ¬ i + 1 = xs.length + 1 := by omega
      have n2 : ¬ i = xs.length + 1 := by omega
      try simp (maxSteps := 1000000) only [go_skip, go_region, go_seq, go_cond, go_ops_nil, go_op, opK_none, opK_some, contK_some, condK_f, callOf, callK_eq, callJ_cons, fstep, fpre, fpost, fstep0, gsliceR, gpart, gbound, fbinA, gcap, fbin, fbin0, flen, evs, optEv, T, St.ev, St.put, AV.owners, ownersAll, List.getD_cons_zero, List.getD_cons_succ, List.set, List.length_cons, List.length_nil, List.nil_append, List.append_nil, List.getElem?_cons_zero, true_and, and_true, Bool.and_true, Bool.true_and, ↓reduceIte, Nat.reduceLeDiff, Nat.reduceLT, Nat.zero_add, Int.toNat_natCast, c1, c2, w1, w2, Nat.sub_zero, d1, hin, n1]
      refine ⟨by omega, by omega, by omega, ?_⟩
      refine callO_own ?_
      try simp (maxSteps := 1000000) only [callD_fn, evs, St.ev, List.getD_cons_zero, List.getD_cons_succ, List.append_nil]
      refine callG_ext (xcall_overlaps (tS := 85) (tR := 4) (e := 91) tyOk Try.func115 rfl rfl (by kernel_rfl) (by kernel_rfl) rfl rfl rfl (by decide) rfl rfl) ?_
      try simp (maxSteps := 1000000) only [go_seq, go_cond, go_draws, go_ops_nil, go_op, opK_none, contK_some, condK_t, callOf, fstep, fpre, fstep0, funary, St.ev, St.put, List.getD_cons_zero, List.getD_cons_succ, List.set, true_and, Bool.true_and, Bool.not_false]
      have ek : (xs.drop i).take (min (xs.length + 1 - (i + 1)) (xs.length + 1 - i)) = xs.drop i := List.take_of_length_le (by simp; omega)
      refine draw_rule tyOk (by rfl) (by simp only [List.length_cons, List.length_nil, Nat.reduceAdd, Nat.zero_le]) (by kernel_rfl) rfl ?_
      try simp (maxSteps := 1000000) only [go_region, go_seq, go_ret, go_ops_nil, go_op, opK_none, contK_some, callOf, fstep, fpre, fpost, fstep0, fsliceA, gsliceL, gsliceR, gpart, gbound, fbinA, gtake, gcopy, putSeg, dcopy, fbin, fbin0, fslice, optEv, T, St.ev, St.put, List.getD_cons_zero, List.getD_cons_succ, List.set, List.length_cons, List.length_nil, List.append_nil, List.getElem?_cons_zero, List.replicate, true_and, and_true, Bool.and_true, Bool.true_and, Bool.false_eq_true, ↓reduceIte, Nat.reduceAdd, Nat.reduceLeDiff, Nat.reduceLT, Nat.le_refl, Nat.add_zero, Nat.zero_add, newCount, drawR_nil, drawR_op, drawP_none, drawQ_some, dstep, isFree, St.app, bump, isNew, List.length_append, Int.toNat_natCast, w2, n1, n2, ek]
      refine ⟨by omega, by omega, by omega, ?_⟩
      refine ⟨by kernel_rfl, ?_⟩
      have es : List.take (xs.length + 1 - i) [v] = [v] := List.take_of_length_le (by simp; omega)
      have e3 : (xs.take (i + 1) ++ xs.drop i ++ xs.drop (i + 1 + (xs.drop i).length)).take i ++ [v] ++ (xs.take (i + 1) ++ xs.drop i ++ xs.drop (i + 1 + (xs.drop i).length)).drop (i + 1) = xs.take i ++ [v] ++ xs.drop i := by
        have hl : (xs.take (i + 1)).length = i + 1 := by simp; omega
        have hd : xs.drop (i + 1 + (xs.drop i).length) = [] := List.drop_of_length_le (by simp; omega)
        rw [hd, List.append_nil, List.take_append_of_le_length (by omega), List.take_take, Nat.min_eq_left (by omega),
          List.drop_append_of_le_length (by omega), List.drop_of_length_le (by omega), List.nil_append]
      try simp (maxSteps := 1000000) only [List.length_cons, List.length_nil, Nat.zero_add, es]
      refine ⟨by omega, ⟨by omega, by simp; omega⟩, ?_⟩
      apply hK
      simp only [Try.results98, retK, ares, List.take_nil, Bool.and_true, Bool.true_and, AV.ofResults, St.trunc, truncVs, truncV, AB.trunc, List.getD_cons_zero, List.getD_cons_succ, List.take_succ_cons, List.map_nil, List.map_cons, Nat.reduceLeDiff, true_and, and_true, ↓reduceIte, List.cons.injEq, exists_eq_left']
      exact .inl ⟨N, [], by rw [e3, List.append_nil]⟩
    · have d1 : decide ((N : Int) < ((xs.length + 1 : Nat) : Int)) = true := decide_eq_true (by omega)
      have g1 : ¬ i + (xs.length + 1 - i) ≤ N := by omega
      have g2 : ¬ i = i + (xs.length + 1 - i) := by omega
      have g3 : ¬ i + 1 = i + (xs.length + 1 - i) := by omega
      have g4 : List.take (i + (xs.length + 1 - i) - i) [v] = [v] := List.take_of_length_le (by simp; omega)
      have g5 : (xs.drop i).take (min (i + (xs.length + 1 - i) - (i + 1)) (xs.length - i)) = xs.drop i := List.take_of_length_le (by simp; omega)
      try simp (maxSteps := 1000000) only [go_skip, go_region, go_seq, go_cond, go_draws, go_ops_nil, go_op, opK_none, contK_some, condK_t, condK_f, callOf, fstep, fpre, fpost, fstep0, fsliceA, gsliceL, gsliceR, gpart, gbound, fbinA, gappend, gapp, gtake, gcopy, gcap, putSeg, fbin, fbin0, flen, felems, fappend, fslice, optEv, T, TI.isAgg, TI.zeroOk, TI.zav, St.ev, St.put, Value.oneCell', List.getD_cons_zero, List.getD_cons_succ, List.set, List.map_cons, List.map_nil, List.length_cons, List.length_nil, List.all_cons, List.all_nil, List.cons_append, List.nil_append, List.getElem?_cons_zero, List.getElem?_cons_succ, true_and, and_true, Bool.and_true, Bool.true_and, Bool.and_self, Bool.or_false, ↓reduceIte, decide_true, decide_false, Nat.reduceAdd, Nat.reduceEqDiff, Nat.reduceLT, Nat.le_refl, Nat.zero_add, List.length_append, List.length_replicate, Int.toNat_natCast, c1, c2, w1, w3, Nat.sub_zero, d1, hin, g1, g2, g4]
      refine ⟨by omega, by omega, ⟨by omega, by omega, by omega, by omega, by simp only [maxLen]; omega, by omega⟩, by omega, ⟨by omega, by simp; omega⟩, ?_⟩
      refine draw_rule tyOk (by rfl) (by simp only [List.length_cons, List.length_nil, Nat.reduceAdd, Nat.zero_le]) (by kernel_rfl) rfl ?_
      try simp (maxSteps := 1000000) only [go_region, go_seq, go_ret, go_ops_nil, go_op, opK_none, contK_some, callOf, fstep, fpre, fstep0, fsliceA, gsliceL, gpart, gbound, fbinA, gtake, putSeg, dcopy, fbin, fbin0, fslice, optEv, T, St.ev, St.put, List.getD_cons_zero, List.getD_cons_succ, List.set, List.length_cons, List.length_nil, List.append_nil, List.getElem?_cons_zero, List.getElem?_cons_succ, List.replicate, true_and, and_true, Bool.and_true, Bool.true_and, Bool.false_eq_true, ↓reduceIte, Nat.reduceAdd, Nat.le_refl, Nat.add_zero, Nat.zero_add, newCount, drawR_nil, drawR_op, drawP_none, drawQ_some, dstep, isFree, St.app, bump, isNew, List.length_append, Int.toNat_natCast, w2, g3, g5, hin]
      have hB : (xs.take i ++ List.replicate (xs.length + 1 - i) ((AV.agg [i64 0, i64 0, i64 0, u64 0]))).take i = xs.take i := by
        rw [List.take_append_of_le_length (by simp; omega), List.take_take, Nat.min_self]
      have hli : (xs.take i).length = i := by simp; omega
      rw [hB]
      refine ⟨by omega, by omega, ⟨by omega, by omega, by simp; omega⟩, ?_⟩
      refine ⟨by kernel_rfl, ?_⟩
      skip
      apply hK
      simp only [Try.results98, retK, ares, List.take_nil, Bool.and_true, AV.ofResults, St.trunc, truncVs, truncV, AB.trunc, List.getD_cons_zero, List.getD_cons_succ, List.take_succ_cons, List.map_nil, List.map_cons, Nat.reduceLeDiff, and_true, ↓reduceIte, List.cons.injEq, exists_eq_left']
      have e4 : ∀ D : List AV, (xs.take i ++ [v] ++ D).take (i + 1) = xs.take i ++ [v] := fun D => by
        rw [List.take_append_of_le_length (by simp; omega), List.take_of_length_le (by simp; omega)]
      have e5 : (xs.take i ++ [v] ++ (xs.take i ++ List.replicate (xs.length + 1 - i) ((AV.agg [i64 0, i64 0, i64 0, u64 0]))).drop (i + 1)).drop (i + 1 + (xs.drop i).length) = [] := List.drop_of_length_le (by simp; omega)
      refine .inr ?_
      rw [e4, e5, List.append_nil]
      exact ⟨by congr 1; omega, rfl⟩

end Go.Proofs.Ytljgfapbbhbbpaa
namespace Go.Proofs.Ytljgfapbbhbbpaa
open Go Go.Proofs.Ytljgfapbbhbbpaa.Sym
set_option maxRecDepth 100000
set_option linter.unusedSimpArgs false
set_option linter.unusedVariables false

theorem avs_snoc (l : List Ses) (s : Ses) : avs l ++ [s.av] = avs (l ++ [s]) := by simp [avs]

theorem ref06_Purge (l : List Ses) (now : Int) (hlen : l.length ≤ 10000) : PCall P 72 [.sl 4 (avs l), u64 now] (fun x => x = .sl 4 (avs (lives now l))) := by
  refine pcall_go tyOk Try.func72 rfl rfl ?_
  intro K hK
  simp only [Try.ntmps72, List.length_cons, List.length_nil, Nat.reduceAdd, Nat.reduceSub, List.replicate, List.cons_append, List.nil_append]
  try simp (maxSteps := 1000000) only [go_region, go_seq, go_block, go_loop, go_ops_nil, go_op, opK_none, contK_some, callOf, fstep, fpre, fstep0, St.ev, St.put, List.set, true_and, Bool.true_and]
  refine loopK_turn (Turns.adopt (i := 5) 91 4 rfl) ?_
  refine loopK_rule tyOk (α := Nat) 1 [0, 1, 5, 6] (fun i => i ≤ l.length)
    (fun i => ⟨[.sl 4 (avs l), u64 now, .any, .any, .any, .own 0 4 0 (lives now (l.take i)).length, i64 i, .any, .any, .any, .any, .any, .any, .any, .any, .any, .any, .any, .any, .any, .any, .any, .any, .any, .any, .any, .any, .any], [.row 91 4 (avs (lives now (l.take i)))]⟩)
    (fun i => l.length - i) 0 (Nat.zero_le _) (Nat.zero_le _) rfl ?_
  intro i hi
  try simp (maxSteps := 1000000) only [go_region, go_seq, go_cond, go_ops_nil, go_op, opK_none, contK_some, callOf, fstep, fpre, fstep0, fbinA, fbin, fbin0, flen, T, St.ev, St.put, List.getD_cons_zero, List.getD_cons_succ, List.set, true_and, Bool.true_and, avs_len]
  (first | refine guardV_split ?_ ?_ | refine condK_split ?_ ?_ | refine drawV_split ?_ ?_ | refine condY_split ?_ ?_ | refine guardY_split ?_ ?_) <;> intro h <;> try simp (maxSteps := 1000000) only [go_skip, go_region, go_seq, go_block, go_exit, go_ret, exitK_code, exitK_blk, exitK_nil, go_ops_nil, go_op, opK_none, contK_some, condK_t, condK_f, callOf, fstep, fpre, fpost, fstep0, fbinA, gbin, gbits, gnil, fbin, fbin0, fbinS, fload, fcell, ffieldAddr, findexAddr, isBoolTy, T, TI.isAgg, St.ev, St.put, AV.cells, AV.known, Value.cells, List.getD_cons_zero, List.getD_cons_succ, List.set, List.getElem?_cons_zero, List.getElem?_cons_succ, List.getElem?_toArray, true_and, Bool.true_and, Bool.false_eq_true, ↓reduceIte, reduceCtorEq, ne_eq, not_false_eq_true, loopX_exit]
  · have hlt : i < l.length := by simpa using h
    have eg := avs_get hlt
    have ew : IntKind.i64.wrap ((i : Int) + 1) = ((i + 1 : Nat) : Int) := by rw [wrap_i64 (by omega) (by omega)]; rfl
    have c1 : (0 : Int) ≤ (i : Int) ∧ Int.toNat (i : Int) < l.length := by omega
    have hf : (lives now (l.take i)).length ≤ 10000 := Nat.le_trans (List.length_filter_le _ _) (by rw [List.length_take]; omega)
    try simp (maxSteps := 1000000) only [go_cond, go_ops_nil, contK_some, St.ev, St.put, List.getD_cons_zero, List.getD_cons_succ, List.set, List.length_cons, List.length_nil, List.drop_succ_cons, List.drop_zero, List.headD_cons, true_and, and_true, Bool.and_true, Bool.true_and, Nat.reduceLT, Nat.zero_add, eg, c1, Ses.av, avs_len]
    cases hl : (l[i]).lives now with
    | false =>
      have e1 : decide (now < (l[i]).un) = false := by
        simp only [Ses.lives, Bool.not_eq_false', decide_eq_true_eq] at hl
        simp; omega
      try simp (maxSteps := 1000000) only [go_nil, go_skip, go_region, go_blk, go_ops_nil, go_op, opK_none, contK_some, condK_f, callOf, fstep, fpre, fstep0, fbinA, fbin, fbin0, St.ev, St.put, List.getD_cons_zero, List.getD_cons_succ, List.set, true_and, Bool.true_and, e1, ew]
      simp only [loopX_normal, St.trunc, St.keep, truncVs, truncV, AB.trunc, keepV, List.elem_cons, List.elem_nil, List.take_succ_cons, List.take_zero, List.map_cons, List.map_nil, Nat.reduceAdd, Nat.reduceBEq, Nat.reduceLeDiff, Nat.zero_add, Bool.false_eq_true, ↓reduceIte]
      exact ⟨i + 1, hlt, by omega, by rw [lives_take_skip hlt hl]⟩
    | true =>
      have e1 : decide (now < (l[i]).un) = true := by
        simp only [Ses.lives, Bool.not_eq_true', decide_eq_false_iff_not] at hl
        simp; omega
      try simp (maxSteps := 1000000) only [go_nil, go_region, go_blk, go_ops_nil, go_op, opK_none, contK_some, condK_t, callOf, fstep, fpre, fstep0, fbinA, fbin, fbin0, fload, fcell, findexAddr, evParts, evOwners, fbuildSlice, felems, fappend, T, TI.isAgg, TI.zeroOk, TI.zav, setParts, partsOk, St.ev, St.put, St.shutAll, St.rehome, killV, killVs, AB.kill, AV.cells, AV.known, AV.flat, AV.pure, pureAll, AV.owners, ownersAll, Value.oneCell', List.getD_cons_zero, List.getD_cons_succ, List.set, List.map_cons, List.map_nil, List.length_cons, List.length_nil, List.all_cons, List.all_nil, List.drop_zero, List.take_succ_cons, List.take_zero, List.cons_append, List.nil_append, List.append_nil, List.getElem?_cons_zero, List.getElem?_cons_succ, List.replicate, true_and, and_true, Bool.and_true, Bool.true_and, Bool.and_self, Bool.or_false, ↓reduceIte, decide_true, decide_false, reduceCtorEq, Nat.reduceAdd, Nat.reduceMul, Nat.reduceLeDiff, Nat.reduceEqDiff, Nat.reduceLT, Nat.zero_le, Nat.le_refl, Nat.zero_add, e1, ew, eg, c1, Ses.av, avs_len]
      refine ⟨⟨by simp only [maxLen]; omega, by omega⟩, ?_⟩
      simp only [loopX_normal, St.trunc, St.keep, truncVs, truncV, AB.trunc, keepV, List.drop_zero, List.elem_cons, List.elem_nil, List.take_succ_cons, List.take_zero, List.map_cons, List.map_nil, List.getElem?_cons_zero, List.getElem?_cons_succ, List.length_cons, List.length_nil, Nat.reduceAdd, Nat.reduceBEq, Nat.reduceLeDiff, Nat.le_refl, Nat.zero_add, Bool.false_eq_true, ↓reduceIte]
      exact ⟨i + 1, hlt, by omega, by rw [lives_take_in hlt hl, ← avs_snoc, List.length_append]; rfl⟩
  · have hge : i = l.length := by have : ¬ ((i : Int) < (l.length : Int)) := by simpa using h
                                  omega
    subst hge
    apply hK
    simp only [Try.results72, retK, ares, Bool.and_true, Bool.true_and, AV.ofResults, St.trunc, truncVs, truncV, List.getD_cons_zero, List.getD_cons_succ, List.take_zero, List.drop_zero, List.map_nil, List.getElem?_cons_zero, Nat.le_refl, true_and, and_true, ↓reduceIte, List.cons.injEq, exists_eq_left']
    rw [List.take_length, if_pos (by rw [avs_len]; omega), List.take_of_length_le (by rw [avs_len]; exact Nat.le_refl _)]

def has (l : List Ses) (id : Int) : Bool := l.any (fun s => s.id == id)

theorem ref06_Has (l : List Ses) (id : Int) (hlen : l.length ≤ 10000) : PCall P 77 [.sl 4 (avs l), i64 id] (fun x => x = bool (has l id)) := by
  refine pcall_go tyOk Try.func77 rfl rfl ?_
  intro K hK
  simp only [Try.ntmps77, List.length_cons, List.length_nil, Nat.reduceAdd, Nat.reduceSub, List.replicate, List.cons_append, List.nil_append]
  try simp (maxSteps := 1000000) only [go_region, go_seq, go_block, go_loop, go_ops_nil, go_op, opK_none, contK_some, callOf, fstep, fpre, fstep0, St.ev, St.put, List.set, true_and, Bool.true_and]
  refine loopK_rule tyOk (α := Nat) 0 [0, 1, 5] (fun i => i ≤ l.length ∧ has (l.take i) id = false)
    (fun i => ⟨[.sl 4 (avs l), i64 id, .any, .any, .any, i64 i, .any, .any, .any, .any, .any, .any, .any, .any, .any, .any, .any, .any, .any], []⟩)
    (fun i => l.length - i) 0 (Nat.zero_le _) ⟨Nat.zero_le _, rfl⟩ rfl ?_
  intro i ⟨hi, hn⟩
  try simp (maxSteps := 1000000) only [go_region, go_seq, go_cond, go_ops_nil, go_op, opK_none, contK_some, callOf, fstep, fpre, fstep0, fbinA, fbin, fbin0, flen, T, St.ev, St.put, List.getD_cons_zero, List.getD_cons_succ, List.set, true_and, Bool.true_and, avs_len]
  (first | refine guardV_split ?_ ?_ | refine condK_split ?_ ?_ | refine drawV_split ?_ ?_ | refine condY_split ?_ ?_ | refine guardY_split ?_ ?_) <;> intro h <;> try simp (maxSteps := 1000000) only [go_skip, go_region, go_seq, go_block, go_exit, go_ret, exitK_code, exitK_blk, exitK_nil, go_ops_nil, go_op, opK_none, contK_some, condK_t, condK_f, callOf, fstep, fpre, fpost, fstep0, fbinA, gbin, gbits, gnil, isSliceTy, fbin, fbin0, fbinS, fload, fcell, ffieldAddr, findexAddr, isBoolTy, T, TI.isAgg, St.ev, St.put, AV.cells, AV.known, Value.cells, List.getD_cons_zero, List.getD_cons_succ, List.set, List.drop_zero, List.getElem?_cons_zero, List.getElem?_toArray, true_and, Bool.true_and, Bool.false_eq_true, ↓reduceIte, reduceCtorEq, ne_eq, not_false_eq_true, loopX_exit]
  · obtain ⟨hlt, eg, ew, c1⟩ := at_idx (by omega) h
    try simp (maxSteps := 1000000) only [go_cond, go_ops_nil, contK_some, St.ev, St.put, List.getD_cons_zero, List.getD_cons_succ, List.set, List.length_cons, List.length_nil, List.headD_cons, true_and, and_true, Bool.and_true, Bool.true_and, Nat.reduceAdd, Nat.reduceLT, Nat.zero_add, eg, c1, avs_len]
    have hh : has (l.take (i + 1)) id = ((l[i]).id == id) := by
      rw [take_one hlt, has, List.any_append, ← has, hn]; simp
    (first | refine guardV_split ?_ ?_ | refine condK_split ?_ ?_ | refine drawV_split ?_ ?_ | refine condY_split ?_ ?_ | refine guardY_split ?_ ?_) <;> intro h2 <;> try simp (maxSteps := 1000000) only [go_nil, go_skip, go_region, go_seq, go_blk, go_ret, go_ops_nil, go_op, opK_none, contK_some, condK_t, condK_f, callOf, fstep, fpre, fstep0, fbinA, fbin, fbin0, St.ev, St.put, List.getD_cons_zero, List.getD_cons_succ, List.set, true_and, Bool.true_and, loopX_ret, ew]
    · apply hK
      simp only [Try.results77, retK, ares, List.take_nil, Bool.and_true, Bool.true_and, AV.ofResults, St.trunc, truncVs, truncV, List.getD_cons_zero, List.getD_cons_succ, List.map_nil, true_and, and_true, List.cons.injEq, exists_eq_left']
      have : has l id = true := by
        rw [has, List.any_eq_true]
        exact ⟨l[i], List.getElem_mem _, h2⟩
      rw [this]
    · simp only [loopX_normal, St.trunc, St.keep, truncVs, truncV, keepV, List.elem_cons, List.elem_nil, List.take_zero, List.map_nil, Nat.reduceAdd, Nat.reduceBEq, Nat.zero_add, Bool.false_eq_true, ↓reduceIte]
      exact ⟨i + 1, ⟨hlt, by rw [hh, h2]⟩, by omega, rfl⟩
  · obtain rfl := at_end hi h
    apply hK
    simp only [Try.results77, retK, ares, List.take_nil, Bool.and_true, Bool.true_and, AV.ofResults, St.trunc, truncVs, truncV, List.getD_cons_zero, List.getD_cons_succ, List.map_nil, true_and, and_true, List.cons.injEq, exists_eq_left']
    rw [List.take_length] at hn
    rw [hn]

theorem ref06_Same (a b : List Ses) (ha : a.length ≤ 10000) (hb : b.length ≤ 10000) : PCall P 79 [.sl 4 (avs a), .sl 4 (avs b)] (fun x => x = bool (decide (a = b))) := by
  refine pcall_go tyOk Try.func79 rfl rfl ?_
  intro K hK
  simp only [Try.ntmps79, List.length_cons, List.length_nil, Nat.reduceAdd, Nat.reduceSub, List.replicate, List.cons_append, List.nil_append]
  try simp (maxSteps := 1000000) only [go_region, go_seq, go_cond, go_ops_nil, go_op, opK_none, contK_some, callOf, fstep, fpre, fstep0, fbinA, fbin, fbin0, flen, T, St.ev, St.put, List.getD_cons_zero, List.getD_cons_succ, List.set, true_and, Bool.true_and, avs_len]
  (first | refine guardV_split ?_ ?_ | refine condK_split ?_ ?_ | refine drawV_split ?_ ?_ | refine condY_split ?_ ?_ | refine guardY_split ?_ ?_) <;> intro h <;> try simp (maxSteps := 1000000) only [go_skip, go_region, go_seq, go_block, go_ret, go_loop, go_ops_nil, go_op, opK_none, contK_some, condK_t, condK_f, callOf, fstep, fpre, fstep0, St.ev, St.put, List.set, true_and, Bool.true_and]
  · apply hK
    simp only [Try.results79, retK, ares, List.take_nil, Bool.and_true, Bool.true_and, AV.ofResults, St.trunc, truncVs, truncV, List.getD_cons_zero, List.getD_cons_succ, List.map_nil, true_and, and_true, List.cons.injEq, exists_eq_left']
    have : decide (a = b) = false := by
      rw [decide_eq_false_iff_not]; rintro rfl; simp at h
    rw [this]
  · have hl : a.length = b.length := by simp at h; omega
    refine loopK_rule tyOk (α := Nat) 0 [0, 1, 5] (fun i => i ≤ a.length ∧ a.take i = b.take i)
      (fun i => ⟨[.sl 4 (avs a), .sl 4 (avs b), .any, .any, .any, i64 i, .any, .any, .any, .any, .any, .any, .any, .any, .any, .any, .any, .any, .any, .any, .any, .any, .any, .any, .any, .any], []⟩)
      (fun i => a.length - i) 0 (Nat.zero_le _) ⟨Nat.zero_le _, rfl⟩ rfl ?_
    intro i ⟨hi, he⟩
    try simp (maxSteps := 1000000) only [go_region, go_seq, go_cond, go_ops_nil, go_op, opK_none, contK_some, callOf, fstep, fpre, fstep0, fbinA, fbin, fbin0, flen, T, St.ev, St.put, List.getD_cons_zero, List.getD_cons_succ, List.set, true_and, Bool.true_and, avs_len]
    (first | refine guardV_split ?_ ?_ | refine condK_split ?_ ?_ | refine drawV_split ?_ ?_ | refine condY_split ?_ ?_ | refine guardY_split ?_ ?_) <;> intro h <;> try simp (maxSteps := 1000000) only [go_skip, go_region, go_seq, go_block, go_exit, go_ret, go_draws, exitK_code, exitK_blk, exitK_nil, go_ops_nil, go_op, opK_none, contK_some, condK_t, condK_f, callOf, fstep, fpre, fstep0, St.ev, St.put, List.set, true_and, Bool.true_and, ↓reduceIte, loopX_exit]
    · obtain ⟨hlt, eg, ew, c1⟩ := at_idx (by omega) h
      obtain ⟨hlt2, eg2, _, c2⟩ := at_idx (l := b) (i := i) (by omega) (by rw [← hl]; exact h)
      refine draw_rule tyOk (by rfl) (by simp only [List.length_nil, Nat.le_refl]) (by kernel_rfl) rfl ?_
      try simp (maxSteps := 1000000) only [go_cond, callOf, fstep0, fbinA, fbin, fbinS, eqVs, eqV, kOks, kOk, fload, fcell, findexAddr, T, TI.isAgg, St.ev, St.put, AV.cells, AV.known, List.getD_cons_zero, List.getD_cons_succ, List.set, List.length_cons, List.length_nil, List.take_succ_cons, List.take_zero, List.append_nil, List.replicate, true_and, and_true, Bool.and_true, Bool.true_and, Bool.and_self, Bool.false_eq_true, ↓reduceIte, decide_true, Nat.reduceAdd, Nat.le_refl, Nat.add_zero, Nat.zero_add, newCount, drawR_nil, drawR_op, drawP_none, drawQ_some, dstep, isFree, St.app, bump, isNew, eqc91, eg, eg2, c1, c2, avs_len]
      refine ⟨by kernel_rfl, ?_⟩
      try simp (maxSteps := 1000000) only [ses_beq]
      (first | refine guardV_split ?_ ?_ | refine condK_split ?_ ?_ | refine drawV_split ?_ ?_ | refine condY_split ?_ ?_ | refine guardY_split ?_ ?_) <;> intro h2
      · try simp (maxSteps := 1000000) only [go_region, go_seq, go_ret, go_ops_nil, go_op, opK_none, contK_some, condK_t, callOf, fstep, fpre, fstep0, St.ev, St.put, List.set, true_and, Bool.true_and, loopX_ret]
        apply hK
        simp only [Try.results79, retK, ares, List.take_nil, Bool.and_true, Bool.true_and, AV.ofResults, St.trunc, truncVs, truncV, List.getD_cons_zero, List.getD_cons_succ, List.map_nil, true_and, and_true, List.cons.injEq, exists_eq_left']
        have : decide (a = b) = false := by
          rw [decide_eq_false_iff_not]; rintro rfl; simp at h2
        rw [this]
      · try simp (maxSteps := 1000000) only [go_nil, go_skip, go_region, go_blk, go_ops_nil, go_op, opK_none, contK_some, condK_f, callOf, fstep, fpre, fstep0, fbinA, fbin, fbin0, St.ev, St.put, List.getD_cons_zero, List.getD_cons_succ, List.set, true_and, Bool.true_and, ew]
        simp only [loopX_normal, St.trunc, St.keep, truncVs, truncV, keepV, List.elem_cons, List.elem_nil, List.take_zero, List.map_nil, Nat.reduceAdd, Nat.reduceBEq, Nat.zero_add, Bool.false_eq_true, ↓reduceIte]
        exact ⟨i + 1, ⟨hlt, (take_take_succ hlt hlt2).2 ⟨he, by simpa using h2⟩⟩, by omega, rfl⟩
    · obtain rfl := at_end hi h
      apply hK
      simp only [Try.results79, retK, ares, List.take_nil, Bool.and_true, Bool.true_and, AV.ofResults, St.trunc, truncVs, truncV, List.getD_cons_zero, List.getD_cons_succ, List.map_nil, true_and, and_true, List.cons.injEq, exists_eq_left']
      rw [List.take_length, hl, List.take_length] at he
      rw [decide_eq_true he]
def clear (l : List Ses) (id : Int) : List Ses := l.filter (fun s => s.id != id)
theorem clear_skip {id : Int} {l : List Ses} {i : Nat} (h : i < l.length) (hl : ((l[i]).id != id) = false) : clear (l.take (i + 1)) id = clear (l.take i) id := by
  rw [take_one h, clear, List.filter_append, clear]; simp only [List.filter_cons, hl, List.filter_nil, List.append_nil, Bool.false_eq_true, if_false]
theorem clear_in {id : Int} {l : List Ses} {i : Nat} (h : i < l.length) (hl : ((l[i]).id != id) = true) : clear (l.take (i + 1)) id = clear (l.take i) id ++ [l[i]] := by
  rw [take_one h, clear, List.filter_append, clear]; simp only [List.filter_cons, hl, List.filter_nil, if_true]

theorem ref06_Clear (l : List Ses) (id : Int) (hlen : l.length ≤ 10000) : PCall P 78 [.sl 4 (avs l), i64 id] (fun x => x = .sl 4 (avs (clear l id))) := by
  refine pcall_go tyOk Try.func78 rfl rfl ?_
  intro K hK
  simp only [Try.ntmps78, List.length_cons, List.length_nil, Nat.reduceAdd, Nat.reduceSub, List.replicate, List.cons_append, List.nil_append]
  try simp (maxSteps := 1000000) only [go_region, go_seq, go_block, go_loop, go_ops_nil, go_op, opK_none, contK_some, callOf, fstep, fpre, fstep0, St.ev, St.put, List.set, true_and, Bool.true_and]
  refine loopK_turn (Turns.adopt (i := 5) 91 4 rfl) ?_
  refine loopK_rule tyOk (α := Nat) 1 [0, 1, 5, 6] (fun i => i ≤ l.length)
    (fun i => ⟨[.sl 4 (avs l), i64 id, .any, .any, .any, .own 0 4 0 (clear (l.take i) id).length, i64 i, .any, .any, .any, .any, .any, .any, .any, .any, .any, .any, .any, .any, .any, .any, .any, .any, .any, .any, .any, .any, .any], [.row 91 4 (avs (clear (l.take i) id))]⟩)
    (fun i => l.length - i) 0 (Nat.zero_le _) (Nat.zero_le _) rfl ?_
  intro i hi
  try simp (maxSteps := 1000000) only [go_region, go_seq, go_cond, go_ops_nil, go_op, opK_none, contK_some, callOf, fstep, fpre, fstep0, fbinA, fbin, fbin0, flen, T, St.ev, St.put, List.getD_cons_zero, List.getD_cons_succ, List.set, true_and, Bool.true_and, avs_len]
  (first | refine guardV_split ?_ ?_ | refine condK_split ?_ ?_ | refine drawV_split ?_ ?_ | refine condY_split ?_ ?_ | refine guardY_split ?_ ?_) <;> intro h <;> try simp (maxSteps := 1000000) only [go_skip, go_region, go_seq, go_block, go_exit, go_ret, exitK_code, exitK_blk, exitK_nil, go_ops_nil, go_op, opK_none, contK_some, condK_t, condK_f, callOf, fstep, fpre, fpost, fstep0, fbinA, gbin, gbits, gnil, isSliceTy, fbin, fbin0, fbinS, fload, fcell, ffieldAddr, findexAddr, isBoolTy, T, TI.isAgg, St.ev, St.put, AV.cells, AV.known, Value.cells, List.getD_cons_zero, List.getD_cons_succ, List.set, List.drop_zero, List.getElem?_cons_zero, List.getElem?_toArray, true_and, Bool.true_and, Bool.false_eq_true, ↓reduceIte, reduceCtorEq, ne_eq, not_false_eq_true, loopX_exit]
  · obtain ⟨hlt, eg, ew, c1⟩ := at_idx (by omega) h
    have hf : (clear (l.take i) id).length ≤ 10000 := Nat.le_trans (List.length_filter_le _ _) (by rw [List.length_take]; omega)
    try simp (maxSteps := 1000000) only [go_cond, go_ops_nil, contK_some, St.ev, St.put, List.getD_cons_zero, List.getD_cons_succ, List.set, List.length_cons, List.length_nil, List.headD_cons, true_and, and_true, Bool.and_true, Bool.true_and, Nat.reduceAdd, Nat.reduceLT, Nat.zero_add, eg, c1, avs_len]
    (first | refine guardV_split ?_ ?_ | refine condK_split ?_ ?_ | refine drawV_split ?_ ?_ | refine condY_split ?_ ?_ | refine guardY_split ?_ ?_) <;> intro h2
    · try simp (maxSteps := 1000000) only [go_nil, go_region, go_blk, go_ops_nil, go_op, opK_none, contK_some, condK_t, callOf, fstep, fpre, fstep0, fbinA, fbin, fbin0, fload, fcell, findexAddr, evParts, evOwners, fbuildSlice, felems, fappend, T, TI.isAgg, TI.zeroOk, TI.zav, setParts, partsOk, St.ev, St.put, St.shutAll, St.rehome, killV, killVs, AB.kill, AV.cells, AV.known, AV.flat, AV.pure, pureAll, AV.owners, ownersAll, Value.oneCell', List.getD_cons_zero, List.getD_cons_succ, List.set, List.map_cons, List.map_nil, List.length_cons, List.length_nil, List.all_cons, List.all_nil, List.drop_zero, List.take_succ_cons, List.take_zero, List.cons_append, List.nil_append, List.append_nil, List.getElem?_cons_zero, List.getElem?_cons_succ, List.replicate, true_and, and_true, Bool.and_true, Bool.true_and, Bool.and_self, Bool.or_false, ↓reduceIte, decide_true, decide_false, reduceCtorEq, Nat.reduceAdd, Nat.reduceMul, Nat.reduceLeDiff, Nat.reduceEqDiff, Nat.reduceLT, Nat.zero_le, Nat.le_refl, Nat.zero_add, ew, eg, c1, avs_len]
      refine ⟨⟨by simp only [maxLen]; omega, by omega⟩, ?_⟩
      simp only [loopX_normal, St.trunc, St.keep, truncVs, truncV, AB.trunc, keepV, List.drop_zero, List.elem_cons, List.elem_nil, List.take_succ_cons, List.take_zero, List.map_cons, List.map_nil, List.getElem?_cons_zero, List.getElem?_cons_succ, List.length_cons, List.length_nil, Nat.reduceAdd, Nat.reduceBEq, Nat.reduceLeDiff, Nat.le_refl, Nat.zero_add, Bool.false_eq_true, ↓reduceIte]
      exact ⟨i + 1, hlt, by omega, by rw [clear_in hlt h2, ← avs_snoc, List.length_append]; rfl⟩
    · try simp (maxSteps := 1000000) only [go_nil, go_skip, go_region, go_blk, go_ops_nil, go_op, opK_none, contK_some, condK_f, callOf, fstep, fpre, fstep0, fbinA, fbin, fbin0, St.ev, St.put, List.getD_cons_zero, List.getD_cons_succ, List.set, true_and, Bool.true_and, ew]
      simp only [loopX_normal, St.trunc, St.keep, truncVs, truncV, AB.trunc, keepV, List.elem_cons, List.elem_nil, List.take_succ_cons, List.take_zero, List.map_cons, List.map_nil, Nat.reduceAdd, Nat.reduceBEq, Nat.reduceLeDiff, Nat.zero_add, Bool.false_eq_true, ↓reduceIte]
      exact ⟨i + 1, hlt, by omega, by rw [clear_skip hlt h2]⟩
  · obtain rfl := at_end hi h
    apply hK
    simp only [Try.results78, retK, ares, Bool.and_true, Bool.true_and, AV.ofResults, St.trunc, truncVs, truncV, List.getD_cons_zero, List.getD_cons_succ, List.take_zero, List.drop_zero, List.map_nil, List.getElem?_cons_zero, Nat.le_refl, true_and, and_true, ↓reduceIte, List.cons.injEq, exists_eq_left']
    rw [List.take_length, if_pos (by rw [avs_len]; omega), List.take_of_length_le (by rw [avs_len]; exact Nat.le_refl _)]

/-- With one put where it belongs. -/
def insStep (s : Ses) (o : List Ses × Bool) (r : Ses) : List Ses × Bool := if !o.2 && decide (s.id < r.id) then (o.1 ++ [s] ++ [r], true) else (o.1 ++ [r], o.2)
def insF (s : Ses) (l : List Ses) : List Ses × Bool := l.foldl (insStep s) ([], false)
def ins (s : Ses) (l : List Ses) : List Ses := if (insF s l).2 then (insF s l).1 else (insF s l).1 ++ [s]
theorem insF_next {s : Ses} {l : List Ses} {i : Nat} (h : i < l.length) : insF s (l.take (i + 1)) = insStep s (insF s (l.take i)) l[i] := by
  rw [take_one h, insF, List.foldl_append]; rfl
theorem insF_len (s : Ses) (l : List Ses) : (insF s l).1.length ≤ l.length + 1 ∧ ((insF s l).2 = false → (insF s l).1.length = l.length) := by
  suffices H : ∀ (l : List Ses) (o : List Ses × Bool), (l.foldl (insStep s) o).1.length + (if o.2 then 1 else 0) ≤ o.1.length + l.length + 1 ∧ ((l.foldl (insStep s) o).2 = false → o.2 = false ∧ (l.foldl (insStep s) o).1.length = o.1.length + l.length) by
    have := H l ([], false)
    exact ⟨by simpa [insF] using this.1, fun h => by simpa [insF] using (this.2 h).2⟩
  intro l
  induction l with
  | nil => intro o; simp; split <;> omega
  | cons r l ih =>
    intro o
    have h := ih (insStep s o r)
    simp only [List.foldl_cons, List.length_cons]
    by_cases c : (!o.2 && decide (s.id < r.id)) = true
    · have e : insStep s o r = (o.1 ++ [s] ++ [r], true) := by rw [insStep, if_pos c]
      have ho : o.2 = false := by simp at c; exact c.1
      rw [e] at h ⊢
      simp only [List.length_append, List.length_singleton, if_true] at h
      refine ⟨by rw [ho]; simp only [Bool.false_eq_true, if_false]; omega, fun hh => ?_⟩
      have := (h.2 hh).1
      cases this
    · have e : insStep s o r = (o.1 ++ [r], o.2) := by rw [insStep, if_neg c]
      rw [e] at h ⊢
      simp only [List.length_append, List.length_singleton] at h
      exact ⟨by omega, fun hh => ⟨(h.2 hh).1, by have := (h.2 hh).2; omega⟩⟩

def setF (l : List Ses) (s : Ses) (most : Int) : List Ses × Int := if !has l s.id && decide (most ≤ l.length) then (l, 2) else (ins s (clear l s.id), 0)

theorem ref06_Set (l : List Ses) (s : Ses) (most : Int) (hlen : l.length ≤ 9000) :
    PCall P 75 [.sl 4 (avs l), s.av, i64 most] (fun x => x = .tup [.sl 4 (avs (setF l s most).1), i64 (setF l s most).2]) := by
  refine pcall_go tyOk Try.func75 rfl rfl ?_
  intro K hK
  simp only [Try.ntmps75, List.length_cons, List.length_nil, Nat.reduceAdd, Nat.reduceSub, List.replicate, List.cons_append, List.nil_append]
  try simp (maxSteps := 1000000) only [go_region, go_seq, go_ops_nil, go_op, opK_none, opK_some, contK_some, callOf, callK_eq, callJ_nil, callD_fn, fstep, fpre, fstep0, fload, fcell, ffieldAddr, evs, T, TI.isAgg, St.ev, St.put, AV.cells, AV.known, AV.owners, ownersAll, List.getD_cons_zero, List.getD_cons_succ, List.set, List.length_cons, List.length_nil, List.drop_zero, List.headD_cons, List.nil_append, List.append_nil, List.getElem?_cons_zero, List.getElem?_toArray, true_and, Bool.true_and, Bool.false_eq_true, ↓reduceIte, reduceCtorEq, ne_eq, not_false_eq_true, Nat.reduceAdd, Nat.reduceLT, Nat.add_zero, Nat.zero_add, Ses.av]
  (refine callG_use (ref06_Has l s.id (by omega)) rfl ?_; rintro _ rfl)
  try simp (maxSteps := 1000000) only [go_op, go_guard, opK_none, contK_some, guardK_eq, callOf, fstep, fpre, fstep0, funary, St.ev, St.put, List.getD_cons_zero, List.getD_cons_succ, List.set, List.getElem?_cons_zero, List.getElem?_cons_succ, Option.bind_some, List.getElem?_toArray, true_and, Bool.true_and]
  (first | refine guardV_split ?_ ?_ | refine condK_split ?_ ?_ | refine drawV_split ?_ ?_ | refine condY_split ?_ ?_ | refine guardY_split ?_ ?_) <;> intro h1
  · try simp (maxSteps := 1000000) only [go_cond, go_ops_nil, go_op, go_guard, opK_none, contK_some, guardK_eq, guardV_tt, callOf, fstep, fpre, fstep0, fbinA, fbin, fbin0, flen, fpick, T, St.ev, St.put, List.getD_cons_zero, List.getD_cons_succ, List.set, List.getElem?_cons_zero, List.getElem?_cons_succ, Option.bind_some, List.getElem?_toArray, true_and, Bool.true_and, cond_true, avs_len]
    (first | refine guardV_split ?_ ?_ | refine condK_split ?_ ?_ | refine drawV_split ?_ ?_ | refine condY_split ?_ ?_ | refine guardY_split ?_ ?_) <;> intro h2
    · try simp (maxSteps := 1000000) only [go_region, go_seq, go_ret, go_ops_nil, go_op, opK_none, contK_some, condK_t, callOf, fstep, fpre, fstep0, St.ev, St.put, List.getD_cons_zero, List.getD_cons_succ, List.set, true_and, Bool.true_and]
      apply hK
      simp only [Try.results75, retK, ares, Bool.and_true, Bool.true_and, AV.ofResults, St.trunc, truncVs, truncV, List.getD_cons_zero, List.getD_cons_succ, List.take_zero, List.map_nil, true_and, and_true, List.cons.injEq, exists_eq_left']
      rw [setF, if_pos (by rw [h1, h2]; rfl)]
    · have he : setF l s most = (ins s (clear l s.id), 0) := by rw [setF, if_neg (by rw [h1, h2]; simp)]
      try simp (maxSteps := 1000000) only [go_skip, go_region, go_seq, go_ops_nil, go_op, opK_none, opK_some, contK_some, condK_f, callOf, callK_eq, callJ_nil, callD_fn, fstep, fpre, fstep0, fload, fcell, ffieldAddr, evs, T, TI.isAgg, St.ev, St.put, AV.owners, ownersAll, List.getD_cons_zero, List.getD_cons_succ, List.set, List.length_cons, List.length_nil, List.drop_zero, List.headD_cons, List.append_nil, List.getElem?_cons_zero, List.getElem?_toArray, true_and, Bool.true_and, Bool.false_eq_true, ↓reduceIte, reduceCtorEq, ne_eq, not_false_eq_true, Nat.reduceAdd, Nat.reduceLT, Nat.add_zero, Nat.zero_add]
      rw [he] at hK
      have hR : (clear l s.id).length ≤ 9000 := Nat.le_trans (List.length_filter_le _ _) hlen
      (refine callG_use (ref06_Clear l s.id (by omega)) rfl ?_; rintro _ rfl)
      try simp (maxSteps := 1000000) only [go_region, go_seq, go_block, go_loop, go_ops_nil, go_op, opK_none, contK_some, callOf, fstep, fpre, fstep0, St.ev, St.put, List.getD_cons_zero, List.getD_cons_succ, List.set, true_and, Bool.true_and]
      generalize clear l s.id = R at hR hK
      refine loopK_turn (Turns.adopt (i := 8) 91 4 rfl) ?_
      refine loopK_rule tyOk (α := Nat) 2 [4, 8, 9, 10, 11] (fun i => i ≤ R.length)
        (fun i => ⟨[.any, .any, .any, .any, .ptr 0 0, .any, .any, .any, .own 1 4 0 (insF s (R.take i)).1.length, bool (insF s (R.take i)).2, .sl 4 (avs R), i64 i, .any, .any, .any, .any, .any, .any, .any, .any, .any, .any, .any, .any, .any, .any, .any, .any, .any, .any, .any, .any, .any, .any, .any, .any, .any, .any, .any, .any, .any, .any, .any, .any, .any, .any, .any, .any, .any, .any, .any, .any, .any, .any, .any, .any, .any, .any, .any, .any, .any, .any, .any, .any], [.box [i64 s.id, i64 s.st, i64 s.pr, u64 s.un], .row 91 4 (avs (insF s (R.take i)).1)]⟩)
        (fun i => R.length - i) 0 (Nat.zero_le _) (Nat.zero_le _) rfl ?_
      intro i hi
      try simp (maxSteps := 1000000) only [go_region, go_seq, go_cond, go_ops_nil, go_op, opK_none, contK_some, callOf, fstep, fpre, fstep0, fbinA, fbin, fbin0, flen, T, St.ev, St.put, List.getD_cons_zero, List.getD_cons_succ, List.set, true_and, Bool.true_and, avs_len]
      (first | refine guardV_split ?_ ?_ | refine condK_split ?_ ?_ | refine drawV_split ?_ ?_ | refine condY_split ?_ ?_ | refine guardY_split ?_ ?_) <;> intro h <;> try simp (maxSteps := 1000000) only [go_skip, go_region, go_seq, go_cond, go_block, go_exit, go_draws, exitK_code, exitK_blk, exitK_nil, go_ops_nil, go_op, opK_none, contK_some, condK_t, condK_f, callOf, fstep, fpre, fstep0, funary, St.ev, St.put, List.getD_cons_zero, List.getD_cons_succ, List.set, true_and, Bool.true_and, ↓reduceIte, loopX_exit]
      · obtain ⟨hlt, eg, ew, c1⟩ := at_idx (by omega) h
        have hb := insF_next (s := s) hlt
        have hl := (insF_len s (R.take i)).1
        rw [List.length_take] at hl
        generalize insF s (R.take i) = o at hb hl
        obtain ⟨o1, o2⟩ := o
        simp only at hl
        refine draw_rule tyOk (by rfl) (by simp only [List.length_cons, List.length_nil, Nat.reduceAdd, Nat.zero_le]) (by kernel_rfl) rfl ?_
        try simp (maxSteps := 1000000) only [callOf, fstep0, funary, St.ev, St.put, List.getD_cons_zero, List.getD_cons_succ, List.set, List.length_cons, List.length_nil, List.append_nil, List.getElem?_cons_zero, List.getElem?_cons_succ, List.replicate, Option.bind_some, List.getElem?_toArray, true_and, Bool.true_and, Bool.false_eq_true, ↓reduceIte, Nat.reduceAdd, Nat.add_zero, Nat.zero_add, newCount, drawR_op, drawR_guard, drawW_some, drawP_none, drawQ_some, dstep, isFree, St.app, bump, isNew]
        cases o2 with
        | true =>
          try simp (maxSteps := 1000000) only [go_skip, go_region, go_cond, go_op, opK_none, contK_some, condK_f, undef, callOf, fstep, fpre, fpost, fstep0, gappend, gapp, gelems, putSeg, fload, fcell, findexAddr, evParts, evOwners, fbuildSlice, felems, fappend, fpick, T, TI.isAgg, TI.zeroOk, TI.zav, setParts, partsOk, St.ev, St.put, St.rehome, AV.cells, AV.known, AV.owners, Value.cells, Value.oneCell', List.getD_cons_zero, List.getD_cons_succ, List.set, List.map_cons, List.map_nil, List.length_cons, List.length_nil, List.all_cons, List.all_nil, List.append_nil, List.getElem?_cons_zero, List.getElem?_cons_succ, List.replicate, Option.bind_some, List.getElem?_toArray, true_and, and_true, Bool.and_true, Bool.true_and, Bool.and_self, Bool.or_false, Bool.not_true, Bool.false_eq_true, ↓reduceIte, decide_true, decide_false, Nat.reduceAdd, Nat.reduceMul, Nat.reduceLeDiff, Nat.reduceEqDiff, Nat.reduceLT, Nat.zero_le, Nat.zero_add, drawR_nil, drawR_op, drawR_guard, drawW_some, drawV_ft, drawP_none, drawQ_some, dstep, isFree, St.app, bump, isNew, List.length_append]
          refine ⟨by kernel_rfl, ?_⟩
          try simp (maxSteps := 1000000) only [go_nil, go_region, go_blk, go_ops_nil, go_op, opK_none, contK_some, callOf, fstep, fpre, fstep0, fbinA, fbin, fbin0, St.ev, St.put, St.shutAll, killV, killVs, AB.kill, AV.flat, AV.pure, pureAll, AV.owners, ownersAll, Value.oneCell', List.getD_cons_zero, List.getD_cons_succ, List.set, List.map_cons, List.map_nil, List.length_cons, List.length_nil, List.all_cons, List.all_nil, List.drop_zero, List.take_succ_cons, List.take_zero, List.cons_append, List.nil_append, List.append_nil, List.getElem?_cons_zero, List.getElem?_cons_succ, true_and, and_true, Bool.and_true, Bool.true_and, Bool.and_self, ↓reduceIte, reduceCtorEq, Nat.reduceAdd, Nat.reduceEqDiff, Nat.le_refl, Nat.zero_add, eg, c1, avs_len, ew]
          refine ⟨⟨by simp only [maxLen]; omega, by omega⟩, ?_⟩
          simp only [loopX_normal, St.trunc, St.keep, truncVs, truncV, AB.trunc, keepV, List.drop_zero, List.elem_cons, List.elem_nil, List.take_succ_cons, List.take_zero, List.map_cons, List.map_nil, List.getElem?_cons_zero, List.getElem?_cons_succ, List.length_cons, List.length_nil, Nat.reduceAdd, Nat.reduceBEq, Nat.reduceLeDiff, Nat.le_refl, Nat.zero_add, Bool.false_eq_true, ↓reduceIte]
          exact ⟨i + 1, hlt, by omega, by rw [hb, insStep, if_neg (by simp)]; simp only; rw [← avs_snoc, List.length_append]; rfl⟩
        | false =>
          try simp (maxSteps := 1000000) only [go_cond, callOf, fstep0, fbinA, fbin, fbin0, fload, fcell, ffieldAddr, findexAddr, fpick, T, TI.isAgg, St.ev, St.put, AV.cells, AV.known, List.getD_cons_zero, List.getD_cons_succ, List.set, List.length_cons, List.length_nil, List.drop_zero, List.headD_cons, List.getElem?_cons_zero, List.getElem?_cons_succ, Option.bind_some, List.getElem?_toArray, true_and, and_true, Bool.and_true, Bool.true_and, Bool.not_false, Bool.false_eq_true, ↓reduceIte, reduceCtorEq, ne_eq, not_false_eq_true, Nat.reduceAdd, Nat.reduceLT, Nat.add_zero, Nat.zero_add, cond_true, drawR_nil, drawR_op, drawR_guard, drawW_some, drawV_tt, drawP_none, drawQ_some, dstep, isFree, St.app, bump, isNew, eg, c1, avs_len]
          refine ⟨by kernel_rfl, ?_⟩
          (first | refine guardV_split ?_ ?_ | refine condK_split ?_ ?_ | refine drawV_split ?_ ?_ | refine condY_split ?_ ?_ | refine guardY_split ?_ ?_) <;> intro h3
          · try simp (maxSteps := 1000000) only [go_nil, go_region, go_seq, go_blk, go_ops_nil, go_op, opK_none, contK_some, condK_t, callOf, fstep, fpre, fstep0, fbinA, fbin, fbin0, fload, fcell, findexAddr, evParts, evOwners, fbuildSlice, felems, fappend, T, TI.isAgg, TI.zeroOk, TI.zav, setParts, partsOk, St.ev, St.put, St.shutAll, St.rehome, killV, killVs, AB.kill, AV.cells, AV.known, AV.flat, AV.pure, pureAll, AV.owners, ownersAll, Value.oneCell', List.getD_cons_zero, List.getD_cons_succ, List.set, List.map_cons, List.map_nil, List.length_cons, List.length_nil, List.all_cons, List.all_nil, List.drop_zero, List.take_succ_cons, List.take_zero, List.cons_append, List.nil_append, List.append_nil, List.getElem?_cons_zero, List.getElem?_cons_succ, List.replicate, true_and, and_true, Bool.and_true, Bool.true_and, Bool.and_self, Bool.or_false, ↓reduceIte, decide_true, decide_false, reduceCtorEq, Nat.reduceAdd, Nat.reduceMul, Nat.reduceLeDiff, Nat.reduceEqDiff, Nat.reduceLT, Nat.zero_le, Nat.le_refl, Nat.zero_add, List.length_append, eg, c1, avs_len, ew]
            refine ⟨⟨by simp only [maxLen]; omega, by omega⟩, ⟨by simp only [maxLen]; omega, by omega⟩, ?_⟩
            simp only [loopX_normal, St.trunc, St.keep, truncVs, truncV, AB.trunc, keepV, List.drop_zero, List.elem_cons, List.elem_nil, List.take_succ_cons, List.take_zero, List.map_cons, List.map_nil, List.getElem?_cons_zero, List.getElem?_cons_succ, List.length_cons, List.length_nil, Nat.reduceAdd, Nat.reduceBEq, Nat.reduceLeDiff, Nat.le_refl, Nat.zero_add, Bool.false_eq_true, ↓reduceIte]
            exact ⟨i + 1, hlt, by omega, by rw [hb, insStep, if_pos (by rw [h3]; simp)]; simp only; rw [← avs_snoc, ← avs_snoc, List.length_append, List.length_append]; rfl⟩
          · try simp (maxSteps := 1000000) only [go_nil, go_skip, go_region, go_blk, go_ops_nil, go_op, opK_none, contK_some, condK_f, callOf, fstep, fpre, fstep0, fbinA, fbin, fbin0, fload, fcell, findexAddr, evParts, evOwners, fbuildSlice, felems, fappend, T, TI.isAgg, TI.zeroOk, TI.zav, setParts, partsOk, St.ev, St.put, St.shutAll, St.rehome, killV, killVs, AB.kill, AV.cells, AV.known, AV.flat, AV.pure, pureAll, AV.owners, ownersAll, Value.oneCell', List.getD_cons_zero, List.getD_cons_succ, List.set, List.map_cons, List.map_nil, List.length_cons, List.length_nil, List.all_cons, List.all_nil, List.drop_zero, List.take_succ_cons, List.take_zero, List.cons_append, List.nil_append, List.append_nil, List.getElem?_cons_zero, List.getElem?_cons_succ, List.replicate, true_and, and_true, Bool.and_true, Bool.true_and, Bool.and_self, Bool.or_false, ↓reduceIte, decide_true, decide_false, reduceCtorEq, Nat.reduceAdd, Nat.reduceMul, Nat.reduceLeDiff, Nat.reduceEqDiff, Nat.reduceLT, Nat.zero_le, Nat.le_refl, Nat.zero_add, eg, c1, avs_len, ew]
            refine ⟨⟨by simp only [maxLen]; omega, by omega⟩, ?_⟩
            simp only [loopX_normal, St.trunc, St.keep, truncVs, truncV, AB.trunc, keepV, List.drop_zero, List.elem_cons, List.elem_nil, List.take_succ_cons, List.take_zero, List.map_cons, List.map_nil, List.getElem?_cons_zero, List.getElem?_cons_succ, List.length_cons, List.length_nil, Nat.reduceAdd, Nat.reduceBEq, Nat.reduceLeDiff, Nat.le_refl, Nat.zero_add, Bool.false_eq_true, ↓reduceIte]
            exact ⟨i + 1, hlt, by omega, by rw [hb, insStep, if_neg (by rw [h3]; simp)]; simp only; rw [← avs_snoc, List.length_append]; rfl⟩
      · obtain rfl := at_end hi h
        rw [List.take_length]
        have hl := (insF_len s R).1
        (first | refine guardV_split ?_ ?_ | refine condK_split ?_ ?_ | refine drawV_split ?_ ?_ | refine condY_split ?_ ?_ | refine guardY_split ?_ ?_) <;> intro h3
        · try simp (maxSteps := 1000000) only [go_region, go_seq, go_ret, go_ops_nil, go_op, opK_none, contK_some, condK_t, callOf, fstep, fpre, fstep0, fload, fcell, evParts, evOwners, fbuildSlice, felems, fappend, T, TI.isAgg, TI.zeroOk, TI.zav, setParts, partsOk, St.ev, St.put, St.shutAll, St.rehome, killV, killVs, AB.kill, AV.cells, AV.known, AV.flat, AV.pure, pureAll, AV.owners, ownersAll, Value.oneCell', List.getD_cons_zero, List.getD_cons_succ, List.set, List.map_cons, List.map_nil, List.length_cons, List.length_nil, List.all_cons, List.all_nil, List.drop_zero, List.take_succ_cons, List.take_zero, List.cons_append, List.nil_append, List.append_nil, List.getElem?_cons_zero, List.getElem?_cons_succ, List.replicate, true_and, and_true, Bool.and_true, Bool.true_and, Bool.and_self, Bool.or_false, ↓reduceIte, decide_true, decide_false, reduceCtorEq, Nat.reduceAdd, Nat.reduceMul, Nat.reduceLeDiff, Nat.reduceEqDiff, Nat.reduceLT, Nat.zero_le, Nat.le_refl, Nat.zero_add, avs_len]
          refine ⟨⟨by simp only [maxLen]; omega, by omega⟩, ?_⟩
          apply hK
          simp only [Try.results75, retK, ares, Bool.and_true, Bool.true_and, AV.ofResults, St.trunc, truncVs, truncV, List.getD_cons_zero, List.getD_cons_succ, List.take_zero, List.drop_zero, List.map_nil, List.getElem?_cons_zero, List.getElem?_cons_succ, Nat.reduceLeDiff, true_and, and_true, ↓reduceIte, List.cons.injEq, exists_eq_left']
          rw [sl_full (by rw [List.length_append, avs_len]; rfl), ins, if_neg (by simpa using h3), ← avs_snoc]; rfl
        · try simp (maxSteps := 1000000) only [go_skip, go_region, go_seq, go_ret, go_ops_nil, go_op, opK_none, contK_some, condK_f, callOf, fstep, fpre, fstep0, St.ev, St.put, List.getD_cons_zero, List.getD_cons_succ, List.set, true_and, Bool.true_and]
          apply hK
          simp only [Try.results75, retK, ares, Bool.and_true, Bool.true_and, AV.ofResults, St.trunc, truncVs, truncV, List.getD_cons_zero, List.getD_cons_succ, List.take_zero, List.drop_zero, List.map_nil, List.getElem?_cons_zero, List.getElem?_cons_succ, Nat.reduceLeDiff, true_and, and_true, ↓reduceIte, List.cons.injEq, exists_eq_left']
          rw [sl_full (avs_len _), ins, if_pos (by simpa using h3)]
  · have he : setF l s most = (ins s (clear l s.id), 0) := by rw [setF, if_neg (by rw [h1]; simp)]
    try simp (maxSteps := 1000000) only [go_skip, go_region, go_seq, go_cond, go_ops_nil, go_op, go_guard, opK_none, opK_some, contK_some, condK_f, guardK_eq, guardV_ft, undef, callOf, callK_eq, callJ_nil, callD_fn, fstep, fpre, fstep0, fload, fcell, ffieldAddr, evs, fpick, T, TI.isAgg, St.ev, St.put, AV.owners, ownersAll, List.getD_cons_zero, List.getD_cons_succ, List.set, List.length_cons, List.length_nil, List.drop_zero, List.headD_cons, List.append_nil, List.getElem?_cons_zero, List.getElem?_cons_succ, Option.bind_some, List.getElem?_toArray, true_and, Bool.true_and, Bool.false_eq_true, ↓reduceIte, reduceCtorEq, ne_eq, not_false_eq_true, Nat.reduceAdd, Nat.reduceLT, Nat.add_zero, Nat.zero_add]
    rw [he] at hK
    have hR : (clear l s.id).length ≤ 9000 := Nat.le_trans (List.length_filter_le _ _) hlen
    (refine callG_use (ref06_Clear l s.id (by omega)) rfl ?_; rintro _ rfl)
    try simp (maxSteps := 1000000) only [go_region, go_seq, go_block, go_loop, go_ops_nil, go_op, opK_none, contK_some, callOf, fstep, fpre, fstep0, St.ev, St.put, List.getD_cons_zero, List.getD_cons_succ, List.set, true_and, Bool.true_and]
    generalize clear l s.id = R at hR hK
    refine loopK_turn (Turns.adopt (i := 8) 91 4 rfl) ?_
    refine loopK_rule tyOk (α := Nat) 2 [4, 8, 9, 10, 11] (fun i => i ≤ R.length)
      (fun i => ⟨[.any, .any, .any, .any, .ptr 0 0, .any, .any, .any, .own 1 4 0 (insF s (R.take i)).1.length, bool (insF s (R.take i)).2, .sl 4 (avs R), i64 i, .any, .any, .any, .any, .any, .any, .any, .any, .any, .any, .any, .any, .any, .any, .any, .any, .any, .any, .any, .any, .any, .any, .any, .any, .any, .any, .any, .any, .any, .any, .any, .any, .any, .any, .any, .any, .any, .any, .any, .any, .any, .any, .any, .any, .any, .any, .any, .any, .any, .any, .any, .any], [.box [i64 s.id, i64 s.st, i64 s.pr, u64 s.un], .row 91 4 (avs (insF s (R.take i)).1)]⟩)
      (fun i => R.length - i) 0 (Nat.zero_le _) (Nat.zero_le _) rfl ?_
    intro i hi
    try simp (maxSteps := 1000000) only [go_region, go_seq, go_cond, go_ops_nil, go_op, opK_none, contK_some, callOf, fstep, fpre, fstep0, fbinA, fbin, fbin0, flen, T, St.ev, St.put, List.getD_cons_zero, List.getD_cons_succ, List.set, true_and, Bool.true_and, avs_len]
    (first | refine guardV_split ?_ ?_ | refine condK_split ?_ ?_ | refine drawV_split ?_ ?_ | refine condY_split ?_ ?_ | refine guardY_split ?_ ?_) <;> intro h <;> try simp (maxSteps := 1000000) only [go_skip, go_region, go_seq, go_cond, go_block, go_exit, go_draws, exitK_code, exitK_blk, exitK_nil, go_ops_nil, go_op, opK_none, contK_some, condK_t, condK_f, callOf, fstep, fpre, fstep0, funary, St.ev, St.put, List.getD_cons_zero, List.getD_cons_succ, List.set, true_and, Bool.true_and, ↓reduceIte, loopX_exit]
    · obtain ⟨hlt, eg, ew, c1⟩ := at_idx (by omega) h
      have hb := insF_next (s := s) hlt
      have hl := (insF_len s (R.take i)).1
      rw [List.length_take] at hl
      generalize insF s (R.take i) = o at hb hl
      obtain ⟨o1, o2⟩ := o
      simp only at hl
      refine draw_rule tyOk (by rfl) (by simp only [List.length_cons, List.length_nil, Nat.reduceAdd, Nat.zero_le]) (by kernel_rfl) rfl ?_
      try simp (maxSteps := 1000000) only [callOf, fstep0, funary, St.ev, St.put, List.getD_cons_zero, List.getD_cons_succ, List.set, List.length_cons, List.length_nil, List.append_nil, List.getElem?_cons_zero, List.getElem?_cons_succ, List.replicate, Option.bind_some, List.getElem?_toArray, true_and, Bool.true_and, Bool.false_eq_true, ↓reduceIte, Nat.reduceAdd, Nat.add_zero, Nat.zero_add, newCount, drawR_op, drawR_guard, drawW_some, drawP_none, drawQ_some, dstep, isFree, St.app, bump, isNew]
      cases o2 with
      | true =>
        try simp (maxSteps := 1000000) only [go_skip, go_region, go_cond, go_op, opK_none, contK_some, condK_f, undef, callOf, fstep, fpre, fpost, fstep0, gappend, gapp, gelems, putSeg, fload, fcell, findexAddr, evParts, evOwners, fbuildSlice, felems, fappend, fpick, T, TI.isAgg, TI.zeroOk, TI.zav, setParts, partsOk, St.ev, St.put, St.rehome, AV.cells, AV.known, AV.owners, Value.cells, Value.oneCell', List.getD_cons_zero, List.getD_cons_succ, List.set, List.map_cons, List.map_nil, List.length_cons, List.length_nil, List.all_cons, List.all_nil, List.append_nil, List.getElem?_cons_zero, List.getElem?_cons_succ, List.replicate, Option.bind_some, List.getElem?_toArray, true_and, and_true, Bool.and_true, Bool.true_and, Bool.and_self, Bool.or_false, Bool.not_true, Bool.false_eq_true, ↓reduceIte, decide_true, decide_false, Nat.reduceAdd, Nat.reduceMul, Nat.reduceLeDiff, Nat.reduceEqDiff, Nat.reduceLT, Nat.zero_le, Nat.zero_add, drawR_nil, drawR_op, drawR_guard, drawW_some, drawV_ft, drawP_none, drawQ_some, dstep, isFree, St.app, bump, isNew, List.length_append]
        refine ⟨by kernel_rfl, ?_⟩
        try simp (maxSteps := 1000000) only [go_nil, go_region, go_blk, go_ops_nil, go_op, opK_none, contK_some, callOf, fstep, fpre, fstep0, fbinA, fbin, fbin0, St.ev, St.put, St.shutAll, killV, killVs, AB.kill, AV.flat, AV.pure, pureAll, AV.owners, ownersAll, Value.oneCell', List.getD_cons_zero, List.getD_cons_succ, List.set, List.map_cons, List.map_nil, List.length_cons, List.length_nil, List.all_cons, List.all_nil, List.drop_zero, List.take_succ_cons, List.take_zero, List.cons_append, List.nil_append, List.append_nil, List.getElem?_cons_zero, List.getElem?_cons_succ, true_and, and_true, Bool.and_true, Bool.true_and, Bool.and_self, ↓reduceIte, reduceCtorEq, Nat.reduceAdd, Nat.reduceEqDiff, Nat.le_refl, Nat.zero_add, eg, c1, avs_len, ew]
        refine ⟨⟨by simp only [maxLen]; omega, by omega⟩, ?_⟩
        simp only [loopX_normal, St.trunc, St.keep, truncVs, truncV, AB.trunc, keepV, List.drop_zero, List.elem_cons, List.elem_nil, List.take_succ_cons, List.take_zero, List.map_cons, List.map_nil, List.getElem?_cons_zero, List.getElem?_cons_succ, List.length_cons, List.length_nil, Nat.reduceAdd, Nat.reduceBEq, Nat.reduceLeDiff, Nat.le_refl, Nat.zero_add, Bool.false_eq_true, ↓reduceIte]
        exact ⟨i + 1, hlt, by omega, by rw [hb, insStep, if_neg (by simp)]; simp only; rw [← avs_snoc, List.length_append]; rfl⟩
      | false =>
        try simp (maxSteps := 1000000) only [go_cond, callOf, fstep0, fbinA, fbin, fbin0, fload, fcell, ffieldAddr, findexAddr, fpick, T, TI.isAgg, St.ev, St.put, AV.cells, AV.known, List.getD_cons_zero, List.getD_cons_succ, List.set, List.length_cons, List.length_nil, List.drop_zero, List.headD_cons, List.getElem?_cons_zero, List.getElem?_cons_succ, Option.bind_some, List.getElem?_toArray, true_and, and_true, Bool.and_true, Bool.true_and, Bool.not_false, Bool.false_eq_true, ↓reduceIte, reduceCtorEq, ne_eq, not_false_eq_true, Nat.reduceAdd, Nat.reduceLT, Nat.add_zero, Nat.zero_add, cond_true, drawR_nil, drawR_op, drawR_guard, drawW_some, drawV_tt, drawP_none, drawQ_some, dstep, isFree, St.app, bump, isNew, eg, c1, avs_len]
        refine ⟨by kernel_rfl, ?_⟩
        (first | refine guardV_split ?_ ?_ | refine condK_split ?_ ?_ | refine drawV_split ?_ ?_ | refine condY_split ?_ ?_ | refine guardY_split ?_ ?_) <;> intro h3
        · try simp (maxSteps := 1000000) only [go_nil, go_region, go_seq, go_blk, go_ops_nil, go_op, opK_none, contK_some, condK_t, callOf, fstep, fpre, fstep0, fbinA, fbin, fbin0, fload, fcell, findexAddr, evParts, evOwners, fbuildSlice, felems, fappend, T, TI.isAgg, TI.zeroOk, TI.zav, setParts, partsOk, St.ev, St.put, St.shutAll, St.rehome, killV, killVs, AB.kill, AV.cells, AV.known, AV.flat, AV.pure, pureAll, AV.owners, ownersAll, Value.oneCell', List.getD_cons_zero, List.getD_cons_succ, List.set, List.map_cons, List.map_nil, List.length_cons, List.length_nil, List.all_cons, List.all_nil, List.drop_zero, List.take_succ_cons, List.take_zero, List.cons_append, List.nil_append, List.append_nil, List.getElem?_cons_zero, List.getElem?_cons_succ, List.replicate, true_and, and_true, Bool.and_true, Bool.true_and, Bool.and_self, Bool.or_false, ↓reduceIte, decide_true, decide_false, reduceCtorEq, Nat.reduceAdd, Nat.reduceMul, Nat.reduceLeDiff, Nat.reduceEqDiff, Nat.reduceLT, Nat.zero_le, Nat.le_refl, Nat.zero_add, List.length_append, eg, c1, avs_len, ew]
          refine ⟨⟨by simp only [maxLen]; omega, by omega⟩, ⟨by simp only [maxLen]; omega, by omega⟩, ?_⟩
          simp only [loopX_normal, St.trunc, St.keep, truncVs, truncV, AB.trunc, keepV, List.drop_zero, List.elem_cons, List.elem_nil, List.take_succ_cons, List.take_zero, List.map_cons, List.map_nil, List.getElem?_cons_zero, List.getElem?_cons_succ, List.length_cons, List.length_nil, Nat.reduceAdd, Nat.reduceBEq, Nat.reduceLeDiff, Nat.le_refl, Nat.zero_add, Bool.false_eq_true, ↓reduceIte]
          exact ⟨i + 1, hlt, by omega, by rw [hb, insStep, if_pos (by rw [h3]; simp)]; simp only; rw [← avs_snoc, ← avs_snoc, List.length_append, List.length_append]; rfl⟩
        · try simp (maxSteps := 1000000) only [go_nil, go_skip, go_region, go_blk, go_ops_nil, go_op, opK_none, contK_some, condK_f, callOf, fstep, fpre, fstep0, fbinA, fbin, fbin0, fload, fcell, findexAddr, evParts, evOwners, fbuildSlice, felems, fappend, T, TI.isAgg, TI.zeroOk, TI.zav, setParts, partsOk, St.ev, St.put, St.shutAll, St.rehome, killV, killVs, AB.kill, AV.cells, AV.known, AV.flat, AV.pure, pureAll, AV.owners, ownersAll, Value.oneCell', List.getD_cons_zero, List.getD_cons_succ, List.set, List.map_cons, List.map_nil, List.length_cons, List.length_nil, List.all_cons, List.all_nil, List.drop_zero, List.take_succ_cons, List.take_zero, List.cons_append, List.nil_append, List.append_nil, List.getElem?_cons_zero, List.getElem?_cons_succ, List.replicate, true_and, and_true, Bool.and_true, Bool.true_and, Bool.and_self, Bool.or_false, ↓reduceIte, decide_true, decide_false, reduceCtorEq, Nat.reduceAdd, Nat.reduceMul, Nat.reduceLeDiff, Nat.reduceEqDiff, Nat.reduceLT, Nat.zero_le, Nat.le_refl, Nat.zero_add, eg, c1, avs_len, ew]
          refine ⟨⟨by simp only [maxLen]; omega, by omega⟩, ?_⟩
          simp only [loopX_normal, St.trunc, St.keep, truncVs, truncV, AB.trunc, keepV, List.drop_zero, List.elem_cons, List.elem_nil, List.take_succ_cons, List.take_zero, List.map_cons, List.map_nil, List.getElem?_cons_zero, List.getElem?_cons_succ, List.length_cons, List.length_nil, Nat.reduceAdd, Nat.reduceBEq, Nat.reduceLeDiff, Nat.le_refl, Nat.zero_add, Bool.false_eq_true, ↓reduceIte]
          exact ⟨i + 1, hlt, by omega, by rw [hb, insStep, if_neg (by rw [h3]; simp)]; simp only; rw [← avs_snoc, List.length_append]; rfl⟩
    · obtain rfl := at_end hi h
      rw [List.take_length]
      have hl := (insF_len s R).1
      (first | refine guardV_split ?_ ?_ | refine condK_split ?_ ?_ | refine drawV_split ?_ ?_ | refine condY_split ?_ ?_ | refine guardY_split ?_ ?_) <;> intro h3
      · try simp (maxSteps := 1000000) only [go_region, go_seq, go_ret, go_ops_nil, go_op, opK_none, contK_some, condK_t, callOf, fstep, fpre, fstep0, fload, fcell, evParts, evOwners, fbuildSlice, felems, fappend, T, TI.isAgg, TI.zeroOk, TI.zav, setParts, partsOk, St.ev, St.put, St.shutAll, St.rehome, killV, killVs, AB.kill, AV.cells, AV.known, AV.flat, AV.pure, pureAll, AV.owners, ownersAll, Value.oneCell', List.getD_cons_zero, List.getD_cons_succ, List.set, List.map_cons, List.map_nil, List.length_cons, List.length_nil, List.all_cons, List.all_nil, List.drop_zero, List.take_succ_cons, List.take_zero, List.cons_append, List.nil_append, List.append_nil, List.getElem?_cons_zero, List.getElem?_cons_succ, List.replicate, true_and, and_true, Bool.and_true, Bool.true_and, Bool.and_self, Bool.or_false, ↓reduceIte, decide_true, decide_false, reduceCtorEq, Nat.reduceAdd, Nat.reduceMul, Nat.reduceLeDiff, Nat.reduceEqDiff, Nat.reduceLT, Nat.zero_le, Nat.le_refl, Nat.zero_add, avs_len]
        refine ⟨⟨by simp only [maxLen]; omega, by omega⟩, ?_⟩
        apply hK
        simp only [Try.results75, retK, ares, Bool.and_true, Bool.true_and, AV.ofResults, St.trunc, truncVs, truncV, List.getD_cons_zero, List.getD_cons_succ, List.take_zero, List.drop_zero, List.map_nil, List.getElem?_cons_zero, List.getElem?_cons_succ, Nat.reduceLeDiff, true_and, and_true, ↓reduceIte, List.cons.injEq, exists_eq_left']
        rw [sl_full (by rw [List.length_append, avs_len]; rfl), ins, if_neg (by simpa using h3), ← avs_snoc]; rfl
      · try simp (maxSteps := 1000000) only [go_skip, go_region, go_seq, go_ret, go_ops_nil, go_op, opK_none, contK_some, condK_f, callOf, fstep, fpre, fstep0, St.ev, St.put, List.getD_cons_zero, List.getD_cons_succ, List.set, true_and, Bool.true_and]
        apply hK
        simp only [Try.results75, retK, ares, Bool.and_true, Bool.true_and, AV.ofResults, St.trunc, truncVs, truncV, List.getD_cons_zero, List.getD_cons_succ, List.take_zero, List.drop_zero, List.map_nil, List.getElem?_cons_zero, List.getElem?_cons_succ, Nat.reduceLeDiff, true_and, and_true, ↓reduceIte, List.cons.injEq, exists_eq_left']
        rw [sl_full (avs_len _), ins, if_pos (by simpa using h3)]
theorem ins_len (s : Ses) (l : List Ses) : (ins s l).length ≤ l.length + 1 := by
  have h := insF_len s l
  unfold ins
  split
  · exact h.1
  · rename_i hp
    rw [List.length_append, h.2 (by simpa using hp)]; simp
theorem insF_mem (s : Ses) : ∀ l : List Ses, ∀ x ∈ (insF s l).1, x = s ∨ x ∈ l := by
  refine snoc_ind (fun x hx => by cases hx) ?_
  intro l a ih x hx
  have e : insF s (l ++ [a]) = insStep s (insF s l) a := by rw [insF, List.foldl_append]; rfl
  rw [e, insStep] at hx
  split at hx
  · simp only [List.mem_append, List.mem_singleton] at hx
    rcases hx with (hx | hx) | hx
    · exact (ih x hx).imp id (fun h => by simp [h])
    · exact .inl hx
    · exact .inr (by simp [hx])
  · simp only [List.mem_append, List.mem_singleton] at hx
    rcases hx with hx | hx
    · exact (ih x hx).imp id (fun h => by simp [h])
    · exact .inr (by simp [hx])
theorem ins_mem {s : Ses} {l : List Ses} {x : Ses} (h : x ∈ ins s l) : x = s ∨ x ∈ l := by
  unfold ins at h
  split at h
  · exact insF_mem s l x h
  · rcases List.mem_append.1 h with h | h
    · exact insF_mem s l x h
    · exact .inl (by simpa using h)

/-- No two have one id. -/
def Apart (l : List Ses) : Prop := ∀ a ∈ l, ∀ b ∈ l, a.id = b.id → a = b
def sortStep (o : List Ses) (s : Ses) : List Ses := if has o s.id then o else ins s (clear o s.id)
def sortF (l : List Ses) : List Ses := l.foldl sortStep []
theorem sortF_next {l : List Ses} {i : Nat} (h : i < l.length) : sortF (l.take (i + 1)) = sortStep (sortF (l.take i)) l[i] := by
  rw [take_one h, sortF, List.foldl_append]; rfl
theorem sortF_spec : ∀ l : List Ses, (sortF l).length ≤ l.length ∧ Apart (sortF l) := by
  refine snoc_ind ⟨Nat.le_refl _, fun a ha => by cases ha⟩ ?_
  intro l s ⟨h1, h2⟩
  have e : sortF (l ++ [s]) = sortStep (sortF l) s := by rw [sortF, List.foldl_append]; rfl
  rw [e, sortStep]
  split
  · exact ⟨by rw [List.length_append]; omega, h2⟩
  · refine ⟨?_, ?_⟩
    · have := ins_len s (clear (sortF l) s.id)
      have : (clear (sortF l) s.id).length ≤ (sortF l).length := List.length_filter_le _ _
      rw [List.length_append, List.length_singleton]; omega
    · have cm : ∀ x, x ∈ clear (sortF l) s.id → x ∈ sortF l ∧ x.id ≠ s.id := fun x hx => by
        have := List.mem_filter.1 hx
        exact ⟨this.1, by simpa using this.2⟩
      intro a ha b hb hab
      rcases ins_mem ha with rfl | ha
      · rcases ins_mem hb with rfl | hb
        · rfl
        · exact absurd hab.symm (cm b hb).2
      · rcases ins_mem hb with rfl | hb
        · exact absurd hab (cm a ha).2
        · exact h2 a (cm a ha).1 b (cm b hb).1 hab

end Go.Proofs.Ytljgfapbbhbbpaa
namespace Go.Proofs.Ytljgfapbbhbbpaa
open Go Go.Proofs.Ytljgfapbbhbbpaa.Sym
set_option maxRecDepth 100000
set_option linter.unusedSimpArgs false
set_option linter.unusedVariables false

def cmpF (a b : Int) : Int := if a < b then -1 else if b < a then 1 else 0
theorem cmp_lt (a b : Int) : decide (cmpF a b < 0) = ltI a b := by
  unfold cmpF ltI
  split
  · rename_i h; simp [h]
  · rename_i h
    split <;> simp [h]
theorem cmp_eq (a b : Int) : (cmpF a b == 0) = eqI a b := by
  unfold cmpF eqI
  rw [Bool.eq_iff_iff]
  split
  · simp; omega
  · split
    · simp; omega
    · simp; omega
theorem compare_int (a b : Int) : PCall P 114 [i64 a, i64 b] (fun x => x = i64 (cmpF a b)) := by
  refine pcall_go tyOk Try.func114 rfl rfl ?_
  intro K hK
  simp only [Try.ntmps114, List.length_cons, List.length_nil, Nat.reduceAdd, Nat.reduceSub, List.replicate, List.cons_append, List.nil_append]
  try simp (maxSteps := 1000000) only [go_region, go_seq, go_ops_nil, go_op, opK_none, opK_some, contK_some, callOf, callK_eq, callJ_nil, callD_fn, fstep, fpre, fstep0, evs, St.ev, St.put, AV.owners, ownersAll, List.getD_cons_zero, List.getD_cons_succ, List.set, List.append_nil, true_and, Bool.true_and]
  (refine callG_use (cmpNaN_int a) rfl ?_; rintro _ rfl)
  try simp (maxSteps := 1000000) only [go_region, go_seq, go_ops_nil, go_op, opK_none, opK_some, contK_some, callOf, callK_eq, callJ_nil, callD_fn, fstep, fpre, fstep0, evs, St.ev, St.put, AV.owners, ownersAll, List.getD_cons_zero, List.getD_cons_succ, List.set, List.append_nil, true_and, Bool.true_and]
  (refine callG_use (cmpNaN_int b) rfl ?_; rintro _ rfl)
  try simp (maxSteps := 1000000) only [go_skip, go_region, go_seq, go_cond, go_ops_nil, go_op, opK_none, contK_some, condK_f, callOf, fstep, fpre, fstep0, fbinA, fbin, fbin0, St.ev, St.put, List.getD_cons_zero, List.getD_cons_succ, List.set, true_and, Bool.true_and]
  (first | refine guardV_split ?_ ?_ | refine condK_split ?_ ?_ | refine drawV_split ?_ ?_ | refine condY_split ?_ ?_ | refine guardY_split ?_ ?_) <;> intro h
  · try simp (maxSteps := 1000000) only [go_region, go_seq, go_ret, go_ops_nil, go_op, opK_none, contK_some, condK_t, callOf, fstep, fpre, fstep0, St.ev, St.put, List.set, true_and, Bool.true_and]
    apply hK
    simp only [Try.results114, retK, ares, List.take_nil, Bool.and_true, Bool.true_and, AV.ofResults, St.trunc, truncVs, truncV, List.getD_cons_zero, List.getD_cons_succ, List.map_nil, true_and, and_true, List.cons.injEq, exists_eq_left']
    rw [cmpF, if_pos (by simpa using h)]
  · try simp (maxSteps := 1000000) only [go_skip, go_region, go_seq, go_cond, go_ops_nil, go_op, opK_none, contK_some, condK_f, callOf, fstep, fpre, fstep0, fbinA, fbin, fbin0, St.ev, St.put, List.getD_cons_zero, List.getD_cons_succ, List.set, true_and, Bool.true_and]
    (first | refine guardV_split ?_ ?_ | refine condK_split ?_ ?_ | refine drawV_split ?_ ?_ | refine condY_split ?_ ?_ | refine guardY_split ?_ ?_) <;> intro h2
    · try simp (maxSteps := 1000000) only [go_region, go_seq, go_ret, go_ops_nil, go_op, opK_none, contK_some, condK_t, callOf, fstep, fpre, fstep0, St.ev, St.put, List.set, true_and, Bool.true_and]
      apply hK
      simp only [Try.results114, retK, ares, List.take_nil, Bool.and_true, Bool.true_and, AV.ofResults, St.trunc, truncVs, truncV, List.getD_cons_zero, List.getD_cons_succ, List.map_nil, true_and, and_true, List.cons.injEq, exists_eq_left']
      rw [cmpF, if_neg (by simpa using h), if_pos (by simpa using h2)]
    · try simp (maxSteps := 1000000) only [go_skip, go_region, go_seq, go_ret, go_ops_nil, go_op, opK_none, contK_some, condK_f, callOf, fstep, fpre, fstep0, St.ev, St.put, List.set, true_and, Bool.true_and]
      apply hK
      simp only [Try.results114, retK, ares, List.take_nil, Bool.and_true, Bool.true_and, AV.ofResults, St.trunc, truncVs, truncV, List.getD_cons_zero, List.getD_cons_succ, List.map_nil, true_and, and_true, List.cons.injEq, exists_eq_left']
      rw [cmpF, if_neg (by simpa using h), if_neg (by simpa using h2)]
theorem find_cmp (s : Ses) (id : Int) : PCall P 113 [s.av, i64 id] (fun x => x = i64 (cmpF s.id id)) := by
  refine pcall_go tyOk Try.func113 rfl rfl ?_
  intro K hK
  simp only [Try.ntmps113, List.length_cons, List.length_nil, Nat.reduceAdd, Nat.reduceSub, List.replicate, List.cons_append, List.nil_append]
  try simp (maxSteps := 1000000) only [go_region, go_seq, go_ops_nil, go_op, opK_none, opK_some, contK_some, callOf, callK_eq, callJ_nil, callD_fn, fstep, fpre, fstep0, fload, fcell, ffieldAddr, evs, T, TI.isAgg, St.ev, St.put, AV.cells, AV.known, AV.owners, ownersAll, List.getD_cons_zero, List.getD_cons_succ, List.set, List.length_cons, List.length_nil, List.drop_zero, List.headD_cons, List.nil_append, List.append_nil, List.getElem?_cons_zero, List.getElem?_toArray, true_and, Bool.true_and, Bool.false_eq_true, ↓reduceIte, reduceCtorEq, ne_eq, not_false_eq_true, Nat.reduceAdd, Nat.reduceLT, Nat.add_zero, Nat.zero_add, Ses.av]
  (refine callG_use (compare_int s.id id) rfl ?_; rintro _ rfl)
  try simp (maxSteps := 1000000) only [go_ret, go_ops_nil, go_op, opK_none, contK_some, callOf, fstep, fpre, fstep0, St.ev, St.put, List.getD_cons_zero, List.getD_cons_succ, List.set, true_and, Bool.true_and]
  apply hK
  simp only [Try.results113, retK, ares, Bool.and_true, Bool.true_and, AV.ofResults, St.trunc, truncVs, truncV, List.getD_cons_zero, List.getD_cons_succ, List.take_zero, List.map_nil, true_and, and_true, List.cons.injEq, exists_eq_left']
def ids (l : List Ses) : List Int := l.map Ses.id
theorem ids_len (l : List Ses) : (ids l).length = l.length := by simp [ids]
theorem ids_get {l : List Ses} {i : Nat} (h : i < l.length) : (ids l)[i]'(by rw [ids_len]; exact h) = l[i].id := by simp [ids]
theorem search_ses (l : List Ses) (hr : Rises ltI (ids l)) (k : Int) (hlen : l.length ≤ 1000000) :
    PCall P 112 [.sl 4 (avs l), i64 k, .fn 113 []] (fun x => x = .tup [i64 ((lb ltI (ids l) k : Nat) : Int), bool (hasAt ltI eqI (ids l) k)]) := by
  refine pcall_go tyOk Try.func112 rfl rfl ?_
  intro K hK
  simp only [Try.ntmps112, List.length_cons, List.length_nil, Nat.reduceAdd, Nat.reduceSub, List.replicate, List.cons_append, List.nil_append]
  try simp (maxSteps := 1000000) only [go_region, go_seq, go_block, go_loop, go_ops_nil, go_op, opK_none, contK_some, callOf, fstep, fpre, fstep0, flen, T, St.ev, St.put, List.getD_cons_zero, List.getD_cons_succ, List.set, true_and, Bool.true_and, avs_len]
  have hle := lb_le (lt := ltI) (ids l) k
  rw [ids_len] at hle
  refine loopK_rule tyOk (α := Nat × Nat) 0 [0, 1, 2, 6, 7, 8, 9, 10] (fun q => q.1 ≤ lb ltI (ids l) k ∧ lb ltI (ids l) k ≤ q.2 ∧ q.2 ≤ l.length)
    (fun q => ⟨[.sl 4 (avs l), i64 k, .fn 113 [], .any, .any, .any, i64 0, bool false, i64 l.length, i64 q.1, i64 q.2, .any, .any, .any, .any, .any, .any, .any, .any, .any, .any, .any, .any, .any, .any, .any, .any, .any, .any, .any, .any, .any, .any, .any, .any, .any, .any, .any, .any, .any, .any, .any, .any, .any, .any, .any, .any, .any, .any], []⟩)
    (fun q => q.2 - q.1) (0, l.length) (Nat.zero_le _) ⟨Nat.zero_le _, hle, Nat.le_refl _⟩ rfl ?_
  rintro ⟨i, j⟩ ⟨h1, h2, h3⟩
  simp only at h1 h2 h3
  try simp (maxSteps := 1000000) only [go_region, go_seq, go_cond, go_ops_nil, go_op, opK_none, contK_some, callOf, fstep, fpre, fstep0, fbinA, fbin, fbin0, St.ev, St.put, List.getD_cons_zero, List.getD_cons_succ, List.set, true_and, Bool.true_and]
  (first | refine guardV_split ?_ ?_ | refine condK_split ?_ ?_ | refine drawV_split ?_ ?_ | refine condY_split ?_ ?_ | refine guardY_split ?_ ?_) <;> intro hc <;> try simp (maxSteps := 1000000) only [go_skip, go_region, go_seq, go_block, go_exit, exitK_code, exitK_blk, exitK_nil, go_ops_nil, go_op, go_guard, opK_none, opK_some, contK_some, condK_t, condK_f, guardK_eq, callOf, callK_eq, fstep, fpre, fstep0, fbinA, gbin, gbits, gnil, fbin, fbin0, fload, fcell, findexAddr, fconvA, fconvert, evs, T, TI.isAgg, St.ev, St.put, AV.cells, AV.known, AV.owners, ownersAll, Value.cells, List.getD_cons_zero, List.getD_cons_succ, List.set, List.append_nil, List.getElem?_cons_zero, List.getElem?_cons_succ, Option.bind_some, List.getElem?_toArray, true_and, Bool.true_and, ↓reduceIte, Int.reduceLE, loopX_exit]
  · have hij : i < j := by simpa using hc
    obtain ⟨hh, hlt, ew⟩ := half_idx (i := i) (j := j) (by omega) hij
    have hhn : (i + j) / 2 < l.length := by omega
    have eg := avs_get hhn
    have k1 : (0 : Int) ≤ (((i + j) / 2 : Nat) : Int) ∧ Int.toNat (((i + j) / 2 : Nat) : Int) < l.length := by omega
    have w1 : IntKind.i64.wrap ((((i + j) / 2 : Nat) : Int) + 1) = (((i + j) / 2 + 1 : Nat) : Int) := by rw [wrap_i64 (by omega) (by omega)]; rfl
    have hid := ids_get hhn
    try simp (maxSteps := 1000000) only [callJ_nil, callD_fn, evs, St.ev, AV.owners, ownersAll, List.getD_cons_zero, List.getD_cons_succ, List.length_cons, List.length_nil, List.take_succ_cons, List.take_zero, List.append_nil, true_and, and_true, Bool.and_true, Bool.true_and, Nat.reduceAdd, Nat.le_refl, Nat.zero_add, ew, eg, k1, avs_len, Ses.av]
    (refine callG_use (find_cmp l[(i + j) / 2] k) rfl ?_; rintro _ rfl)
    try simp (maxSteps := 1000000) only [go_cond, go_ops_nil, go_op, opK_none, contK_some, callOf, fstep, fpre, fstep0, fbinA, fbin, fbin0, St.ev, St.put, List.getD_cons_zero, List.getD_cons_succ, List.set, true_and, Bool.true_and, cmp_lt]
    cases hl : ltI l[(i + j) / 2].id k
    · try simp (maxSteps := 1000000) only [go_nil, go_region, go_blk, go_ops_nil, go_op, opK_none, contK_some, condK_f, callOf, fstep, fpre, fstep0, St.ev, St.put, List.getD_cons_zero, List.getD_cons_succ, List.set, true_and, Bool.true_and]
      simp only [loopX_normal, St.trunc, St.keep, truncVs, truncV, keepV, List.elem_cons, List.elem_nil, List.take_zero, List.map_nil, Nat.reduceAdd, Nat.reduceBEq, Nat.zero_add, Bool.false_eq_true, ↓reduceIte]
      refine ⟨(i, (i + j) / 2), ⟨h1, ?_, by omega⟩, by simp only; omega, rfl⟩
      apply Nat.le_of_not_lt
      intro hb
      have := lb_lt (lt := ltI) hb
      rw [hid, hl] at this; cases this
    · try simp (maxSteps := 1000000) only [go_nil, go_region, go_blk, go_ops_nil, go_op, opK_none, contK_some, condK_t, callOf, fstep, fpre, fstep0, fbinA, fbin, fbin0, St.ev, St.put, List.getD_cons_zero, List.getD_cons_succ, List.set, true_and, Bool.true_and, w1]
      simp only [loopX_normal, St.trunc, St.keep, truncVs, truncV, keepV, List.elem_cons, List.elem_nil, List.take_zero, List.map_nil, Nat.reduceAdd, Nat.reduceBEq, Nat.zero_add, Bool.false_eq_true, ↓reduceIte]
      refine ⟨((i + j) / 2 + 1, j), ⟨?_, h2, h3⟩, by simp only; omega, rfl⟩
      apply Nat.lt_of_not_le
      intro hb
      have := lb_ge ordI hr (by rw [ids_len]; exact hhn) hb
      rw [hid, hl] at this; cases this
  · have hij : ¬ i < j := by simpa using hc
    obtain rfl : i = lb ltI (ids l) k := by omega
    by_cases hn : lb ltI (ids l) k < l.length
    · have eg := avs_get hn
      have k1 : (0 : Int) ≤ ((lb ltI (ids l) k : Nat) : Int) ∧ Int.toNat ((lb ltI (ids l) k : Nat) : Int) < l.length := by omega
      have d1 : decide (((lb ltI (ids l) k : Nat) : Int) < (l.length : Int)) = true := decide_eq_true (by omega)
      have hh := hasAt_lt (eq := eqI) (show lb ltI (ids l) k < (ids l).length by rw [ids_len]; exact hn)
      rw [ids_get hn] at hh
      rw [hh] at hK
      try simp (maxSteps := 1000000) only [go_guard, opK_none, opK_some, contK_some, guardK_eq, guardV_tt, callOf, callK_eq, callJ_nil, callD_fn, fstep, fpre, fstep0, fload, fcell, findexAddr, evs, T, TI.isAgg, St.ev, St.put, AV.cells, AV.known, AV.owners, ownersAll, List.getD_cons_zero, List.getD_cons_succ, List.set, List.length_cons, List.length_nil, List.take_succ_cons, List.take_zero, List.append_nil, List.getElem?_cons_zero, List.getElem?_cons_succ, Option.bind_some, List.getElem?_toArray, true_and, and_true, Bool.and_true, Bool.true_and, ↓reduceIte, Nat.reduceAdd, Nat.le_refl, Nat.zero_add, d1, eg, k1, avs_len, Ses.av]
      (refine callG_use (find_cmp l[lb ltI (ids l) k] k) rfl ?_; rintro _ rfl)
      try simp (maxSteps := 1000000) only [go_ret, go_ops_nil, go_op, go_guard, opK_none, contK_some, guardK_eq, guardV_tt, callOf, fstep, fpre, fstep0, fbinA, fbin, fbin0, fpick, St.ev, St.put, List.getD_cons_zero, List.getD_cons_succ, List.set, List.getElem?_cons_zero, List.getElem?_cons_succ, Option.bind_some, List.getElem?_toArray, true_and, Bool.true_and, cond_true, cmp_eq]
      apply hK
      simp only [Try.results112, retK, ares, List.take_nil, Bool.and_true, Bool.true_and, AV.ofResults, St.trunc, truncVs, truncV, List.getD_cons_zero, List.getD_cons_succ, List.map_nil, true_and, and_true, List.cons.injEq, exists_eq_left']
    · have d1 : decide (((lb ltI (ids l) k : Nat) : Int) < (l.length : Int)) = false := decide_eq_false (by omega)
      rw [hasAt_ge (by rw [ids_len]; omega)] at hK
      try simp (maxSteps := 1000000) only [go_ret, go_ops_nil, go_op, go_guard, opK_none, contK_some, guardK_eq, guardV_ft, undef, callOf, fstep, fpre, fstep0, fpick, St.ev, St.put, List.getD_cons_zero, List.getD_cons_succ, List.set, List.getElem?_cons_zero, List.getElem?_cons_succ, Option.bind_some, List.getElem?_toArray, true_and, Bool.true_and, Bool.false_eq_true, ↓reduceIte, d1]
      apply hK
      simp only [Try.results112, retK, ares, List.take_nil, Bool.and_true, Bool.true_and, AV.ofResults, St.trunc, truncVs, truncV, List.getD_cons_zero, List.getD_cons_succ, List.map_nil, true_and, and_true, List.cons.injEq, exists_eq_left']
theorem find_ses (l : List Ses) (hr : Rises ltI (ids l)) (k : Int) (hlen : l.length ≤ 1000000) :
    PCall P 97 [.sl 4 (avs l), i64 k] (fun x => x = .tup [i64 ((lb ltI (ids l) k : Nat) : Int), bool (hasAt ltI eqI (ids l) k)]) := by
  refine pcall_go tyOk Try.func97 rfl rfl ?_
  intro K hK
  simp only [Try.ntmps97, List.length_cons, List.length_nil, Nat.reduceAdd, Nat.reduceSub, List.replicate, List.cons_append, List.nil_append]
  try simp (maxSteps := 1000000) only [go_region, go_seq, go_ops_nil, go_op, opK_none, opK_some, contK_some, callOf, callK_eq, callJ_nil, callD_fn, fstep, fpre, fstep0, evs, St.ev, St.put, AV.owners, ownersAll, List.getD_cons_zero, List.getD_cons_succ, List.set, List.append_nil, true_and, Bool.true_and]
  (refine callG_use (search_ses l hr k hlen) rfl ?_; rintro _ rfl)
  try simp (maxSteps := 1000000) only [go_ret, go_ops_nil, go_op, opK_none, contK_some, callOf, fstep, fpre, fstep0, St.ev, St.put, List.getD_cons_zero, List.getD_cons_succ, List.set, List.length_cons, List.length_nil, true_and, Bool.true_and, Nat.reduceAdd, Nat.reduceLT, Nat.zero_add]
  apply hK
  simp only [Try.results97, retK, ares, List.take_nil, Bool.and_true, Bool.true_and, AV.ofResults, St.trunc, truncVs, truncV, List.getD_cons_zero, List.getD_cons_succ, List.map_nil, true_and, and_true, List.cons.injEq, exists_eq_left']

/-! ### Sets of sessions, plainly -/
theorem has_iff {l : List Ses} {id : Int} : has l id = true ↔ id ∈ ids l := by
  rw [has, List.any_eq_true, ids, List.mem_map]
  constructor
  · rintro ⟨s, h1, h2⟩; exact ⟨s, h1, by simpa using h2⟩
  · rintro ⟨s, h1, rfl⟩; exact ⟨s, h1, by simp⟩
theorem has_at {l : List Ses} (hr : Rises ltI (ids l)) (id : Int) : hasAt ltI eqI (ids l) id = has l id := by
  rw [Bool.eq_iff_iff, hasAt_iff ordI eqI_iff hr, has_iff]
abbrev Up (l : List Ses) : Prop := Rises ltI (ids l)
theorem up_iff {l : List Ses} : Up l ↔ l.Pairwise fun a b => a.id < b.id := by
  rw [Up, Rises, ids, List.pairwise_map]
  simp only [ltI, decide_eq_true_eq]
/-- A list with one put where it belongs. -/
def put (l : List Ses) (s : Ses) : List Ses := l.filter (fun x => decide (x.id < s.id)) ++ [s] ++ l.filter (fun x => decide (s.id < x.id))
def keyed (l : List Ses) : List (Int × Ses) := l.map fun s => (s.id, s)
theorem keyed_fst (l : List Ses) : (keyed l).map Prod.fst = ids l := by rw [keyed, ids, List.map_map]; rfl
theorem keyed_snd (l : List Ses) : (keyed l).map Prod.snd = l := by rw [keyed, List.map_map]; exact List.map_id _
theorem put_at {l : List Ses} (hr : Up l) (s : Ses) : (if has l s.id = true then l.set (lb ltI (ids l) s.id) s else l.take (lb ltI (ids l) s.id) ++ [s] ++ l.drop (lb ltI (ids l) s.id)) = put l s := by
  have h := congrArg (List.map Prod.snd) (with_eq ordI eqI_iff (m := keyed l) (by rw [RisesM, keyed_fst]; exact hr) s.id s)
  have f : ∀ p : Ses → Bool, ((keyed l).filter fun q => p q.2).map Prod.snd = l.filter p := by
    intro p
    rw [keyed, List.filter_map, List.map_map]
    exact List.map_id _
  have f1 : (keyed l).filter (fun p => ltI p.1 s.id) = (keyed l).filter (fun q => (fun x : Ses => decide (x.id < s.id)) q.2) := by
    rw [keyed, List.filter_map, List.filter_map]; rfl
  have f2 : (keyed l).filter (fun p => ltI s.id p.1) = (keyed l).filter (fun q => (fun x : Ses => decide (s.id < x.id)) q.2) := by
    rw [keyed, List.filter_map, List.filter_map]; rfl
  rw [f1, f2, List.map_append, List.map_append, f (fun x => decide (x.id < s.id)), f (fun x => decide (s.id < x.id))] at h
  unfold withG at h
  rw [keyed_fst, has_at hr] at h
  rw [put]
  refine Eq.trans ?_ h
  split
  · rw [List.map_set, keyed_snd]
  · rw [List.map_append, List.map_append, List.map_take, List.map_drop, keyed_snd]; rfl
theorem put_up {l : List Ses} (hr : Up l) (s : Ses) : Up (put l s) := by
  have h0 := up_iff.1 hr
  refine up_iff.2 ?_
  rw [put, List.append_assoc, List.pairwise_append]
  refine ⟨h0.sublist List.filter_sublist, ?_, ?_⟩
  · rw [List.cons_append, List.nil_append, List.pairwise_cons]
    exact ⟨fun y hy => by simpa using (List.mem_filter.1 hy).2, h0.sublist List.filter_sublist⟩
  · intro a ha b hb
    have ha : a.id < s.id := by simpa using (List.mem_filter.1 ha).2
    rcases List.mem_append.1 hb with hb | hb
    · obtain rfl : b = s := by simpa using hb
      exact ha
    · have hb : s.id < b.id := by simpa using (List.mem_filter.1 hb).2
      omega
theorem clear_up {l : List Ses} (hr : Up l) (id : Int) : Up (clear l id) := up_iff.2 ((up_iff.1 hr).sublist List.filter_sublist)
theorem lives_up {l : List Ses} (hr : Up l) (now : Int) : Up (lives now l) := up_iff.2 ((up_iff.1 hr).sublist List.filter_sublist)
theorem insF_put (s : Ses) (l : List Ses) : ∀ out, l.foldl (insStep s) (out, true) = (out ++ l, true) := by
  induction l with
  | nil => intro out; simp
  | cons x xs ih =>
    intro out
    have e : insStep s (out, true) x = (out ++ [x], true) := by simp [insStep]
    rw [List.foldl_cons, e, ih]
    simp
theorem insF_eq (s : Ses) (l : List Ses) (hr : Up l) (hn : ∀ x ∈ l, x.id ≠ s.id) : ∀ out, (fun o : List Ses × Bool => if o.2 = true then o.1 else o.1 ++ [s]) (l.foldl (insStep s) (out, false)) = out ++ put l s := by
  induction l with
  | nil => intro out; simp [put]
  | cons x xs ih =>
    intro out
    have hp := List.pairwise_cons.1 (up_iff.1 hr)
    have hx := hn x List.mem_cons_self
    by_cases hsx : s.id < x.id
    · have e : insStep s (out, false) x = (out ++ [s] ++ [x], true) := by simp [insStep, hsx]
      have f1 : xs.filter (fun y => decide (y.id < s.id)) = [] := List.filter_eq_nil_iff.2 fun y hy => by have := hp.1 y hy; simp; omega
      have f2 : xs.filter (fun y => decide (s.id < y.id)) = xs := List.filter_eq_self.2 fun y hy => by have := hp.1 y hy; simp; omega
      have d1 : decide (x.id < s.id) = false := by simp; omega
      have d2 : decide (s.id < x.id) = true := by simp; omega
      rw [List.foldl_cons, e, insF_put, put, List.filter_cons, List.filter_cons, d1, d2, f1, f2]
      simp
    · have e : insStep s (out, false) x = (out ++ [x], false) := by simp [insStep, hsx]
      have d1 : decide (x.id < s.id) = true := by simp; omega
      have d2 : decide (s.id < x.id) = false := by simp; omega
      rw [List.foldl_cons, e, ih (up_iff.2 hp.2) (fun y hy => hn y (List.mem_cons_of_mem _ hy)), put, put, List.filter_cons, List.filter_cons, d1, d2]
      simp
theorem ins_eq {l : List Ses} (hr : Up l) (s : Ses) : ins s (clear l s.id) = put l s := by
  have h := insF_eq s (clear l s.id) (clear_up hr _) (fun x hx => by simpa [clear] using (List.mem_filter.1 hx).2) []
  have e : put (clear l s.id) s = put l s := by
    rw [put, put, clear, List.filter_filter, List.filter_filter]
    congr 1
    · congr 1
      refine List.filter_congr fun x _ => ?_
      rw [Bool.eq_iff_iff]; simp; omega
    · refine List.filter_congr fun x _ => ?_
      rw [Bool.eq_iff_iff]; simp; omega
  rw [List.nil_append, e] at h
  rw [← h, ins, insF]
theorem sort_up : ∀ l : List Ses, Up (sortF l) := by
  refine snoc_ind (by exact List.Pairwise.nil) ?_
  intro l s h
  have e : sortF (l ++ [s]) = sortStep (sortF l) s := by rw [sortF, List.foldl_append]; rfl
  rw [e, sortStep]
  split
  · exact h
  · rw [ins_eq h]; exact put_up h s
end Go.Proofs.Ytljgfapbbhbbpaa
namespace Go.Proofs.Ytljgfapbbhbbpaa
open Go Go.Proofs.Ytljgfapbbhbbpaa.Sym
set_option maxRecDepth 100000
set_option linter.unusedSimpArgs false
set_option linter.unusedVariables false

theorem purge_late (now : Int) (s : Ses) (row : List AV) : ACall P 95 [.box [u64 now], .row 91 4 row] [s.av, .ptr 0 0] (fun x m' => x = bool (decide (s.un ≤ now)) ∧ m' = [.box [u64 now], .row 91 4 row]) := by
  refine acall_go tyOk Try.func95 rfl rfl ?_
  intro K hK
  simp only [Try.ntmps95, List.length_cons, List.length_nil, Nat.reduceAdd, Nat.reduceSub, List.replicate, List.cons_append, List.nil_append]
  try simp (maxSteps := 1000000) only [go_region, go_seq, go_ops_nil, go_op, opK_none, opK_some, contK_some, callOf, callK_eq, callJ_nil, callD_fn, fstep, fpre, fstep0, fload, fcell, ffieldAddr, evs, T, TI.isAgg, St.ev, St.put, AV.cells, AV.known, AV.owners, ownersAll, List.getD_cons_zero, List.getD_cons_succ, List.set, List.length_cons, List.length_nil, List.drop_succ_cons, List.drop_zero, List.headD_cons, List.cons_append, List.nil_append, List.append_nil, List.getElem?_cons_zero, List.getElem?_cons_succ, List.getElem?_toArray, true_and, Bool.true_and, Bool.false_eq_true, ↓reduceIte, reduceCtorEq, ne_eq, not_false_eq_true, Nat.reduceAdd, Nat.reduceLT, Nat.zero_add, Ses.av]
  (refine callG_use (tick_Late now s.un) rfl ?_; rintro _ rfl)
  try simp (maxSteps := 1000000) only [go_ret, go_ops_nil, go_op, opK_none, contK_some, callOf, fstep, fpre, fstep0, St.ev, St.put, List.getD_cons_zero, List.getD_cons_succ, List.set, true_and, Bool.true_and]
  apply hK
  simp only [Try.results95, retK, ares, Bool.and_true, AV.ofResults, St.trunc, truncVs, truncV, AB.trunc, List.getD_cons_zero, List.getD_cons_succ, List.take_zero, List.take_succ_cons, List.map_nil, List.map_cons, List.length_cons, List.length_nil, Nat.reduceAdd, and_true, List.cons.injEq, exists_eq_left']
def firstDead (now : Int) (l : List Ses) : Int := if lives now l = l then -1 else ((l.takeWhile (Ses.lives now)).length : Int)
theorem index_dead (now : Int) (l : List Ses) (hlen : l.length ≤ 1000000) : ACall P 111 [.box [u64 now], .row 91 4 (avs l)] [.own 1 4 0 l.length, .fn 95 [.ptr 0 0]]
    (fun x m' => (∃ i : Int, x = i64 i ∧ ((i = -1 ∧ lives now l = l) ∨ ∃ d : Nat, i = d ∧ ∃ h : d < l.length, (l[d]).lives now = false ∧ lives now (l.take d) = l.take d)) ∧ m' = [.box [u64 now], .row 91 4 (avs l)]) := by
  refine acall_go tyOk Try.func111 rfl rfl ?_
  intro K hK
  simp only [Try.ntmps111, List.length_cons, List.length_nil, Nat.reduceAdd, Nat.reduceSub, List.replicate, List.cons_append, List.nil_append]
  try simp (maxSteps := 1000000) only [go_region, go_seq, go_block, go_loop, go_ops_nil, go_op, opK_none, contK_some, callOf, fstep, fpre, fstep0, flen, T, St.ev, St.put, List.getD_cons_zero, List.getD_cons_succ, List.set, true_and, Bool.true_and]
  refine loopK_rule tyOk (α := Nat) 2 [0, 1, 7, 8] (fun i => i ≤ l.length ∧ lives now (l.take i) = l.take i)
    (fun i => ⟨[.own 1 4 0 l.length, .fn 95 [.ptr 0 0], .any, .any, .any, .any, .any, i64 l.length, i64 i, .any, .any, .any, .any, .any, .any, .any, .any, .any, .any], [.box [u64 now], .row 91 4 (avs l)]⟩)
    (fun i => l.length - i) 0 (by first | exact Nat.zero_le _ | decide) ⟨Nat.zero_le _, rfl⟩ rfl ?_
  rintro i ⟨hi, hl⟩
  try simp (maxSteps := 1000000) only [go_region, go_seq, go_cond, go_ops_nil, go_op, opK_none, contK_some, callOf, fstep, fpre, fstep0, fbinA, fbin, fbin0, St.ev, St.put, List.getD_cons_zero, List.getD_cons_succ, List.set, true_and, Bool.true_and]
  (first | refine guardV_split ?_ ?_ | refine condK_split ?_ ?_ | refine drawV_split ?_ ?_ | refine condY_split ?_ ?_ | refine guardY_split ?_ ?_) <;> intro h
  · obtain ⟨hlt, eg, ew, c1⟩ := at_idx (by omega) h
    try simp (maxSteps := 1000000) only [go_skip, go_region, go_seq, go_block, go_ops_nil, go_op, opK_none, opK_some, contK_some, condK_t, callOf, callK_eq, callJ_nil, callD_fn, fstep, fpre, fstep0, fload, fcell, findexAddr, evs, T, TI.isAgg, St.ev, St.put, AV.cells, AV.known, AV.owners, ownersAll, List.getD_cons_zero, List.getD_cons_succ, List.set, List.length_cons, List.length_nil, List.drop_zero, List.take_succ_cons, List.take_zero, List.cons_append, List.nil_append, List.append_nil, List.getElem?_cons_zero, List.getElem?_cons_succ, true_and, and_true, Bool.and_true, Bool.true_and, ↓reduceIte, Nat.reduceAdd, Nat.le_refl, Nat.zero_add, eg, c1, avs_len]
    (refine callG_frame (purge_late now l[i] (avs l)) [0, 1] (by decide) rfl rfl rfl rfl ?_; rintro _ _ ⟨rfl, rfl⟩; refine ⟨rfl, ?_⟩)
    try simp (maxSteps := 1000000) only [go_cond, go_ops_nil, St.ev, St.put, ren, renAll, AB.ren, renM, putL, List.getD_cons_zero, List.getD_cons_succ, List.set]
    (first | refine guardV_split ?_ ?_ | refine condK_split ?_ ?_ | refine drawV_split ?_ ?_ | refine condY_split ?_ ?_ | refine guardY_split ?_ ?_) <;> intro h2
    · have hd : (l[i]).lives now = false := by
        have : l[i].un ≤ now := by simpa using h2
        simp only [Ses.lives, Bool.not_eq_false', decide_eq_true_eq]; exact this
      try simp (maxSteps := 1000000) only [go_region, go_seq, go_ret, go_ops_nil, go_op, opK_none, contK_some, condK_t, callOf, fstep, fpre, fstep0, St.ev, St.put, List.getD_cons_zero, List.getD_cons_succ, List.set, true_and, Bool.true_and, loopX_ret]
      apply hK
      simp only [Try.results111, retK, ares, List.take_nil, Bool.and_true, AV.ofResults, St.trunc, truncVs, truncV, AB.trunc, List.getD_cons_zero, List.getD_cons_succ, List.take_succ_cons, List.map_nil, List.map_cons, List.length_cons, List.length_nil, Nat.reduceAdd, and_true, List.cons.injEq, exists_eq_left']
      exact ⟨(i : Int), rfl, .inr ⟨i, rfl, hlt, hd, hl⟩⟩
    · have hd : (l[i]).lives now = true := by
        have : ¬ l[i].un ≤ now := by simpa using h2
        simp only [Ses.lives, Bool.not_eq_true', decide_eq_false_iff_not]; exact this
      try simp (maxSteps := 1000000) only [go_nil, go_skip, go_region, go_blk, go_ops_nil, go_op, opK_none, contK_some, condK_f, callOf, fstep, fpre, fstep0, fbinA, fbin, fbin0, St.ev, St.put, List.getD_cons_zero, List.getD_cons_succ, List.set, true_and, Bool.true_and, ew]
      simp only [loopX_normal, St.trunc, St.keep, truncVs, truncV, AB.trunc, keepV, List.elem_cons, List.elem_nil, List.take_succ_cons, List.take_zero, List.map_cons, List.map_nil, Nat.reduceAdd, Nat.reduceBEq, Nat.reduceLeDiff, Nat.zero_add, Bool.false_eq_true, ↓reduceIte]
      exact ⟨i + 1, ⟨hlt, by rw [lives_take_in hlt hd, hl, ← take_one hlt]⟩, by omega, rfl⟩
  · obtain rfl := at_end hi h
    rw [List.take_length] at hl
    try simp (maxSteps := 1000000) only [go_region, go_seq, go_exit, go_ret, exitK_code, exitK_blk, exitK_nil, go_ops_nil, go_op, opK_none, contK_some, condK_f, callOf, fstep, fpre, fstep0, St.ev, St.put, List.set, true_and, Bool.true_and, ↓reduceIte, loopX_exit]
    apply hK
    simp only [Try.results111, retK, ares, List.take_nil, Bool.and_true, AV.ofResults, St.trunc, truncVs, truncV, AB.trunc, List.getD_cons_zero, List.getD_cons_succ, List.take_succ_cons, List.map_nil, List.map_cons, List.length_cons, List.length_nil, Nat.reduceAdd, and_true, List.cons.injEq, exists_eq_left']
    exact ⟨-1, rfl, .inl ⟨rfl, hl⟩⟩

theorem set_mid {α : Type} {a g b : List α} {x y : α} : (a ++ (x :: g) ++ b).set a.length y = a ++ (y :: g) ++ b := by
  induction a with
  | nil => rfl
  | cons z a ih => simp
theorem avs_set (l : List Ses) (i : Nat) (s : Ses) : (avs l).set i s.av = avs (l.set i s) := by rw [avs, avs, List.map_set]
abbrev zses : AV := .agg [i64 0, i64 0, i64 0, u64 0]
theorem delete_dead (now : Int) (l : List Ses) (hlen : l.length ≤ 1000000) : ACall P 93 [.box [u64 now], .row 91 4 (avs l)] [.own 1 4 0 l.length, .fn 95 [.ptr 0 0]]
    (fun x m' => x = .own 1 4 0 (lives now l).length ∧ ∃ g, m' = [.box [u64 now], .row 91 4 (avs (lives now l) ++ g)]) := by
  refine acall_go tyOk Try.func93 rfl rfl ?_
  intro K hK
  simp only [Try.ntmps93, List.length_cons, List.length_nil, Nat.reduceAdd, Nat.reduceSub, List.replicate, List.cons_append, List.nil_append]
  try simp (maxSteps := 1000000) only [go_region, go_seq, go_ops_nil, go_op, opK_none, opK_some, contK_some, callOf, callK_eq, callJ_cons, fstep, fpre, fstep0, evs, St.ev, St.put, AV.owners, ownersAll, List.getD_cons_zero, List.getD_cons_succ, List.set, List.append_nil, true_and, Bool.true_and]
  refine callO_own ?_
  try simp (maxSteps := 1000000) only [callD_fn, evs, St.ev, List.getD_cons_zero, List.getD_cons_succ, List.append_nil]
  refine callG_frame (index_dead now l hlen) [0, 1] (by decide) rfl rfl rfl rfl ?_
  rintro _ _ ⟨⟨i, rfl, hi⟩, rfl⟩
  refine ⟨rfl, ?_⟩
  try simp (maxSteps := 1000000) only [go_region, go_seq, go_cond, go_ops_nil, go_op, opK_none, contK_some, callOf, fstep, fpre, fstep0, fbinA, fbin, fbin0, St.ev, St.put, ren, renAll, AB.ren, renM, putL, List.getD_cons_zero, List.getD_cons_succ, List.set, true_and, Bool.true_and]
  rcases hi with ⟨rfl, hl⟩ | ⟨d, rfl, hd, hdead, hl⟩
  · try simp (maxSteps := 1000000) only [go_region, go_seq, go_ret, go_ops_nil, go_op, opK_none, contK_some, condK_t, callOf, fstep, fpre, fstep0, St.ev, St.put, List.getD_cons_zero, List.getD_cons_succ, List.set, true_and, Bool.true_and, beq_self_eq_true]
    apply hK
    simp only [Try.results93, retK, ares, List.take_nil, Bool.and_true, Bool.true_and, AV.ofResults, St.trunc, truncVs, truncV, AB.trunc, List.getD_cons_zero, List.getD_cons_succ, List.take_succ_cons, List.map_nil, List.map_cons, List.length_cons, List.length_nil, Nat.reduceAdd, Nat.reduceLeDiff, true_and, and_true, ↓reduceIte, List.cons.injEq, exists_eq_left']
    rw [hl]
    exact ⟨rfl, [], by rw [List.append_nil]⟩
  · have e0 : ((d : Int) == -1) = false := by rw [beq_eq_false_iff_ne]; omega
    have ew0 : IntKind.i64.wrap ((d : Int) + 1) = ((d + 1 : Nat) : Int) := by rw [wrap_i64 (by omega) (by omega)]; rfl
    have hl1 : lives now (l.take (d + 1)) = l.take d := by rw [lives_take_skip hd hdead, hl]
    have hdl : (l.take d).length = d := by rw [List.length_take]; omega
    try simp (maxSteps := 1000000) only [go_skip, go_region, go_seq, go_block, go_loop, go_ops_nil, go_op, opK_none, contK_some, condK_f, callOf, fstep, fpre, fstep0, fbinA, fbin, fbin0, St.ev, St.put, List.getD_cons_zero, List.getD_cons_succ, List.set, true_and, Bool.true_and, e0, ew0]
    refine loopK_rule tyOk (α := Nat × List Ses) 2 [0, 1, 5, 6] (fun p => p.1 ≤ l.length ∧ 0 < p.2.length ∧ (lives now (l.take p.1)).length + p.2.length = p.1)
      (fun p => ⟨[.own 1 4 0 l.length, .fn 95 [.ptr 0 0], .any, .any, .any, i64 (lives now (l.take p.1)).length, i64 p.1, .any, .any, .any, .any, .any, .any, .any, .any, .any, .any, .any, .any, .any, .any, .any, .any, .any, .any, .any, .any, .any, .any, .any, .any, .any, .any, .any, .any, .any, .any, .any, .any, .any, .any, .any], [.box [u64 now], .row 91 4 (avs (lives now (l.take p.1) ++ p.2 ++ l.drop p.1))]⟩)
      (fun p => l.length - p.1) (d + 1, [l[d]]) (by first | exact Nat.zero_le _ | decide) ⟨hd, by simp, by simp only [List.length_singleton]; rw [hl1, hdl]⟩ ?_ ?_
    · have e1 : l.take d ++ [l[d]] ++ l.drop (d + 1) = l := by
        rw [← take_one hd, List.take_append_drop]
      simp only [hl1, hdl, e1]
      rfl
    rintro ⟨j, g⟩ ⟨hj, hg, hjg⟩
    simp only at hj hg hjg
    obtain ⟨A, hA⟩ : ∃ A, lives now (l.take j) = A := ⟨_, rfl⟩
    rw [hA] at hjg
    simp only [hA]
    obtain ⟨R, hR⟩ : ∃ R, A ++ g ++ l.drop j = R := ⟨_, rfl⟩
    have eR : R.length = l.length := by rw [← hR]; simp; omega
    try simp (maxSteps := 1000000) only [go_region, go_seq, go_cond, go_ops_nil, go_op, opK_none, contK_some, callOf, fstep, fpre, fstep0, fbinA, fbin, fbin0, flen, T, St.ev, St.put, List.getD_cons_zero, List.getD_cons_succ, List.set, true_and, Bool.true_and]
    (first | refine guardV_split ?_ ?_ | refine condK_split ?_ ?_ | refine drawV_split ?_ ?_ | refine condY_split ?_ ?_ | refine guardY_split ?_ ?_) <;> intro h
    · obtain ⟨hlt, eg, ew, c1⟩ := at_idx (by omega) h
      have hdr : l.drop j = l[j] :: l.drop (j + 1) := List.drop_eq_getElem_cons hlt
      have hRj : R[j]'(by omega) = l[j] := by
        simp only [← hR]
        rw [List.getElem_append_right (by simp; omega)]
        simp only [hdr]
        have : j - (A ++ g).length = 0 := by simp; omega
        simp only [this, List.getElem_cons_zero]
      have eg2 := avs_get (l := R) (i := j) (by omega)
      rw [hRj] at eg2
      have eg3 := avs_get (l := R) (i := A.length) (by omega)
      have c3 : (0 : Int) ≤ ((A.length : Nat) : Int) ∧ Int.toNat ((A.length : Nat) : Int) < l.length := by omega
      have ew2 : IntKind.i64.wrap ((A.length : Int) + 1) = ((A.length + 1 : Nat) : Int) := by rw [wrap_i64 (by omega) (by omega)]; rfl
      rw [hR]
      try simp (maxSteps := 1000000) only [go_skip, go_region, go_seq, go_block, go_ops_nil, go_op, opK_none, opK_some, contK_some, condK_t, callOf, callK_eq, callJ_nil, callD_fn, fstep, fpre, fstep0, fload, fcell, fstore, findexAddr, evs, T, TI.isAgg, St.ev, St.put, splice, AV.cells, AV.known, AV.flat, AV.owners, ownersAll, Value.oneCell', List.getD_cons_zero, List.getD_cons_succ, List.set, List.map_cons, List.map_nil, List.length_cons, List.length_nil, List.all_cons, List.all_nil, List.drop_succ_cons, List.drop_zero, List.take_succ_cons, List.take_zero, List.cons_append, List.nil_append, List.append_nil, List.getElem?_cons_zero, List.getElem?_cons_succ, true_and, and_true, Bool.and_true, Bool.true_and, Bool.and_self, ↓reduceIte, Nat.reduceAdd, Nat.le_refl, Nat.zero_add, eg2, c1, avs_len, eR, Ses.av]
      (refine callG_frame (purge_late now l[j] (avs R)) [0, 1] (by decide) rfl rfl rfl rfl ?_; rintro _ _ ⟨rfl, rfl⟩; refine ⟨rfl, ?_⟩)
      try simp (maxSteps := 1000000) only [go_cond, go_ops_nil, go_op, opK_none, contK_some, callOf, fstep, fpre, fstep0, funary, St.ev, St.put, ren, renAll, AB.ren, renM, putL, List.getD_cons_zero, List.getD_cons_succ, List.set, true_and, Bool.true_and]
      cases hdv : (l[j]).lives now with
      | true =>
        have d1 : decide (l[j].un ≤ now) = false := by
          simp only [Ses.lives, Bool.not_eq_true'] at hdv; exact hdv
        have hA2 : lives now (l.take (j + 1)) = A ++ [l[j]] := by rw [lives_take_in hlt hdv, hA]
        try simp (maxSteps := 1000000) only [go_nil, go_region, go_seq, go_blk, go_ops_nil, go_op, opK_none, contK_some, condK_t, callOf, fstep, fpre, fstep0, fbinA, fbin, fbin0, fload, fcell, fstore, findexAddr, T, TI.isAgg, St.ev, St.put, splice, esplice, AV.cells, AV.known, AV.flat, AV.pure, pureAll, Value.oneCell', List.getD_cons_zero, List.getD_cons_succ, List.set, List.length_cons, List.length_nil, List.all_cons, List.all_nil, List.drop_succ_cons, List.drop_zero, List.take_succ_cons, List.take_zero, List.nil_append, List.append_nil, List.getElem?_cons_zero, List.getElem?_cons_succ, true_and, and_true, Bool.and_true, Bool.true_and, Bool.and_self, Bool.not_false, ↓reduceIte, Nat.reduceAdd, Nat.le_refl, Nat.zero_add, d1, c3, eR, ew2, ew, eg3, avs_len, Ses.av]
        simp only [loopX_normal, St.trunc, St.keep, truncVs, truncV, AB.trunc, keepV, pureAll, AV.pure, Bool.and_self, List.drop_zero, List.elem_cons, List.elem_nil, List.take_succ_cons, List.take_zero, List.map_cons, List.map_nil, List.getElem?_cons_zero, List.getElem?_cons_succ, Nat.reduceAdd, Nat.reduceBEq, Nat.reduceLeDiff, Nat.le_refl, Nat.zero_add, Bool.false_eq_true, ↓reduceIte]
        obtain ⟨x, g', rfl⟩ : ∃ x g', g = x :: g' := by
          cases g with
          | nil => simp at hg
          | cons x g' => exact ⟨x, g', rfl⟩
        refine ⟨(j + 1, g' ++ [l[j]]), ⟨hlt, by simp, by simp only [hA2, List.length_append, List.length_cons, List.length_nil] at hjg ⊢; omega⟩, by simp only; omega, ?_⟩
        simp only [hA2, Int.toNat_natCast]
        have e5 : (avs R).set A.length (.agg [i64 l[j].id, i64 l[j].st, i64 l[j].pr, u64 l[j].un]) = avs (A ++ [l[j]] ++ (g' ++ [l[j]]) ++ l.drop (j + 1)) := by
          have := avs_set R A.length l[j]
          rw [← hR, set_mid, hdr] at this
          rw [← hR, hdr]
          refine this.trans ?_
          simp
        rw [e5, List.length_append]
        rfl
      | false =>
        have d1 : decide (l[j].un ≤ now) = true := by
          simp only [Ses.lives, Bool.not_eq_false'] at hdv; exact hdv
        have hA2 : lives now (l.take (j + 1)) = A := by rw [lives_take_skip hlt hdv, hA]
        try simp (maxSteps := 1000000) only [go_nil, go_skip, go_region, go_blk, go_ops_nil, go_op, opK_none, contK_some, condK_f, callOf, fstep, fpre, fstep0, fbinA, fbin, fbin0, St.ev, St.put, List.getD_cons_zero, List.getD_cons_succ, List.set, true_and, Bool.true_and, Bool.not_true, d1, ew]
        simp only [loopX_normal, St.trunc, St.keep, truncVs, truncV, AB.trunc, keepV, pureAll, AV.pure, Bool.and_self, List.drop_zero, List.elem_cons, List.elem_nil, List.take_succ_cons, List.take_zero, List.map_cons, List.map_nil, List.getElem?_cons_zero, List.getElem?_cons_succ, Nat.reduceAdd, Nat.reduceBEq, Nat.reduceLeDiff, Nat.le_refl, Nat.zero_add, Bool.false_eq_true, ↓reduceIte]
        refine ⟨(j + 1, g ++ [l[j]]), ⟨hlt, by simp, by simp only [hA2, List.length_append, List.length_singleton]; omega⟩, by simp only; omega, ?_⟩
        simp only [hA2]
        have e5 : R = A ++ (g ++ [l[j]]) ++ l.drop (j + 1) := by rw [← hR, hdr]; simp
        rw [e5]
    · obtain rfl := at_end hj h
      rw [hR]
      rw [List.take_length] at hA
      have c3 : (0 : Int) ≤ ((A.length : Nat) : Int) ∧ Int.toNat ((A.length : Nat) : Int) ≤ l.length := by omega
      have hne : ¬ Int.toNat ((A.length : Nat) : Int) = l.length := by omega
      try simp (maxSteps := 1000000) only [go_region, go_seq, go_exit, go_ret, exitK_code, exitK_blk, exitK_nil, go_ops_nil, go_op, opK_none, contK_some, condK_f, callOf, fstep, fpre, fpost, fstep0, fsliceA, gsliceL, gsliceR, gpart, gbound, gclear, putSeg, fslice, optEv, T, TI.isAgg, TI.zeroOk, TI.zav, St.ev, St.put, Value.oneCell', List.getD_cons_zero, List.getD_cons_succ, List.set, List.map_cons, List.map_nil, List.length_cons, List.length_nil, List.all_cons, List.all_nil, List.getElem?_cons_zero, List.getElem?_cons_succ, true_and, and_true, Bool.and_true, Bool.true_and, Bool.and_self, Bool.or_false, ↓reduceIte, decide_true, decide_false, Nat.reduceAdd, Nat.reduceEqDiff, Nat.reduceLT, Nat.le_refl, Nat.zero_add, loopX_exit, List.length_replicate, c3, eR, hne, avs_len]
      refine ⟨by omega, ?_⟩
      have e6 : (avs R).take (Int.toNat ((A.length : Nat) : Int)) = avs (lives now l) := by
        rw [Int.toNat_natCast, ← hR, hA, avs, ← List.map_take, List.append_assoc, List.take_append_of_le_length (Nat.le_refl _), List.take_length, avs]
      rw [e6]
      apply hK
      simp only [Try.results93, retK, ares, List.take_nil, Bool.and_true, Bool.true_and, AV.ofResults, St.trunc, truncVs, truncV, AB.trunc, List.getD_cons_zero, List.getD_cons_succ, List.take_succ_cons, List.map_nil, List.map_cons, List.length_cons, List.length_nil, Nat.reduceAdd, Nat.reduceLeDiff, true_and, and_true, ↓reduceIte, List.cons.injEq, exists_eq_left']
      exact ⟨by rw [hA, Int.toNat_natCast], _, by rw [List.append_assoc]⟩

theorem sess_Purge (l : List Ses) (now : Int) (hlen : l.length ≤ 1000000) : PCall P 60 [.sl 4 (avs l), u64 now] (fun x => x = .sl 4 (avs (lives now l))) := by
  refine pcall_go tyOk Try.func60 rfl rfl ?_
  intro K hK
  simp only [Try.ntmps60, List.length_cons, List.length_nil, Nat.reduceAdd, Nat.reduceSub, List.replicate, List.cons_append, List.nil_append]
  try simp (maxSteps := 1000000) only [go_region, go_seq, go_ops_nil, go_op, opK_none, opK_some, contK_some, callOf, callK_eq, callJ_nil, callD_fn, fstep, fpre, fstep0, evs, St.ev, St.put, AV.cells, AV.known, AV.owners, ownersAll, Value.cells, List.getD_cons_zero, List.getD_cons_succ, List.set, List.map_cons, List.map_nil, List.length_nil, List.nil_append, List.append_nil, true_and, Bool.true_and]
  refine callG_new rfl (by first | exact Nat.zero_le _ | decide | simp) (ACallR.new (clone_ses _ (by rw [avs_len]; exact hlen)) rfl (by first | decide | simp)) ?_
  try simp (maxSteps := 1000000) only [go_op, opK_none, opK_some, contK_some, callOf, callK_eq, callJ_cons, fstep, fpre, fstep0, evs, St.ev, St.put, St.rehome, killV, killVs, AB.kill, AV.owners, ownersAll, ren, AB.ren, List.getD_cons_zero, List.getD_cons_succ, List.set, List.map_cons, List.map_nil, List.length_cons, List.length_nil, List.cons_append, List.nil_append, List.append_nil, List.size_toArray, true_and, Bool.true_and, ↓reduceIte, reduceCtorEq, Nat.zero_add, avs_len]
  refine callO_own ?_
  try simp (maxSteps := 1000000) only [callD_fn, evs, St.ev, List.getD_cons_zero, List.getD_cons_succ, List.append_nil]
  refine callG_frame (delete_dead now l hlen) [0, 1] (by decide) rfl rfl rfl rfl ?_
  rintro _ _ ⟨rfl, g, rfl⟩
  refine ⟨rfl, ?_⟩
  try simp (maxSteps := 1000000) only [go_ret, go_ops_nil, go_op, opK_none, contK_some, callOf, fstep, fpre, fstep0, St.ev, St.put, ren, renAll, AB.ren, renM, putL, List.getD_cons_zero, List.getD_cons_succ, List.set, true_and, Bool.true_and]
  apply hK
  simp only [Try.results60, retK, ares, Bool.and_true, Bool.true_and, AV.ofResults, St.trunc, truncVs, truncV, List.getD_cons_zero, List.getD_cons_succ, List.take_zero, List.drop_zero, List.map_nil, List.getElem?_cons_zero, List.getElem?_cons_succ, Nat.reduceLeDiff, true_and, and_true, ↓reduceIte, List.cons.injEq, exists_eq_left']
  rw [if_pos (by simp [avs_len]), List.take_append_of_le_length (by rw [avs_len]; exact Nat.le_refl _), List.take_of_length_le (by rw [avs_len]; exact Nat.le_refl _)]

theorem at_lt {l : List Ses} (hr : Up l) {id : Int} (h : has l id = true) : lb ltI (ids l) id < l.length := by
  apply Nat.lt_of_not_le
  intro hc
  rw [← has_at hr, hasAt_ge (by rw [ids_len]; omega)] at h
  cases h
theorem at_id {l : List Ses} (hr : Up l) {id : Int} (h : has l id = true) : (l[lb ltI (ids l) id]'(at_lt hr h)).id = id := by
  have h1 := h
  rw [← has_at hr, hasAt_lt (by rw [ids_len]; exact at_lt hr h)] at h1
  exact (ids_get (at_lt hr h)).symm.trans ((eqI_iff _ _).1 h1)
theorem set_has {l : List Ses} (hr : Up l) {s : Ses} (most : Int) (h : has l s.id = true) : setF l s most = (l.set (lb ltI (ids l) s.id) s, 0) := by
  have hput := put_at hr s
  rw [if_pos h] at hput
  rw [setF, if_neg (by rw [h]; simp), ins_eq hr, ← hput]
theorem set_full {l : List Ses} {s : Ses} {most : Int} (h : has l s.id = false) (h2 : decide (most ≤ l.length) = true) : setF l s most = (l, 2) := by
  rw [setF, if_pos (by rw [h, h2]; rfl)]
theorem set_new {l : List Ses} (hr : Up l) {s : Ses} {most : Int} (h : has l s.id = false) (h2 : decide (most ≤ l.length) = false) : setF l s most = (l.take (lb ltI (ids l) s.id) ++ [s] ++ l.drop (lb ltI (ids l) s.id), 0) := by
  have hput := put_at hr s
  rw [if_neg (by rw [h]; decide)] at hput
  rw [setF, if_neg (by rw [h, h2]; simp), ins_eq hr, ← hput]
theorem clear_at {l : List Ses} (hr : Up l) (id : Int) : (if has l id = true then l.take (lb ltI (ids l) id) ++ l.drop (lb ltI (ids l) id + 1) else l) = clear l id := by
  have h := congrArg (List.map Prod.snd) (without_eq ordI eqI_iff (m := keyed l) (by rw [RisesM, keyed_fst]; exact hr) id)
  have f1 : ((keyed l).filter (fun p => !eqI p.1 id)).map Prod.snd = clear l id := by
    rw [keyed, List.filter_map, List.map_map]
    exact List.map_id _
  rw [f1] at h
  unfold withoutG at h
  rw [keyed_fst, has_at hr] at h
  refine Eq.trans ?_ h
  split
  · rw [List.map_append, List.map_take, List.map_drop, keyed_snd]
  · rw [keyed_snd]

theorem sess_Set (l : List Ses) (s : Ses) (most : Int) (hr : Up l) (hlen : l.length ≤ 900000) :
    PCall P 62 [.sl 4 (avs l), s.av, i64 most] (fun x => x = .tup [.sl 4 (avs (setF l s most).1), i64 (setF l s most).2]) := by
  refine pcall_go tyOk Try.func62 rfl rfl ?_
  intro K hK
  simp only [Try.ntmps62, List.length_cons, List.length_nil, Nat.reduceAdd, Nat.reduceSub, List.replicate, List.cons_append, List.nil_append]
  try simp (maxSteps := 1000000) only [go_region, go_seq, go_ops_nil, go_op, opK_none, opK_some, contK_some, callOf, callK_eq, callJ_nil, callD_fn, fstep, fpre, fstep0, evs, St.ev, St.put, AV.cells, AV.known, AV.owners, ownersAll, List.getD_cons_zero, List.getD_cons_succ, List.set, List.length_nil, List.nil_append, List.append_nil, true_and, Bool.true_and, Ses.av]
  refine callG_new rfl (by first | exact Nat.zero_le _ | decide | simp) (ACallR.new (clone_ses _ (by rw [avs_len]; omega)) rfl (by first | decide | simp)) ?_
  try simp (maxSteps := 1000000) only [go_region, go_seq, go_ops_nil, go_op, opK_none, opK_some, contK_some, callOf, callK_eq, callJ_cons, fstep, fpre, fstep0, fload, fcell, ffieldAddr, evs, T, TI.isAgg, St.ev, St.put, St.rehome, killV, killVs, AB.kill, AV.owners, ownersAll, ren, AB.ren, List.getD_cons_zero, List.getD_cons_succ, List.set, List.map_cons, List.map_nil, List.length_cons, List.length_nil, List.drop_zero, List.headD_cons, List.cons_append, List.nil_append, List.append_nil, List.getElem?_cons_zero, List.getElem?_toArray, true_and, Bool.true_and, Bool.false_eq_true, ↓reduceIte, reduceCtorEq, ne_eq, not_false_eq_true, Nat.reduceAdd, Nat.reduceLT, Nat.add_zero, Nat.zero_add, avs_len]
  refine callO_own ?_
  try simp (maxSteps := 1000000) only [callD_fn, evs, St.ev, List.getD_cons_zero, List.getD_cons_succ, List.append_nil]
  refine callG_lend (find_ses l hr s.id (by omega)) ?_ rfl ?_
  · simp only [truncVs]
    rw [truncV_own (xs := avs l) rfl (avs_len l)]
    rfl
  rw [has_at hr]
  try simp (maxSteps := 1000000) only [go_region, go_seq, go_cond, go_block, go_ops_nil, go_op, opK_none, contK_some, callOf, fstep, fpre, fstep0, St.ev, St.put, List.getD_cons_zero, List.getD_cons_succ, List.set, List.length_cons, List.length_nil, true_and, Bool.true_and, Nat.reduceAdd, Nat.reduceLT, Nat.zero_add]
  (first | refine guardV_split ?_ ?_ | refine condK_split ?_ ?_ | refine drawV_split ?_ ?_ | refine condY_split ?_ ?_ | refine guardY_split ?_ ?_) <;> intro h
  · have hlt := at_lt hr h
    have eg := avs_get hlt
    have c1 : (0 : Int) ≤ ((lb ltI (ids l) s.id : Nat) : Int) ∧ Int.toNat ((lb ltI (ids l) s.id : Nat) : Int) < l.length := by omega
    rw [set_has hr most h] at hK
    try simp (maxSteps := 1000000) only [go_region, go_seq, go_blk, go_ret, go_ops_nil, go_op, opK_none, contK_some, condK_t, callOf, fstep, fpre, fstep0, fload, fcell, fstore, findexAddr, T, TI.isAgg, St.ev, St.put, splice, esplice, AV.cells, AV.known, AV.flat, AV.pure, pureAll, Value.oneCell', List.getD_cons_zero, List.getD_cons_succ, List.set, List.length_cons, List.length_nil, List.all_cons, List.all_nil, List.drop_succ_cons, List.drop_zero, List.take_succ_cons, List.take_zero, List.nil_append, List.append_nil, List.getElem?_cons_zero, List.getElem?_cons_succ, true_and, and_true, Bool.and_true, Bool.true_and, Bool.and_self, ↓reduceIte, Nat.reduceAdd, Nat.le_refl, Nat.zero_add, eg, c1, avs_len, Ses.av]
    apply hK
    simp only [Try.results62, retK, ares, Bool.and_true, Bool.true_and, AV.ofResults, St.trunc, truncVs, truncV, List.getD_cons_zero, List.getD_cons_succ, List.take_zero, List.drop_zero, List.map_nil, List.getElem?_cons_zero, List.getElem?_cons_succ, Nat.reduceLeDiff, true_and, and_true, ↓reduceIte, List.cons.injEq, exists_eq_left']
    have e1 := avs_set l (lb ltI (ids l) s.id) s
    simp only [Ses.av] at e1
    rw [Int.toNat_natCast, e1, sl_full (by rw [avs_len, List.length_set])]
  · have h : has l s.id = false := h
    try simp (maxSteps := 1000000) only [go_region, go_seq, go_cond, go_ops_nil, go_op, opK_none, contK_some, condK_f, callOf, fstep, fpre, fstep0, fbinA, fbin, fbin0, flen, T, St.ev, St.put, List.getD_cons_zero, List.getD_cons_succ, List.set, true_and, Bool.true_and]
    (first | refine guardV_split ?_ ?_ | refine condK_split ?_ ?_ | refine drawV_split ?_ ?_ | refine condY_split ?_ ?_ | refine guardY_split ?_ ?_) <;> intro h2
    · rw [set_full h h2] at hK
      try simp (maxSteps := 1000000) only [go_region, go_seq, go_ret, go_ops_nil, go_op, opK_none, contK_some, condK_t, callOf, fstep, fpre, fstep0, St.ev, St.put, List.getD_cons_zero, List.getD_cons_succ, List.set, true_and, Bool.true_and]
      apply hK
      simp only [Try.results62, retK, ares, Bool.and_true, Bool.true_and, AV.ofResults, St.trunc, truncVs, truncV, List.getD_cons_zero, List.getD_cons_succ, List.take_zero, List.drop_zero, List.map_nil, List.getElem?_cons_zero, List.getElem?_cons_succ, Nat.reduceLeDiff, true_and, and_true, ↓reduceIte, List.cons.injEq, exists_eq_left']
      rw [sl_full (avs_len l)]
    · have h2 : decide (most ≤ l.length) = false := h2
      rw [set_new hr h h2] at hK
      have hins := insert_ses (avs l) s.av (lb ltI (ids l) s.id) (by rw [avs_len]; have := lb_le (lt := ltI) (ids l) s.id; rwa [ids_len] at this) (by rw [avs_len]; omega)
      rw [avs_len] at hins
      have hle : lb ltI (ids l) s.id ≤ l.length := by have := lb_le (lt := ltI) (ids l) s.id; rwa [ids_len] at this
      try simp (maxSteps := 1000000) only [go_region, go_op, opK_none, opK_some, contK_some, condK_f, callOf, callK_eq, callJ_cons, fstep, fpre, fstep0, fload, fcell, evParts, evOwners, fbuildSlice, evs, T, TI.isAgg, TI.zeroOk, TI.zav, setParts, partsOk, St.ev, St.put, St.shutAll, AV.cells, AV.known, AV.flat, AV.pure, pureAll, AV.owners, ownersAll, Value.oneCell', List.getD_cons_zero, List.getD_cons_succ, List.set, List.map_cons, List.map_nil, List.length_cons, List.length_nil, List.all_cons, List.all_nil, List.drop_zero, List.take_succ_cons, List.take_zero, List.cons_append, List.nil_append, List.append_nil, List.getElem?_cons_zero, List.replicate, true_and, and_true, Bool.and_true, Bool.true_and, Bool.and_self, Bool.or_false, ↓reduceIte, decide_true, decide_false, Nat.reduceAdd, Nat.reduceMul, Nat.reduceLeDiff, Nat.reduceEqDiff, Nat.reduceLT, Nat.zero_le, Nat.le_refl, Nat.zero_add]
      refine callO_some [2] rfl ?_
      try simp (maxSteps := 1000000) only [callD_fn, evs, St.ev, St.shutAll, St.shut, shutV, shutVs, AB.shut, List.getD_cons_zero, List.getD_cons_succ, List.set, List.map_cons, List.map_nil, List.length_cons, List.length_nil, List.drop_zero, List.take_succ_cons, List.take_zero, List.append_nil, List.getElem?_cons_zero, List.getElem?_cons_succ, and_true, Bool.and_true, ↓reduceIte, reduceCtorEq, Nat.reduceEqDiff, Nat.le_refl, Nat.zero_add]
      refine callG_R (b := 1) (by decide) (ACallX.toR hins rfl rfl rfl rfl rfl) ?_
      try simp (maxSteps := 1000000) only [go_region, go_seq, go_blk, go_ret, go_ops_nil, go_op, opK_none, contK_some, callOf, fstep, fpre, fstep0, St.ev, St.put, St.rehome, killV, killVs, AB.kill, ren, AB.ren, List.getD_cons_zero, List.getD_cons_succ, List.set, List.map_cons, List.map_nil, true_and, Bool.true_and, ↓reduceIte, reduceCtorEq]
      apply hK
      simp only [Try.results62, retK, ares, Bool.and_true, Bool.true_and, AV.ofResults, St.trunc, truncVs, truncV, List.getD_cons_zero, List.getD_cons_succ, List.take_zero, List.drop_zero, List.map_nil, List.getElem?_cons_zero, List.getElem?_cons_succ, Nat.reduceLeDiff, true_and, and_true, ↓reduceIte, List.cons.injEq, exists_eq_left']
      rw [sl_full (by simp [avs_len]; omega)]
      simp only [avs, List.map_append, List.map_take, List.map_drop, List.map_cons, List.map_nil]

theorem sess_Clear (l : List Ses) (id : Int) (hr : Up l) (hlen : l.length ≤ 900000) :
    PCall P 64 [.sl 4 (avs l), i64 id] (fun x => x = .tup [.sl 4 (avs (clear l id)), i64 (if has l id = true then 0 else 3)]) := by
  refine pcall_go tyOk Try.func64 rfl rfl ?_
  intro K hK
  simp only [Try.ntmps64, List.length_cons, List.length_nil, Nat.reduceAdd, Nat.reduceSub, List.replicate, List.cons_append, List.nil_append]
  try simp (maxSteps := 1000000) only [go_region, go_seq, go_ops_nil, go_op, opK_none, opK_some, contK_some, callOf, callK_eq, callJ_nil, callD_fn, fstep, fpre, fstep0, evs, St.ev, St.put, AV.owners, ownersAll, List.getD_cons_zero, List.getD_cons_succ, List.set, List.append_nil, true_and, Bool.true_and]
  refine callG_new rfl (by first | exact Nat.zero_le _ | decide | simp) (ACallR.new (clone_ses _ (by rw [avs_len]; omega)) rfl (by first | decide | simp)) ?_
  try simp (maxSteps := 1000000) only [go_region, go_seq, go_ops_nil, go_op, opK_none, opK_some, contK_some, callOf, callK_eq, callJ_cons, fstep, fpre, fstep0, evs, St.ev, St.put, St.rehome, killV, killVs, AB.kill, AV.owners, ownersAll, ren, AB.ren, List.getD_cons_zero, List.getD_cons_succ, List.set, List.map_cons, List.map_nil, List.length_nil, List.nil_append, List.append_nil, true_and, Bool.true_and, avs_len]
  refine callO_own ?_
  try simp (maxSteps := 1000000) only [callD_fn, evs, St.ev, List.getD_cons_zero, List.getD_cons_succ, List.append_nil]
  refine callG_lend (find_ses l hr id (by omega)) ?_ rfl ?_
  · simp only [truncVs]
    rw [truncV_own (xs := avs l) rfl (avs_len l)]
    rfl
  rw [has_at hr]
  have hc := clear_at hr id
  try simp (maxSteps := 1000000) only [go_region, go_seq, go_cond, go_ops_nil, go_op, opK_none, contK_some, callOf, fstep, fpre, fstep0, funary, St.ev, St.put, List.getD_cons_zero, List.getD_cons_succ, List.set, List.length_cons, List.length_nil, true_and, Bool.true_and, Nat.reduceAdd, Nat.reduceLT, Nat.zero_add]
  cases h : has l id
  · rw [h, if_neg (by decide)] at hc
    rw [h, ← hc] at hK
    try simp (maxSteps := 1000000) only [go_region, go_seq, go_ret, go_ops_nil, go_op, opK_none, contK_some, condK_t, callOf, fstep, fpre, fstep0, St.ev, St.put, List.getD_cons_zero, List.getD_cons_succ, List.set, true_and, Bool.true_and, Bool.not_false]
    apply hK
    simp only [Try.results64, retK, ares, Bool.and_true, Bool.true_and, AV.ofResults, St.trunc, truncVs, truncV, List.getD_cons_zero, List.getD_cons_succ, List.take_zero, List.drop_zero, List.map_nil, List.getElem?_cons_zero, Nat.le_refl, true_and, and_true, ↓reduceIte, Bool.false_eq_true, List.cons.injEq, exists_eq_left']
    rw [sl_full (avs_len l)]
  · have hlt := at_lt hr h
    have ew : IntKind.i64.wrap (((lb ltI (ids l) id : Nat) : Int) + 1) = ((lb ltI (ids l) id + 1 : Nat) : Int) := by rw [wrap_i64 (by omega) (by omega)]; rfl
    rw [h, if_pos (by rfl)] at hc
    rw [h, ← hc] at hK
    try simp (maxSteps := 1000000) only [go_skip, go_region, go_seq, go_op, opK_none, opK_some, contK_some, condK_f, callOf, callK_eq, callJ_cons, fstep, fpre, fstep0, fbinA, fbin, fbin0, evs, St.ev, St.put, AV.owners, ownersAll, List.getD_cons_zero, List.getD_cons_succ, List.set, List.append_nil, true_and, Bool.true_and, Bool.not_true, ew]
    refine callO_own ?_
    try simp (maxSteps := 1000000) only [callD_fn, evs, St.ev, List.getD_cons_zero, List.getD_cons_succ, List.append_nil]
    have hdel := delete_ses (avs l) (lb ltI (ids l) id) (by rw [avs_len]; exact hlt) (by rw [avs_len]; omega)
    rw [avs_len] at hdel
    (refine callG_frame hdel [0] (by decide) rfl rfl rfl rfl ?_; rintro _ _ ⟨rfl, rfl⟩; refine ⟨rfl, ?_⟩)
    try simp (maxSteps := 1000000) only [go_ret, go_ops_nil, go_op, opK_none, contK_some, callOf, fstep, fpre, fstep0, St.ev, St.put, ren, AB.ren, renM, putL, List.getD_cons_zero, List.getD_cons_succ, List.set, true_and, Bool.true_and]
    apply hK
    simp only [Try.results64, retK, ares, Bool.and_true, Bool.true_and, AV.ofResults, St.trunc, truncVs, truncV, List.getD_cons_zero, List.getD_cons_succ, List.take_zero, List.drop_zero, List.map_nil, List.getElem?_cons_zero, Nat.le_refl, true_and, and_true, ↓reduceIte, List.cons.injEq, exists_eq_left']
    have e := cut_last (sz := 4) (f := zses) (xs := avs l) (i := lb ltI (ids l) id) (by rw [avs_len]; exact hlt)
    rw [avs_len] at e
    rw [e]
    simp only [avs, List.map_append, List.map_take, List.map_drop]

def bmpS (id until_ : Int) (s : Ses) : Ses := if (s.id == id && decide (s.un < until_)) = true then { s with un := until_ } else s
def beatF (l : List Ses) (id until_ : Int) : List Ses × Int := if has l id = true then (l.map (bmpS id until_), 0) else (l, 3)
theorem bmpS_ne {s : Ses} {id u : Int} (h : s.id ≠ id) : bmpS id u s = s := by
  unfold bmpS; rw [if_neg (by simp [h])]
theorem bmpS_at2 {l : List Ses} (hr : Up l) {id : Int} (u : Int) {i : Nat} (hlt : i < l.length) (hid : l[i].id = id) : l.set i (bmpS id u l[i]) = l.map (bmpS id u) := by
  apply List.ext_getElem (by simp)
  intro j h1 h2
  rw [List.getElem_map, List.getElem_set]
  split
  · rename_i e; subst e; rfl
  · rename_i hne
    have hj : j < l.length := by simpa using h2
    have hne2 : l[j].id ≠ id := by
      have hp := List.pairwise_iff_getElem.1 (up_iff.1 hr)
      rcases Nat.lt_or_gt_of_ne hne with h3 | h3
      · have := hp i j hlt hj h3; omega
      · have := hp j i hj hlt h3; omega
    exact (bmpS_ne hne2).symm
theorem bmpS_at {l : List Ses} (hr : Up l) {id : Int} (u : Int) (h : has l id = true) : l.set (lb ltI (ids l) id) (bmpS id u (l[lb ltI (ids l) id]'(at_lt hr h))) = l.map (bmpS id u) :=
  bmpS_at2 hr u (at_lt hr h) (at_id hr h)
theorem bmpS_av {s : Ses} {id u : Int} (h : s.id = id) : AV.agg [i64 s.id, i64 s.st, i64 s.pr, .v (.int .u64 (if u > s.un then u else s.un))] = (bmpS id u s).av := by
  by_cases hc : u > s.un
  · have : bmpS id u s = { s with un := u } := by unfold bmpS; rw [if_pos (by simp [h]; exact hc)]
    rw [this, if_pos hc]; rfl
  · have : bmpS id u s = s := by unfold bmpS; rw [if_neg (by simp [h]; omega)]
    rw [this, if_neg hc]; rfl
theorem sess_Beat (l : List Ses) (id u : Int) (hr : Up l) (hlen : l.length ≤ 900000) :
    PCall P 63 [.sl 4 (avs l), i64 id, u64 u] (fun x => x = .tup [.sl 4 (avs (beatF l id u).1), i64 (beatF l id u).2]) := by
  refine pcall_go tyOk Try.func63 rfl rfl ?_
  intro K hK
  simp only [Try.ntmps63, List.length_cons, List.length_nil, Nat.reduceAdd, Nat.reduceSub, List.replicate, List.cons_append, List.nil_append]
  try simp (maxSteps := 1000000) only [go_region, go_seq, go_ops_nil, go_op, opK_none, opK_some, contK_some, callOf, callK_eq, callJ_nil, callD_fn, fstep, fpre, fstep0, evs, St.ev, St.put, AV.owners, ownersAll, List.getD_cons_zero, List.getD_cons_succ, List.set, List.append_nil, true_and, Bool.true_and]
  refine callG_new rfl (by first | exact Nat.zero_le _ | decide | simp) (ACallR.new (clone_ses _ (by rw [avs_len]; omega)) rfl (by first | decide | simp)) ?_
  try simp (maxSteps := 1000000) only [go_region, go_seq, go_ops_nil, go_op, opK_none, opK_some, contK_some, callOf, callK_eq, callJ_cons, fstep, fpre, fstep0, evs, St.ev, St.put, St.rehome, killV, killVs, AB.kill, AV.owners, ownersAll, ren, AB.ren, List.getD_cons_zero, List.getD_cons_succ, List.set, List.map_cons, List.map_nil, List.length_nil, List.nil_append, List.append_nil, true_and, Bool.true_and, avs_len]
  refine callO_own ?_
  try simp (maxSteps := 1000000) only [callD_fn, evs, St.ev, List.getD_cons_zero, List.getD_cons_succ, List.append_nil]
  refine callG_lend (find_ses l hr id (by omega)) ?_ rfl ?_
  · simp only [truncVs]
    rw [truncV_own (xs := avs l) rfl (avs_len l)]
    rfl
  rw [has_at hr]
  unfold beatF at hK
  try simp (maxSteps := 1000000) only [go_region, go_seq, go_cond, go_ops_nil, go_op, opK_none, contK_some, callOf, fstep, fpre, fstep0, funary, St.ev, St.put, List.getD_cons_zero, List.getD_cons_succ, List.set, List.length_cons, List.length_nil, true_and, Bool.true_and, Nat.reduceAdd, Nat.reduceLT, Nat.zero_add]
  cases h : has l id
  · rw [h, if_neg (by decide)] at hK
    try simp (maxSteps := 1000000) only [go_region, go_seq, go_ret, go_ops_nil, go_op, opK_none, contK_some, condK_t, callOf, fstep, fpre, fstep0, St.ev, St.put, List.getD_cons_zero, List.getD_cons_succ, List.set, true_and, Bool.true_and, Bool.not_false]
    apply hK
    simp only [Try.results63, retK, ares, Bool.and_true, Bool.true_and, AV.ofResults, St.trunc, truncVs, truncV, List.getD_cons_zero, List.getD_cons_succ, List.take_zero, List.drop_zero, List.map_nil, List.getElem?_cons_zero, Nat.le_refl, true_and, and_true, ↓reduceIte, List.cons.injEq, exists_eq_left']
    rw [sl_full (avs_len l)]
  · have hlt := at_lt hr h
    have hid := at_id hr h
    have hb := bmpS_at hr u h
    have eg := avs_get hlt
    have c1 : (0 : Int) ≤ ((lb ltI (ids l) id : Nat) : Int) ∧ Int.toNat ((lb ltI (ids l) id : Nat) : Int) < l.length := by omega
    rw [h, if_pos rfl] at hK
    generalize l[lb ltI (ids l) id] = s at hid hb eg
    try simp (maxSteps := 1000000) only [go_skip, go_region, go_seq, go_ret, go_ops_nil, go_op, opK_none, contK_some, condK_f, callOf, fstep, fpre, fstep0, fload, fcell, fstore, ffieldAddr, findexAddr, evs, fminmax, T, TI.isAgg, St.ev, St.put, splice, esplice, AV.cells, AV.known, AV.flat, AV.pure, Value.cells, Value.oneCell', List.getD_cons_zero, List.getD_cons_succ, List.set, List.map_cons, List.map_nil, List.length_cons, List.length_nil, List.all_cons, List.all_nil, List.drop_succ_cons, List.drop_zero, List.take_succ_cons, List.take_zero, List.headD_cons, List.cons_append, List.nil_append, List.append_nil, List.getElem?_cons_zero, List.getElem?_cons_succ, List.getElem?_toArray, true_and, and_true, Bool.and_true, Bool.true_and, Bool.and_self, Bool.not_true, Bool.false_eq_true, ↓reduceIte, reduceCtorEq, ne_eq, not_false_eq_true, Nat.reduceAdd, Nat.reduceLT, Nat.le_refl, Nat.zero_add, cond_true, eg, c1, avs_len, Ses.av]
    apply hK
    simp only [Try.results63, retK, ares, Bool.and_true, Bool.true_and, AV.ofResults, St.trunc, truncVs, truncV, List.getD_cons_zero, List.getD_cons_succ, List.take_zero, List.drop_zero, List.map_nil, List.getElem?_cons_zero, Nat.le_refl, true_and, and_true, ↓reduceIte, List.cons.injEq, exists_eq_left']
    rw [bmpS_av hid, Int.toNat_natCast, avs_set, hb, sl_full (by rw [avs_len, List.length_map])]
end Go.Proofs.Ytljgfapbbhbbpaa
namespace Go.Proofs.Ytljgfapbbhbbpaa
open Go Go.Proofs.Ytljgfapbbhbbpaa.Sym
set_option maxRecDepth 100000
set_option linter.unusedSimpArgs false
set_option linter.unusedVariables false

def yields (l : List Ses) : List (List AV) := l.map fun s => [s.av]

theorem aggr_Live (xs : List AV) (now : Int) : PCall P 100 [.sl 4 xs, u64 now] (fun x => x = .fn 117 [.rp [.sl 4 xs], .rp [u64 now]]) := by
  refine pcall_go tyOk Try.func100 rfl rfl ?_
  intro K hK
  simp only [Try.ntmps100, List.length_cons, List.length_nil, Nat.reduceAdd, Nat.reduceSub, List.replicate, List.cons_append, List.nil_append]
  try simp (maxSteps := 1000000) only [go_region, go_seq, go_ret, go_ops_nil, go_op, opK_none, contK_some, callOf, fstep, fpre, fstep0, evs, St.ev, St.put, AV.cells, AV.known, Value.cells, List.getD_cons_zero, List.getD_cons_succ, List.set, List.map_cons, List.map_nil, List.length_cons, List.length_nil, List.cons_append, List.nil_append, List.size_toArray, true_and, Bool.true_and, Nat.zero_add]
  apply hK
  simp only [Try.results100, retK, ares, pureAll, AV.pure, Bool.and_self, Bool.and_true, Bool.true_and, AV.ofResults, St.trunc, truncVs, truncV, List.getD_cons_zero, List.getD_cons_succ, List.take_zero, List.drop_zero, List.map_nil, List.getElem?_cons_zero, List.getElem?_cons_succ, Nat.reduceLeDiff, Nat.le_refl, true_and, and_true, ↓reduceIte, List.cons.injEq, exists_eq_left']

theorem yields_take_pre {now : Int} {l : List Ses} (i : Nat) : yields (lives now (l.take i)) <+: yields (lives now l) :=
  ((List.take_prefix i l).filter _).map _

theorem aggr_Live_seq (l : List Ses) (now : Int) (hlen : l.length < 9223372036854775807) : ICall P 117 [.rp [.sl 4 (avs l)], .rp [u64 now]] (yields (lives now l)) := by
  refine icall_goY tyOk Try.func117 rfl rfl rfl ?_
  intro y K hK
  simp only [Try.ntmps117, List.length_cons, List.length_nil, Nat.reduceAdd, Nat.reduceSub, List.replicate, List.cons_append, List.nil_append]
  try simp (maxSteps := 1000000) only [callOf, fstep, fpre, fstep0, fload, fcell, flen, T, TI.isAgg, St.ev, St.put, List.getD_cons_zero, List.getD_cons_succ, List.set, List.length_cons, List.length_nil, List.headD_cons, true_and, Bool.true_and, Bool.false_eq_true, ↓reduceIte, Nat.reduceLT, Nat.zero_add, goY_yregion, goY_seq, goY_block, goY_loop, goY_ops_nil, goY_op, opYK_none, contY_some]
  refine loopY_rule tyOk (α := Nat) 0 [0, 1, 2, 6, 7, 8] (fun i => i ≤ l.length)
    (fun i => ⟨[.v y, .rp [.sl 4 (avs l)], .rp [u64 now], .any, .any, .any, .sl 4 (avs l), i64 l.length, i64 i] ++ List.replicate 15 .any, []⟩)
    (fun i => (yields (lives now (l.take i)), false)) (fun i => l.length - i) 0 (Nat.le_refl _) (Nat.zero_le _) (by rw [avs_len]; rfl) rfl ?_
  intro i hi
  try simp (maxSteps := 1000000) only [callOf, fstep, fpre, fstep0, fbinA, fbin, fbin0, St.ev, St.put, List.getD_cons_zero, List.getD_cons_succ, List.set, List.cons_append, List.nil_append, List.replicate, true_and, Bool.true_and, goY_yregion, goY_seq, goY_cond, goY_ops_nil, goY_op, opYK_none, contY_some]
  (first | refine guardV_split ?_ ?_ | refine condK_split ?_ ?_ | refine drawV_split ?_ ?_ | refine condY_split ?_ ?_ | refine guardY_split ?_ ?_) <;> intro h <;> try simp (maxSteps := 1000000) only [callOf, fstep, fpre, fstep0, fload, fcell, fstore, ffieldAddr, findexAddr, T, TI.isAgg, St.ev, St.put, splice, AV.cells, AV.known, Value.cells, List.getD_cons_zero, List.getD_cons_succ, List.set, List.map_cons, List.map_nil, List.length_cons, List.length_nil, List.take_zero, List.headD_cons, List.nil_append, List.getElem?_cons_zero, List.getElem?_cons_succ, List.getElem?_toArray, true_and, and_true, Bool.and_true, Bool.true_and, Bool.false_eq_true, ↓reduceIte, reduceCtorEq, ne_eq, not_false_eq_true, Nat.reduceAdd, Nat.reduceLT, Nat.le_refl, Nat.zero_add, goY_nil, goY_skip, goY_yregion, goY_seq, goY_block, goY_exit, exitY_code, exitY_blk, exitY_nil, goY_ops_nil, goY_op, opYK_none, opYK_some, contY_some, condY_t, condY_f, loopYX_exit]
  · have hlt : i < l.length := by simpa using h
    have eg := avs_get hlt
    have ew : IntKind.i64.wrap ((i : Int) + 1) = ((i + 1 : Nat) : Int) := by rw [wrap_i64 (by omega) (by omega)]; rfl
    have c1 : (0 : Int) ≤ (i : Int) ∧ Int.toNat (i : Int) < (avs l).length := by rw [avs_len]; omega
    try simp (maxSteps := 1000000) only [AV.flat, Value.oneCell', List.length_cons, List.length_nil, List.all_cons, List.all_nil, List.drop_succ_cons, List.drop_zero, List.take_succ_cons, List.take_zero, List.headD_cons, List.append_nil, true_and, and_true, Bool.and_true, Bool.true_and, Bool.and_self, Nat.reduceAdd, Nat.reduceLT, Nat.le_refl, Nat.zero_add, eg, c1, Ses.av]
    (refine callY_use (tick_Late _ _) rfl rfl rfl rfl ?_; rintro _ rfl)
    try simp (maxSteps := 1000000) only [callOf, fstep, fpre, fstep0, funary, St.ev, St.put, List.getD_cons_zero, List.getD_cons_succ, List.set, List.getElem?_cons_zero, List.getElem?_cons_succ, Option.bind_some, List.getElem?_toArray, true_and, Bool.true_and, goY_op, goY_guard, guardYO_some, opYK_none, contY_some]
    cases hl : (l[i]).lives now with
    | false =>
      have e1 : (!decide ((l[i]).un ≤ now)) = false := hl
      try simp (maxSteps := 1000000) only [undef, callOf, fstep, fpre, fstep0, fbinA, fbin, fbin0, fpick, St.ev, St.put, List.getD_cons_zero, List.getD_cons_succ, List.set, List.getElem?_cons_zero, List.getElem?_cons_succ, Option.bind_some, List.getElem?_toArray, true_and, Bool.true_and, Bool.false_eq_true, ↓reduceIte, goY_nil, goY_skip, goY_yregion, goY_cond, goY_blk, goY_ops_nil, goY_op, goY_guard, guardYO_some, guardY_ft, opYK_none, contY_some, condY_f, e1, ew]
      simp only [loopYX_normal, St.trunc, St.keep, truncVs, truncV, keepV, pureAll, AV.pure, Bool.and_self, List.drop_zero, List.drop_succ_cons, List.elem_cons, List.elem_nil, List.take_zero, List.map_nil, List.getElem?_cons_zero, Nat.reduceAdd, Nat.reduceBEq, Nat.le_refl, Nat.zero_add, Bool.false_eq_true, ↓reduceIte]
      exact ⟨i + 1, hlt, by omega, rfl, by rw [lives_take_skip hlt hl]⟩
    | true =>
      have e1 : (!decide ((l[i]).un ≤ now)) = true := hl
      try simp (maxSteps := 1000000) only [callOf, fstep, fpre, fstep0, fload, fcell, funary, evs, fpick, T, TI.isAgg, St.ev, St.put, List.getD_cons_zero, List.getD_cons_succ, List.set, List.length_cons, List.length_nil, List.drop_zero, List.take_succ_cons, List.take_zero, List.getElem?_cons_zero, List.getElem?_cons_succ, Option.bind_some, List.getElem?_toArray, true_and, Bool.true_and, ↓reduceIte, Nat.reduceAdd, Nat.le_refl, Nat.zero_add, cond_true, goY_cond, goY_ops_nil, goY_op, goY_guard, guardYO_some, guardY_tt, opYK_none, opYK_some, contY_some, callY_yield, itAn_eq, itAl_eq, e1]
      have e2 : yields (lives now (l.take i)) ++ [[sess (l[i]).id (l[i]).st (l[i]).pr (l[i]).un]] = yields (lives now (l.take (i + 1))) := by
        rw [lives_take_in hlt hl]; simp [yields]; rfl
      refine ⟨⟨by rw [e2]; exact yields_take_pre _, rfl⟩, ?_⟩
      intro b
      cases b with
      | true =>
        try simp (maxSteps := 1000000) only [callOf, fstep, fpre, fstep0, fbinA, fbin, fbin0, St.ev, St.put, List.getD_cons_zero, List.getD_cons_succ, List.set, true_and, Bool.true_and, Bool.not_true, goY_nil, goY_skip, goY_yregion, goY_blk, goY_ops_nil, goY_op, opYK_none, contY_some, condY_f, ew]
        simp only [loopYX_normal, St.trunc, St.keep, truncVs, truncV, keepV, pureAll, AV.pure, Bool.and_self, List.drop_zero, List.drop_succ_cons, List.elem_cons, List.elem_nil, List.take_zero, List.map_nil, List.getElem?_cons_zero, Nat.reduceAdd, Nat.reduceBEq, Nat.le_refl, Nat.zero_add, Bool.false_eq_true, ↓reduceIte]
        exact ⟨i + 1, hlt, by omega, rfl, by rw [e2]⟩
      | false =>
        try simp (maxSteps := 1000000) only [Bool.not_false, goY_ret, condY_t, loopYX_ret]
        exact hK _ _ _ (itK_ret ⟨by rw [e2]; exact yields_take_pre _, fun h => by cases h⟩)
  · have hge : i = l.length := by have : ¬ ((i : Int) < (l.length : Int)) := by simpa using h
                                  omega
    subst hge
    refine hK _ _ _ (itK_normal ⟨yields_take_pre _, fun _ => by rw [List.take_length]⟩)

def better (p1 i1 p2 i2 : Int) : Bool := decide (p2 < p1) || (p1 == p2 && decide (i1 < i2))

theorem aggr_Better (i1 s1 p1 u1 i2 s2 p2 u2 : Int) : PCall P 101 [sess i1 s1 p1 u1, sess i2 s2 p2 u2] (fun x => x = bool (better p1 i1 p2 i2)) := by
  refine pcall_go tyOk Try.func101 rfl rfl ?_
  intro K hK
  simp only [Try.ntmps101, List.length_cons, List.length_nil, Nat.reduceAdd, Nat.reduceSub, List.replicate, List.cons_append, List.nil_append]
  try simp (maxSteps := 1000000) only [go_region, go_seq, go_ops_nil, go_op, go_guard, opK_none, contK_some, guardK_eq, callOf, fstep, fpre, fstep0, fbinA, fbin, fbin0, fload, fcell, ffieldAddr, T, TI.isAgg, St.ev, St.put, AV.cells, AV.known, List.getD_cons_zero, List.getD_cons_succ, List.set, List.length_cons, List.length_nil, List.drop_succ_cons, List.drop_zero, List.headD_cons, List.cons_append, List.nil_append, List.getElem?_cons_zero, List.getElem?_cons_succ, Option.bind_some, List.getElem?_toArray, true_and, Bool.true_and, Bool.false_eq_true, ↓reduceIte, reduceCtorEq, ne_eq, not_false_eq_true, Nat.reduceAdd, Nat.reduceLT, Nat.zero_add]
  (first | refine guardV_split ?_ ?_ | refine condK_split ?_ ?_ | refine drawV_split ?_ ?_ | refine condY_split ?_ ?_ | refine guardY_split ?_ ?_) <;> intro h <;> try simp (maxSteps := 1000000) only [go_ret, go_ops_nil, go_op, go_guard, opK_none, contK_some, guardK_eq, guardV_tf, guardV_ff, guardV_u, undef, callOf, fstep, fpre, fstep0, fbinA, fbin, fbin0, fload, fcell, ffieldAddr, fpick, T, TI.isAgg, St.ev, St.put, List.getD_cons_zero, List.getD_cons_succ, List.set, List.length_cons, List.length_nil, List.drop_succ_cons, List.drop_zero, List.headD_cons, List.getElem?_cons_zero, List.getElem?_cons_succ, Option.bind_some, List.getElem?_toArray, true_and, Bool.true_and, Bool.false_eq_true, ↓reduceIte, reduceCtorEq, ne_eq, not_false_eq_true, Nat.reduceAdd, Nat.reduceLT, Nat.zero_add]
  · apply hK
    simp only [Try.results101, retK, ares, Bool.and_true, Bool.true_and, AV.ofResults, St.trunc, truncVs, truncV, List.getD_cons_zero, List.getD_cons_succ, List.take_zero, List.map_nil, true_and, and_true, List.cons.injEq, exists_eq_left']
    rw [better, h]
    rfl
  · (first | refine guardV_split ?_ ?_ | refine condK_split ?_ ?_ | refine drawV_split ?_ ?_ | refine condY_split ?_ ?_ | refine guardY_split ?_ ?_) <;> intro h2 <;> try simp (maxSteps := 1000000) only [go_ret, go_ops_nil, go_op, go_guard, opK_none, contK_some, guardK_eq, guardV_tt, guardV_ft, guardV_ff, undef, callOf, fstep, fpre, fstep0, fbinA, fbin, fbin0, fload, fcell, ffieldAddr, fpick, T, TI.isAgg, St.ev, St.put, List.getD_cons_zero, List.getD_cons_succ, List.set, List.length_cons, List.length_nil, List.drop_zero, List.headD_cons, List.getElem?_cons_zero, List.getElem?_cons_succ, Option.bind_some, List.getElem?_toArray, true_and, Bool.true_and, Bool.false_eq_true, ↓reduceIte, reduceCtorEq, ne_eq, not_false_eq_true, Nat.reduceAdd, Nat.reduceLT, Nat.add_zero, Nat.zero_add, cond_true, cond_false]
    · apply hK
      simp only [Try.results101, retK, ares, Bool.and_true, Bool.true_and, AV.ofResults, St.trunc, truncVs, truncV, List.getD_cons_zero, List.getD_cons_succ, List.take_zero, List.map_nil, true_and, and_true, List.cons.injEq, exists_eq_left']
      rw [better, h, h2]
      rfl
    · apply hK
      simp only [Try.results101, retK, ares, Bool.and_true, Bool.true_and, AV.ofResults, St.trunc, truncVs, truncV, List.getD_cons_zero, List.getD_cons_succ, List.take_zero, List.map_nil, true_and, and_true, List.cons.injEq, exists_eq_left']
      rw [better, h, h2]
      rfl

/-- The best so far, and how many. -/
def bestStep (b : Ses × Int) (s : Ses) : Ses × Int := (if b.2 == 0 || better s.pr s.id b.1.pr b.1.id then s else b.1, b.2 + 1)
def bestF (l : List Ses) : Ses × Int := l.foldl bestStep (⟨0, 0, 0, 0⟩, 0)
theorem bestF_next {l : List Ses} {i : Nat} (h : i < l.length) : bestF (l.take (i + 1)) = bestStep (bestF (l.take i)) l[i] := by
  rw [take_one h, bestF, List.foldl_append]; rfl
theorem bestF_count (l : List Ses) : (bestF l).2 = l.length := by
  have : ∀ (l : List Ses) (b : Ses × Int), (l.foldl bestStep b).2 = b.2 + l.length := by
    intro l
    induction l with
    | nil => simp
    | cons s l ih => intro b; simp only [List.foldl_cons, ih, bestStep, List.length_cons]; omega
  rw [bestF, this]; simp
abbrev pres (st pr n : Int) : AV := .agg [i64 st, i64 pr, i64 n]
def ofMem (b : Ses × Int) : List AB := [.box [i64 0, i64 0, i64 0], .box [i64 b.1.id, i64 b.1.st, i64 b.1.pr, u64 b.1.un], .box [i64 b.2]]

theorem aggr_Of (l : List Ses) (now : Int) (hlen : l.length < 9223372036854775807) :
    PCall P 65 [.sl 4 (avs l), u64 now] (fun x => x = pres (bestF (lives now l)).1.st (bestF (lives now l)).1.pr (bestF (lives now l)).2) := by
  refine pcall_goY tyOk Try.func65 rfl rfl ?_
  intro K hK
  simp only [Try.ntmps65, List.length_cons, List.length_nil, Nat.reduceAdd, Nat.reduceSub, List.replicate, List.cons_append, List.nil_append]
  try simp (maxSteps := 1000000) only [go_nil, go_region, go_ops_nil, go_op, opK_none, opK_some, contK_some, callOf, callK_eq, callJ_nil, callD_fn, fstep, fpre, fstep0, fstore, evs, T, St.ev, St.put, splice, AV.cells, AV.known, AV.flat, AV.owners, ownersAll, Value.cells, Value.oneCell', List.getD_cons_zero, List.getD_cons_succ, List.set, List.map_cons, List.map_nil, List.length_cons, List.length_nil, List.all_cons, List.all_nil, List.drop_succ_cons, List.drop_zero, List.take_zero, List.cons_append, List.nil_append, List.append_nil, List.getElem?_cons_zero, List.getElem?_cons_succ, true_and, and_true, Bool.and_true, Bool.true_and, Bool.and_self, Nat.reduceAdd, Nat.le_refl, Nat.zero_add, goY_region, goY_seq, yK_normal]
  (refine callG_use (aggr_Live _ _) rfl ?_; rintro _ rfl)
  try simp (maxSteps := 1000000) only [go_nil, go_ops_nil, St.put, List.set, goY_block, goY_range, yK_normal]
  have hll : (lives now l).length ≤ l.length := List.length_filter_le _ _
  refine range_rule tyOk (aggr_Live_seq l now hlen) (α := Nat) 3 3 [4, 5, 6] ([.any, .any, .any, .any, .ptr 0 0, .ptr 1 0, .ptr 2 0] ++ List.replicate 21 .any) (fun xs i => i = xs.length) (fun i => ofMem (bestF ((lives now l).take i))) 0 rfl rfl
    (fun x hx => by simp only [yields, List.mem_map] at hx; obtain ⟨s, _, rfl⟩ := hx; rfl) (Nat.zero_le _) (Nat.le_refl _) (by rfl) rfl rfl ?_ ?_
  · rintro xs x _ hpre rfl
    obtain ⟨hi, _, rfl⟩ := prefix_next hpre
    have hb := bestF_next hi
    have hc := bestF_count ((lives now l).take xs.length)
    generalize (lives now l)[xs.length] = s at hb
    generalize bestF ((lives now l).take xs.length) = b at hb hc
    try simp (maxSteps := 1000000) only [go_nil, go_region, go_seq, go_block, go_ops_nil, go_op, go_guard, opK_none, contK_some, guardK_eq, callOf, fstep, fpre, fstep0, fbinA, fbin, fbin0, fload, fcell, fstore, T, TI.isAgg, St.ev, St.put, splice, AV.cells, AV.known, AV.flat, Value.oneCell', List.getD_cons_zero, List.getD_cons_succ, List.set, List.map_cons, List.map_nil, List.length_cons, List.length_nil, List.all_cons, List.all_nil, List.drop_succ_cons, List.drop_zero, List.take_zero, List.headD_cons, List.cons_append, List.nil_append, List.append_nil, List.getElem?_cons_zero, List.getElem?_cons_succ, List.replicate, Option.bind_some, List.getElem?_toArray, true_and, and_true, Bool.and_true, Bool.true_and, Bool.and_self, Bool.false_eq_true, ↓reduceIte, Nat.reduceAdd, Nat.reduceLT, Nat.le_refl, Nat.zero_add, List.length_append, setPs, roundA_normal, ofMem, Ses.av]
    have hw : IntKind.i64.wrap (b.2 + 1) = b.2 + 1 := by
      rw [wrap_i64 (by omega) (by rw [hc, List.length_take]; omega)]
    (first | refine guardV_split ?_ ?_ | refine condK_split ?_ ?_ | refine drawV_split ?_ ?_ | refine condY_split ?_ ?_ | refine guardY_split ?_ ?_) <;> intro h
    · try simp (maxSteps := 1000000) only [go_nil, go_region, go_cond, go_blk, go_ops_nil, go_op, go_guard, opK_none, contK_some, condK_t, guardK_eq, guardV_tf, undef, callOf, fstep, fpre, fstep0, fbinA, fbin, fbin0, fload, fcell, fstore, fpick, T, TI.isAgg, St.ev, St.put, splice, AV.cells, AV.known, AV.flat, Value.cells, Value.oneCell', List.getD_cons_zero, List.getD_cons_succ, List.set, List.map_cons, List.map_nil, List.length_cons, List.length_nil, List.all_cons, List.all_nil, List.drop_succ_cons, List.drop_zero, List.take_succ_cons, List.take_zero, List.headD_cons, List.nil_append, List.append_nil, List.getElem?_cons_zero, List.getElem?_cons_succ, Option.bind_some, List.getElem?_toArray, true_and, and_true, Bool.and_true, Bool.true_and, Bool.and_self, Bool.false_eq_true, ↓reduceIte, Nat.reduceAdd, Nat.reduceLT, Nat.le_refl, Nat.zero_add, hw]
      simp only [roundX_normal, St.trunc, truncVs, truncV, AB.trunc, pureAll, AV.pure, Bool.and_self, List.drop_zero, List.take_succ_cons, List.take_zero, List.map_cons, List.map_nil, List.getElem?_cons_zero, List.getElem?_cons_succ, Nat.reduceLeDiff, Nat.le_refl, ↓reduceIte]
      exact ⟨_, rfl, by rw [hb]; simp only [bestStep, h, Bool.true_or, if_true]⟩
    · try simp (maxSteps := 1000000) only [go_guard, opK_none, opK_some, contK_some, guardK_eq, guardV_ff, callOf, callK_eq, callJ_nil, callD_fn, fstep, fpre, fstep0, fload, fcell, evs, T, TI.isAgg, St.ev, St.put, AV.owners, ownersAll, List.getD_cons_zero, List.getD_cons_succ, List.set, List.length_cons, List.length_nil, List.drop_zero, List.take_succ_cons, List.take_zero, List.append_nil, List.getElem?_cons_zero, List.getElem?_cons_succ, Option.bind_some, List.getElem?_toArray, true_and, Bool.true_and, ↓reduceIte, Nat.reduceAdd, Nat.le_refl, Nat.zero_add]
      (refine callG_use (aggr_Better _ _ _ _ _ _ _ _) rfl ?_; rintro _ rfl)
      try simp (maxSteps := 1000000) only [go_cond, go_ops_nil, go_op, opK_none, contK_some, callOf, fstep, fpre, fstep0, fpick, St.ev, St.put, List.getD_cons_zero, List.getD_cons_succ, List.set, true_and, Bool.true_and, cond_false]
      (first | refine guardV_split ?_ ?_ | refine condK_split ?_ ?_ | refine drawV_split ?_ ?_ | refine condY_split ?_ ?_ | refine guardY_split ?_ ?_) <;> intro h2 <;> try simp (maxSteps := 1000000) only [go_nil, go_skip, go_region, go_blk, go_ops_nil, go_op, opK_none, contK_some, condK_t, condK_f, callOf, fstep, fpre, fstep0, fbinA, fbin, fbin0, fload, fcell, fstore, T, TI.isAgg, St.ev, St.put, splice, AV.cells, AV.known, AV.flat, Value.cells, Value.oneCell', List.getD_cons_zero, List.getD_cons_succ, List.set, List.map_cons, List.map_nil, List.length_cons, List.length_nil, List.all_cons, List.all_nil, List.drop_succ_cons, List.drop_zero, List.take_succ_cons, List.take_zero, List.headD_cons, List.nil_append, List.append_nil, List.getElem?_cons_zero, List.getElem?_cons_succ, true_and, and_true, Bool.and_true, Bool.true_and, Bool.and_self, Bool.false_eq_true, ↓reduceIte, Nat.reduceAdd, Nat.reduceLT, Nat.le_refl, Nat.zero_add, hw] <;> simp only [roundX_normal, St.trunc, truncVs, truncV, AB.trunc, pureAll, AV.pure, Bool.and_self, List.drop_zero, List.take_succ_cons, List.take_zero, List.map_cons, List.map_nil, List.getElem?_cons_zero, List.getElem?_cons_succ, Nat.reduceLeDiff, Nat.le_refl, ↓reduceIte]
      · exact ⟨_, rfl, by rw [hb]; simp only [bestStep, h, h2, Bool.false_or, if_true]⟩
      · exact ⟨_, rfl, by rw [hb]; simp only [bestStep, h, h2, Bool.false_or, Bool.false_eq_true, if_false]⟩
  · rintro _ rfl
    have e1 : (lives now l).take (yields (lives now l)).length = lives now l := by rw [yields, List.length_map, List.take_length]
    try simp (maxSteps := 1000000) only [go_nil, go_region, go_ops_nil, go_op, opK_none, contK_some, callOf, fstep, fpre, fstep0, fload, fcell, fstore, ffieldAddr, ffill, fieldPlaces, fieldsOk, fbuild, evParts, T, TI.isAgg, St.ev, St.put, splice, AV.cells, AV.known, AV.flat, Value.cells, Value.oneCell', List.getD_cons_zero, List.getD_cons_succ, List.set, List.map_cons, List.map_nil, List.length_cons, List.length_nil, List.all_cons, List.all_nil, List.drop_succ_cons, List.drop_zero, List.take_succ_cons, List.take_zero, List.headD_cons, List.cons_append, List.nil_append, List.append_nil, List.getElem?_cons_zero, List.getElem?_cons_succ, List.replicate, Option.isSome_some, List.getElem?_toArray, true_and, and_true, Bool.and_true, Bool.true_and, Bool.and_self, Bool.false_eq_true, ↓reduceIte, reduceCtorEq, ne_eq, not_false_eq_true, Nat.reduceAdd, Nat.reduceLeDiff, Nat.reduceLT, Nat.le_refl, Nat.zero_add, goY_region, goY_seq, goY_blk, goY_ret, yK_normal, ofMem, e1]
    apply hK
    simp only [Try.results65, retK, ares, List.take_nil, Bool.and_true, Bool.true_and, AV.ofResults, St.trunc, truncVs, truncV, aload, acell, T, TI.isAgg, List.getD_cons_zero, List.getD_cons_succ, List.take_zero, List.take_succ_cons, List.drop_zero, List.map_nil, List.getElem?_cons_zero, List.length_cons, List.length_nil, Nat.reduceAdd, Nat.le_refl, true_and, and_true, ↓reduceIte, List.cons.injEq, exists_eq_left']
end Go.Proofs.Ytljgfapbbhbbpaa
