/- The types of the seat, as the walk wants them. Written by a small program of this session (seat.py); the kernel holds each row against the program. -/
import Derived.Test.YtljgfapbbhbbpaaProg
import Derived.Test.YtljgfapbbhbbpaaSymZd
import Derived.KernelRfl
import Derived.Test.YtljgfapbbhbbpaaSymU
namespace Go.Proofs.Ytljgfapbbhbbpaa
open Go Go.Proofs.Ytljgfapbbhbbpaa.Sym
set_option maxRecDepth 100000
noncomputable abbrev P : Program := Try.prog
def T : TypeId → Option TI
  | 3 => some { desc := (.int .i64), size := 1, bytes := 8, zero := [.int .i64 0] }
  | 4 => some { desc := .bool, size := 1, bytes := 1, zero := [.bool false] }
  | 5 => some { desc := (.int .u8), size := 1, bytes := 1, zero := [.int .u8 0] }
  | 9 => some { desc := .string, size := 1, bytes := 16, zero := [.string .empty] }
  | 23 => some { desc := (.pointer 117), size := 1, bytes := 8, zero := [.pointer none] }
  | 28 => some { desc := (.struct #[{ name := "Status", type := 3, offset := 0, embedded := false, tag := "", pkgPath := "", byteOffset := 0 }, { name := "Prio", type := 3, offset := 1, embedded := false, tag := "", pkgPath := "", byteOffset := 8 }, { name := "Live", type := 3, offset := 2, embedded := false, tag := "", pkgPath := "", byteOffset := 16 }]), size := 3, bytes := 24, zero := [.int .i64 0, .int .i64 0, .int .i64 0] }
  | 30 => some { desc := (.struct #[{ name := "User", type := 9, offset := 0, embedded := false, tag := "", pkgPath := "", byteOffset := 0 }, { name := "Old", type := 28, offset := 1, embedded := false, tag := "", pkgPath := "", byteOffset := 16 }, { name := "New", type := 28, offset := 4, embedded := false, tag := "", pkgPath := "", byteOffset := 40 }]), size := 7, bytes := 64, zero := [.string .empty, .int .i64 0, .int .i64 0, .int .i64 0, .int .i64 0, .int .i64 0, .int .i64 0] }
  | 31 => some { desc := (.slice 30), size := 1, bytes := 24, zero := [.slice none 0 0] }
  | 32 => some { desc := (.int .u64), size := 1, bytes := 8, zero := [.int .u64 0] }
  | 33 => some { desc := (.slice 37), size := 1, bytes := 24, zero := [.slice none 0 0] }
  | 37 => some { desc := (.struct #[{ name := "User", type := 9, offset := 0, embedded := false, tag := "", pkgPath := "", byteOffset := 0 }, { name := "Old", type := 28, offset := 1, embedded := false, tag := "", pkgPath := "", byteOffset := 16 }, { name := "New", type := 28, offset := 4, embedded := false, tag := "", pkgPath := "", byteOffset := 40 }, { name := "Seq", type := 32, offset := 7, embedded := false, tag := "", pkgPath := "", byteOffset := 64 }]), size := 8, bytes := 72, zero := [.string .empty, .int .i64 0, .int .i64 0, .int .i64 0, .int .i64 0, .int .i64 0, .int .i64 0, .int .u64 0] }
  | 39 => some { desc := (.slice 33), size := 1, bytes := 24, zero := [.slice none 0 0] }
  | 43 => some { desc := (.slice 44), size := 1, bytes := 24, zero := [.slice none 0 0] }
  | 44 => some { desc := (.slice 32), size := 1, bytes := 24, zero := [.slice none 0 0] }
  | 46 => some { desc := (.slice 55), size := 1, bytes := 24, zero := [.slice none 0 0] }
  | 48 => some { desc := (.pointer 53), size := 1, bytes := 8, zero := [.pointer none] }
  | 49 => some { desc := (.slice 128), size := 1, bytes := 24, zero := [.slice none 0 0] }
  | 50 => some { desc := (.array 8 33), size := 8, bytes := 192, zero := [.slice none 0 0, .slice none 0 0, .slice none 0 0, .slice none 0 0, .slice none 0 0, .slice none 0 0, .slice none 0 0, .slice none 0 0] }
  | 51 => some { desc := (.array 8 4), size := 8, bytes := 8, zero := [.bool false, .bool false, .bool false, .bool false, .bool false, .bool false, .bool false, .bool false] }
  | 53 => some { desc := (.struct #[{ name := "Room", type := 3, offset := 0, embedded := false, tag := "", pkgPath := "", byteOffset := 0 }, { name := "Pairs", type := 49, offset := 1, embedded := false, tag := "", pkgPath := "", byteOffset := 8 }, { name := "Queues", type := 50, offset := 2, embedded := false, tag := "", pkgPath := "", byteOffset := 32 }, { name := "Lost", type := 51, offset := 10, embedded := false, tag := "", pkgPath := "", byteOffset := 224 }]), size := 18, bytes := 232, zero := [.int .i64 0, .slice none 0 0, .slice none 0 0, .slice none 0 0, .slice none 0 0, .slice none 0 0, .slice none 0 0, .slice none 0 0, .slice none 0 0, .slice none 0 0, .bool false, .bool false, .bool false, .bool false, .bool false, .bool false, .bool false, .bool false] }
  | 55 => some { desc := (.struct #[{ name := "Do", type := 5, offset := 0, embedded := false, tag := "", pkgPath := "", byteOffset := 0 }, { name := "Who", type := 3, offset := 1, embedded := false, tag := "", pkgPath := "", byteOffset := 8 }, { name := "User", type := 9, offset := 2, embedded := false, tag := "", pkgPath := "", byteOffset := 16 }, { name := "Live", type := 3, offset := 3, embedded := false, tag := "", pkgPath := "", byteOffset := 32 }, { name := "Seq", type := 32, offset := 4, embedded := false, tag := "", pkgPath := "", byteOffset := 40 }]), size := 5, bytes := 48, zero := [.int .u8 0, .int .i64 0, .string .empty, .int .i64 0, .int .u64 0] }
  | 57 => some { desc := (.struct #[{ name := "User", type := 9, offset := 0, embedded := false, tag := "", pkgPath := "", byteOffset := 0 }, { name := "Old", type := 28, offset := 1, embedded := false, tag := "", pkgPath := "", byteOffset := 16 }, { name := "New", type := 28, offset := 4, embedded := false, tag := "", pkgPath := "", byteOffset := 40 }]), size := 7, bytes := 64, zero := [.string .empty, .int .i64 0, .int .i64 0, .int .i64 0, .int .i64 0, .int .i64 0, .int .i64 0] }
  | 58 => some { desc := (.slice 57), size := 1, bytes := 24, zero := [.slice none 0 0] }
  | 62 => some { desc := (.slice 9), size := 1, bytes := 24, zero := [.slice none 0 0] }
  | 65 => some { desc := (.slice 75), size := 1, bytes := 24, zero := [.slice none 0 0] }
  | 67 => some { desc := (.slice 87), size := 1, bytes := 24, zero := [.slice none 0 0] }
  | 69 => some { desc := (.struct #[{ name := "keys", type := 62, offset := 0, embedded := false, tag := "", pkgPath := "doorman/omap", byteOffset := 0 }, { name := "values", type := 67, offset := 1, embedded := false, tag := "", pkgPath := "doorman/omap", byteOffset := 24 }]), size := 2, bytes := 48, zero := [.slice none 0 0, .slice none 0 0] }
  | 70 => some { desc := (.slice 28), size := 1, bytes := 24, zero := [.slice none 0 0] }
  | 73 => some { desc := (.struct #[{ name := "Kind", type := 3, offset := 0, embedded := false, tag := "", pkgPath := "", byteOffset := 0 }, { name := "User", type := 9, offset := 1, embedded := false, tag := "", pkgPath := "", byteOffset := 8 }, { name := "Id", type := 3, offset := 2, embedded := false, tag := "", pkgPath := "", byteOffset := 24 }, { name := "Status", type := 3, offset := 3, embedded := false, tag := "", pkgPath := "", byteOffset := 32 }, { name := "Prio", type := 3, offset := 4, embedded := false, tag := "", pkgPath := "", byteOffset := 40 }, { name := "Ttl", type := 32, offset := 5, embedded := false, tag := "", pkgPath := "", byteOffset := 48 }, { name := "Users", type := 62, offset := 6, embedded := false, tag := "", pkgPath := "", byteOffset := 56 }]), size := 7, bytes := 80, zero := [.int .i64 0, .string .empty, .int .i64 0, .int .i64 0, .int .i64 0, .int .u64 0, .slice none 0 0] }
  | 75 => some { desc := (.struct #[{ name := "Sweep", type := 4, offset := 0, embedded := false, tag := "", pkgPath := "", byteOffset := 0 }, { name := "Op", type := 73, offset := 1, embedded := false, tag := "", pkgPath := "", byteOffset := 8 }, { name := "By", type := 32, offset := 8, embedded := false, tag := "", pkgPath := "", byteOffset := 88 }]), size := 9, bytes := 96, zero := [.bool false, .int .i64 0, .string .empty, .int .i64 0, .int .i64 0, .int .i64 0, .int .u64 0, .slice none 0 0, .int .u64 0] }
  | 85 => some { desc := (.slice 91), size := 1, bytes := 24, zero := [.slice none 0 0] }
  | 87 => some { desc := (.struct #[{ name := "Sessions", type := 85, offset := 0, embedded := false, tag := "", pkgPath := "", byteOffset := 0 }, { name := "Told", type := 28, offset := 1, embedded := false, tag := "", pkgPath := "", byteOffset := 24 }]), size := 4, bytes := 48, zero := [.slice none 0 0, .int .i64 0, .int .i64 0, .int .i64 0] }
  | 91 => some { desc := (.struct #[{ name := "Id", type := 3, offset := 0, embedded := false, tag := "", pkgPath := "", byteOffset := 0 }, { name := "Status", type := 3, offset := 1, embedded := false, tag := "", pkgPath := "", byteOffset := 8 }, { name := "Prio", type := 3, offset := 2, embedded := false, tag := "", pkgPath := "", byteOffset := 16 }, { name := "Until", type := 32, offset := 3, embedded := false, tag := "", pkgPath := "", byteOffset := 24 }]), size := 4, bytes := 32, zero := [.int .i64 0, .int .i64 0, .int .i64 0, .int .u64 0] }
  | 93 => some { desc := (.slice 96), size := 1, bytes := 24, zero := [.slice none 0 0] }
  | 96 => some { desc := (.struct #[{ name := "Name", type := 9, offset := 0, embedded := false, tag := "", pkgPath := "", byteOffset := 0 }, { name := "Sessions", type := 85, offset := 1, embedded := false, tag := "", pkgPath := "", byteOffset := 16 }, { name := "Told", type := 28, offset := 2, embedded := false, tag := "", pkgPath := "", byteOffset := 40 }]), size := 5, bytes := 64, zero := [.string .empty, .slice none 0 0, .int .i64 0, .int .i64 0, .int .i64 0] }
  | 111 => some { desc := (.slice 120), size := 1, bytes := 24, zero := [.slice none 0 0] }
  | 113 => some { desc := (.struct #[{ name := "keys", type := 62, offset := 0, embedded := false, tag := "", pkgPath := "doorman/omap", byteOffset := 0 }, { name := "values", type := 111, offset := 1, embedded := false, tag := "", pkgPath := "doorman/omap", byteOffset := 24 }]), size := 2, bytes := 48, zero := [.slice none 0 0, .slice none 0 0] }
  | 114 => some { desc := (.pointer 157), size := 1, bytes := 8, zero := [.pointer none] }
  | 115 => some { desc := (.array 8 114), size := 8, bytes := 64, zero := [.pointer none, .pointer none, .pointer none, .pointer none, .pointer none, .pointer none, .pointer none, .pointer none] }
  | 117 => some { desc := (.struct #[{ name := "watches", type := 113, offset := 0, embedded := false, tag := "", pkgPath := "doorman/feed", byteOffset := 0 }, { name := "queues", type := 115, offset := 2, embedded := false, tag := "", pkgPath := "doorman/feed", byteOffset := 48 }]), size := 10, bytes := 112, zero := [.slice none 0 0, .slice none 0 0, .pointer none, .pointer none, .pointer none, .pointer none, .pointer none, .pointer none, .pointer none, .pointer none] }
  | 120 => some { desc := (.int .u32), size := 1, bytes := 4, zero := [.int .u32 0] }
  | 126 => some { desc := (.slice 3), size := 1, bytes := 24, zero := [.slice none 0 0] }
  | 128 => some { desc := (.struct #[{ name := "Who", type := 3, offset := 0, embedded := false, tag := "", pkgPath := "", byteOffset := 0 }, { name := "User", type := 9, offset := 1, embedded := false, tag := "", pkgPath := "", byteOffset := 8 }]), size := 2, bytes := 24, zero := [.int .i64 0, .string .empty] }
  | 157 => some { desc := (.struct #[{ name := "room", type := 3, offset := 0, embedded := false, tag := "", pkgPath := "doorman/ring", byteOffset := 0 }, { name := "l", type := 33, offset := 1, embedded := false, tag := "", pkgPath := "doorman/ring", byteOffset := 8 }, { name := "lost", type := 4, offset := 2, embedded := false, tag := "", pkgPath := "doorman/ring", byteOffset := 32 }]), size := 3, bytes := 40, zero := [.int .i64 0, .slice none 0 0, .bool false] }
  | 193 => some { desc := (.int .u64), size := 1, bytes := 8, zero := [.int .u64 0] }
  | _ => none
theorem ty3 : (P.info? 3).map (fun i => (i.size, i.bytes, i.zero)) = some (1, 8, some (.int .i64 0)) := by kernel_rfl
theorem ty4 : (P.info? 4).map (fun i => (i.size, i.bytes, i.zero)) = some (1, 1, some (.bool false)) := by kernel_rfl
theorem ty5 : (P.info? 5).map (fun i => (i.size, i.bytes, i.zero)) = some (1, 1, some (.int .u8 0)) := by kernel_rfl
theorem ty9 : (P.info? 9).map (fun i => (i.size, i.bytes, i.zero)) = some (1, 16, some (.string .empty)) := by kernel_rfl
theorem ty23 : (P.info? 23).map (fun i => (i.size, i.bytes, i.zero)) = some (1, 8, some (.pointer none)) := by kernel_rfl
theorem ty28 : (P.info? 28).map (fun i => (i.size, i.bytes, i.zero)) = some (3, 24, some (.agg #[.int .i64 0, .int .i64 0, .int .i64 0])) := by kernel_rfl
theorem ty30 : (P.info? 30).map (fun i => (i.size, i.bytes, i.zero)) = some (7, 64, some (.agg #[.string .empty, .int .i64 0, .int .i64 0, .int .i64 0, .int .i64 0, .int .i64 0, .int .i64 0])) := by kernel_rfl
theorem ty31 : (P.info? 31).map (fun i => (i.size, i.bytes, i.zero)) = some (1, 24, some (.slice none 0 0)) := by kernel_rfl
theorem ty32 : (P.info? 32).map (fun i => (i.size, i.bytes, i.zero)) = some (1, 8, some (.int .u64 0)) := by kernel_rfl
theorem ty33 : (P.info? 33).map (fun i => (i.size, i.bytes, i.zero)) = some (1, 24, some (.slice none 0 0)) := by kernel_rfl
theorem ty37 : (P.info? 37).map (fun i => (i.size, i.bytes, i.zero)) = some (8, 72, some (.agg #[.string .empty, .int .i64 0, .int .i64 0, .int .i64 0, .int .i64 0, .int .i64 0, .int .i64 0, .int .u64 0])) := by kernel_rfl
theorem ty39 : (P.info? 39).map (fun i => (i.size, i.bytes, i.zero)) = some (1, 24, some (.slice none 0 0)) := by kernel_rfl
theorem ty43 : (P.info? 43).map (fun i => (i.size, i.bytes, i.zero)) = some (1, 24, some (.slice none 0 0)) := by kernel_rfl
theorem ty44 : (P.info? 44).map (fun i => (i.size, i.bytes, i.zero)) = some (1, 24, some (.slice none 0 0)) := by kernel_rfl
theorem ty46 : (P.info? 46).map (fun i => (i.size, i.bytes, i.zero)) = some (1, 24, some (.slice none 0 0)) := by kernel_rfl
theorem ty48 : (P.info? 48).map (fun i => (i.size, i.bytes, i.zero)) = some (1, 8, some (.pointer none)) := by kernel_rfl
theorem ty49 : (P.info? 49).map (fun i => (i.size, i.bytes, i.zero)) = some (1, 24, some (.slice none 0 0)) := by kernel_rfl
theorem ty50 : (P.info? 50).map (fun i => (i.size, i.bytes, i.zero)) = some (8, 192, some (.agg #[.slice none 0 0, .slice none 0 0, .slice none 0 0, .slice none 0 0, .slice none 0 0, .slice none 0 0, .slice none 0 0, .slice none 0 0])) := by kernel_rfl
theorem ty51 : (P.info? 51).map (fun i => (i.size, i.bytes, i.zero)) = some (8, 8, some (.agg #[.bool false, .bool false, .bool false, .bool false, .bool false, .bool false, .bool false, .bool false])) := by kernel_rfl
theorem ty53 : (P.info? 53).map (fun i => (i.size, i.bytes, i.zero)) = some (18, 232, some (.agg #[.int .i64 0, .slice none 0 0, .slice none 0 0, .slice none 0 0, .slice none 0 0, .slice none 0 0, .slice none 0 0, .slice none 0 0, .slice none 0 0, .slice none 0 0, .bool false, .bool false, .bool false, .bool false, .bool false, .bool false, .bool false, .bool false])) := by kernel_rfl
theorem ty55 : (P.info? 55).map (fun i => (i.size, i.bytes, i.zero)) = some (5, 48, some (.agg #[.int .u8 0, .int .i64 0, .string .empty, .int .i64 0, .int .u64 0])) := by kernel_rfl
theorem ty57 : (P.info? 57).map (fun i => (i.size, i.bytes, i.zero)) = some (7, 64, some (.agg #[.string .empty, .int .i64 0, .int .i64 0, .int .i64 0, .int .i64 0, .int .i64 0, .int .i64 0])) := by kernel_rfl
theorem ty58 : (P.info? 58).map (fun i => (i.size, i.bytes, i.zero)) = some (1, 24, some (.slice none 0 0)) := by kernel_rfl
theorem ty62 : (P.info? 62).map (fun i => (i.size, i.bytes, i.zero)) = some (1, 24, some (.slice none 0 0)) := by kernel_rfl
theorem ty65 : (P.info? 65).map (fun i => (i.size, i.bytes, i.zero)) = some (1, 24, some (.slice none 0 0)) := by kernel_rfl
theorem ty67 : (P.info? 67).map (fun i => (i.size, i.bytes, i.zero)) = some (1, 24, some (.slice none 0 0)) := by kernel_rfl
theorem ty69 : (P.info? 69).map (fun i => (i.size, i.bytes, i.zero)) = some (2, 48, some (.agg #[.slice none 0 0, .slice none 0 0])) := by kernel_rfl
theorem ty70 : (P.info? 70).map (fun i => (i.size, i.bytes, i.zero)) = some (1, 24, some (.slice none 0 0)) := by kernel_rfl
theorem ty73 : (P.info? 73).map (fun i => (i.size, i.bytes, i.zero)) = some (7, 80, some (.agg #[.int .i64 0, .string .empty, .int .i64 0, .int .i64 0, .int .i64 0, .int .u64 0, .slice none 0 0])) := by kernel_rfl
theorem ty75 : (P.info? 75).map (fun i => (i.size, i.bytes, i.zero)) = some (9, 96, some (.agg #[.bool false, .int .i64 0, .string .empty, .int .i64 0, .int .i64 0, .int .i64 0, .int .u64 0, .slice none 0 0, .int .u64 0])) := by kernel_rfl
theorem ty85 : (P.info? 85).map (fun i => (i.size, i.bytes, i.zero)) = some (1, 24, some (.slice none 0 0)) := by kernel_rfl
theorem ty87 : (P.info? 87).map (fun i => (i.size, i.bytes, i.zero)) = some (4, 48, some (.agg #[.slice none 0 0, .int .i64 0, .int .i64 0, .int .i64 0])) := by kernel_rfl
theorem ty91 : (P.info? 91).map (fun i => (i.size, i.bytes, i.zero)) = some (4, 32, some (.agg #[.int .i64 0, .int .i64 0, .int .i64 0, .int .u64 0])) := by kernel_rfl
theorem ty93 : (P.info? 93).map (fun i => (i.size, i.bytes, i.zero)) = some (1, 24, some (.slice none 0 0)) := by kernel_rfl
theorem ty96 : (P.info? 96).map (fun i => (i.size, i.bytes, i.zero)) = some (5, 64, some (.agg #[.string .empty, .slice none 0 0, .int .i64 0, .int .i64 0, .int .i64 0])) := by kernel_rfl
theorem ty111 : (P.info? 111).map (fun i => (i.size, i.bytes, i.zero)) = some (1, 24, some (.slice none 0 0)) := by kernel_rfl
theorem ty113 : (P.info? 113).map (fun i => (i.size, i.bytes, i.zero)) = some (2, 48, some (.agg #[.slice none 0 0, .slice none 0 0])) := by kernel_rfl
theorem ty114 : (P.info? 114).map (fun i => (i.size, i.bytes, i.zero)) = some (1, 8, some (.pointer none)) := by kernel_rfl
theorem ty115 : (P.info? 115).map (fun i => (i.size, i.bytes, i.zero)) = some (8, 64, some (.agg #[.pointer none, .pointer none, .pointer none, .pointer none, .pointer none, .pointer none, .pointer none, .pointer none])) := by kernel_rfl
theorem ty117 : (P.info? 117).map (fun i => (i.size, i.bytes, i.zero)) = some (10, 112, some (.agg #[.slice none 0 0, .slice none 0 0, .pointer none, .pointer none, .pointer none, .pointer none, .pointer none, .pointer none, .pointer none, .pointer none])) := by kernel_rfl
theorem ty120 : (P.info? 120).map (fun i => (i.size, i.bytes, i.zero)) = some (1, 4, some (.int .u32 0)) := by kernel_rfl
theorem ty126 : (P.info? 126).map (fun i => (i.size, i.bytes, i.zero)) = some (1, 24, some (.slice none 0 0)) := by kernel_rfl
theorem ty128 : (P.info? 128).map (fun i => (i.size, i.bytes, i.zero)) = some (2, 24, some (.agg #[.int .i64 0, .string .empty])) := by kernel_rfl
theorem ty157 : (P.info? 157).map (fun i => (i.size, i.bytes, i.zero)) = some (3, 40, some (.agg #[.int .i64 0, .slice none 0 0, .bool false])) := by kernel_rfl
theorem ty193 : (P.info? 193).map (fun i => (i.size, i.bytes, i.zero)) = some (1, 8, some (.int .u64 0)) := by kernel_rfl
theorem row_ok {t : TypeId} {d : TypeDesc} {size bytes : Nat} {z : Value} {zero : List Value} (hu : P.underlying t = some d) (hi : (P.info? t).map (fun i => (i.size, i.bytes, i.zero)) = some (size, bytes, some z)) (hz : z.cells.toList = zero) :
    P.underlying t = some d ∧ ∃ i z, P.info? t = some i ∧ i.size = size ∧ i.bytes = bytes ∧ i.zero = some z ∧ z.cells.toList = zero := by
  refine ⟨hu, ?_⟩
  cases h : P.info? t with
  | none => rw [h] at hi; cases hi
  | some i =>
    rw [h] at hi
    simp only [Option.map_some, Option.some.injEq, Prod.mk.injEq] at hi
    exact ⟨i, z, rfl, hi.1, hi.2.1, hi.2.2, hz⟩
theorem tyOk : TyOk P T := by
  intro t ti h
  unfold T at h
  split at h
  · cases h; exact row_ok Try.underlying3 ty3 rfl
  · cases h; exact row_ok Try.underlying4 ty4 rfl
  · cases h; exact row_ok Try.underlying5 ty5 rfl
  · cases h; exact row_ok Try.underlying9 ty9 rfl
  · cases h; exact row_ok Try.underlying23 ty23 rfl
  · cases h; exact row_ok Try.underlying28 ty28 rfl
  · cases h; exact row_ok Try.underlying30 ty30 rfl
  · cases h; exact row_ok Try.underlying31 ty31 rfl
  · cases h; exact row_ok Try.underlying32 ty32 rfl
  · cases h; exact row_ok Try.underlying33 ty33 rfl
  · cases h; exact row_ok Try.underlying37 ty37 rfl
  · cases h; exact row_ok Try.underlying39 ty39 rfl
  · cases h; exact row_ok Try.underlying43 ty43 rfl
  · cases h; exact row_ok Try.underlying44 ty44 rfl
  · cases h; exact row_ok Try.underlying46 ty46 rfl
  · cases h; exact row_ok Try.underlying48 ty48 rfl
  · cases h; exact row_ok Try.underlying49 ty49 rfl
  · cases h; exact row_ok Try.underlying50 ty50 rfl
  · cases h; exact row_ok Try.underlying51 ty51 rfl
  · cases h; exact row_ok Try.underlying53 ty53 rfl
  · cases h; exact row_ok Try.underlying55 ty55 rfl
  · cases h; exact row_ok Try.underlying57 ty57 rfl
  · cases h; exact row_ok Try.underlying58 ty58 rfl
  · cases h; exact row_ok Try.underlying62 ty62 rfl
  · cases h; exact row_ok Try.underlying65 ty65 rfl
  · cases h; exact row_ok Try.underlying67 ty67 rfl
  · cases h; exact row_ok Try.underlying69 ty69 rfl
  · cases h; exact row_ok Try.underlying70 ty70 rfl
  · cases h; exact row_ok Try.underlying73 ty73 rfl
  · cases h; exact row_ok Try.underlying75 ty75 rfl
  · cases h; exact row_ok Try.underlying85 ty85 rfl
  · cases h; exact row_ok Try.underlying87 ty87 rfl
  · cases h; exact row_ok Try.underlying91 ty91 rfl
  · cases h; exact row_ok Try.underlying93 ty93 rfl
  · cases h; exact row_ok Try.underlying96 ty96 rfl
  · cases h; exact row_ok Try.underlying111 ty111 rfl
  · cases h; exact row_ok Try.underlying113 ty113 rfl
  · cases h; exact row_ok Try.underlying114 ty114 rfl
  · cases h; exact row_ok Try.underlying115 ty115 rfl
  · cases h; exact row_ok Try.underlying117 ty117 rfl
  · cases h; exact row_ok Try.underlying120 ty120 rfl
  · cases h; exact row_ok Try.underlying126 ty126 rfl
  · cases h; exact row_ok Try.underlying128 ty128 rfl
  · cases h; exact row_ok Try.underlying157 ty157 rfl
  · cases h; exact row_ok Try.underlying193 ty193 rfl
  · cases h
theorem eqc28 {xs ys : List AV} : eqC P T 28 xs ys = (kOks [.int .i64, .int .i64, .int .i64] xs ys = true) := eqC_eq (by kernel_rfl) (by kernel_rfl)
theorem eqc30 {xs ys : List AV} : eqC P T 30 xs ys = (kOks [.str, .int .i64, .int .i64, .int .i64, .int .i64, .int .i64, .int .i64] xs ys = true) := eqC_eq (by kernel_rfl) (by kernel_rfl)
theorem eqc37 {xs ys : List AV} : eqC P T 37 xs ys = (kOks [.str, .int .i64, .int .i64, .int .i64, .int .i64, .int .i64, .int .i64, .int .u64] xs ys = true) := eqC_eq (by kernel_rfl) (by kernel_rfl)
theorem eqc55 {xs ys : List AV} : eqC P T 55 xs ys = (kOks [.int .u8, .int .i64, .str, .int .i64, .int .u64] xs ys = true) := eqC_eq (by kernel_rfl) (by kernel_rfl)
theorem eqc57 {xs ys : List AV} : eqC P T 57 xs ys = (kOks [.str, .int .i64, .int .i64, .int .i64, .int .i64, .int .i64, .int .i64] xs ys = true) := eqC_eq (by kernel_rfl) (by kernel_rfl)
theorem eqc91 {xs ys : List AV} : eqC P T 91 xs ys = (kOks [.int .i64, .int .i64, .int .i64, .int .u64] xs ys = true) := eqC_eq (by kernel_rfl) (by kernel_rfl)
theorem eqc128 {xs ys : List AV} : eqC P T 128 xs ys = (kOks [.int .i64, .str] xs ys = true) := eqC_eq (by kernel_rfl) (by kernel_rfl)
end Go.Proofs.Ytljgfapbbhbbpaa
namespace Go.Proofs.Ytljgfapbbhbbpaa
open Go Go.Proofs.Ytljgfapbbhbbpaa.Sym
set_option linter.unusedSimpArgs false
set_option linter.unusedVariables false

structure StrictOrd {α : Type} (lt : α → α → Bool) : Prop where
  irrefl : ∀ a, lt a a = false
  trans : ∀ a b c, lt a b = true → lt b c = true → lt a c = true
  total : ∀ a b, lt a b = false → lt b a = false → a = b
section
variable {α : Type} {lt : α → α → Bool}
def Rises (lt : α → α → Bool) (l : List α) : Prop := l.Pairwise fun a b => lt a b = true
/-- How many are less. -/
def lb (lt : α → α → Bool) (l : List α) (k : α) : Nat := (l.takeWhile fun x => lt x k).length
theorem lb_le (l : List α) (k : α) : lb lt l k ≤ l.length := by
  unfold lb
  induction l with
  | nil => exact Nat.le_refl _
  | cons x xs ih =>
    simp only [List.takeWhile_cons]
    split
    · simp; exact ih
    · simp
theorem lb_lt {l : List α} {k : α} : ∀ {i : Nat} (h : i < lb lt l k), lt (l[i]'(Nat.lt_of_lt_of_le h (lb_le l k))) k = true := by
  induction l with
  | nil => intro i h; simp [lb] at h
  | cons x xs ih =>
    intro i h
    have h' := h
    simp only [lb, List.takeWhile_cons] at h'
    split at h'
    · rename_i hx
      cases i with
      | zero => exact hx
      | succ i => exact ih (i := i) (by simpa [lb] using h')
    · simp at h'
theorem lb_ge (O : StrictOrd lt) {l : List α} (hl : Rises lt l) {k : α} : ∀ {i : Nat} (h : i < l.length), lb lt l k ≤ i → lt l[i] k = false := by
  induction l with
  | nil => intro i h; simp at h
  | cons x xs ih =>
    intro i h hi
    have hp := List.pairwise_cons.1 hl
    by_cases hx : lt x k = true
    · cases i with
      | zero => simp [lb, List.takeWhile_cons, hx] at hi
      | succ i =>
        refine ih hp.2 (by simpa using h) ?_
        simp only [lb, List.takeWhile_cons, hx, if_true, List.length_cons] at hi ⊢
        omega
    · have hx' : lt x k = false := by simpa using hx
      cases i with
      | zero => exact hx'
      | succ i =>
        have hi' : i < xs.length := by simpa using h
        cases hc : lt xs[i] k with
        | false => simpa using hc
        | true =>
          have := O.trans _ _ _ (hp.1 _ (List.getElem_mem hi')) hc
          rw [hx'] at this; cases this
theorem lb_unique (O : StrictOrd lt) {l : List α} (hl : Rises lt l) {k : α} {p : Nat} (hp : p ≤ l.length) (h1 : ∀ i (h : i < l.length), i < p → lt l[i] k = true) (h2 : ∀ i (h : i < l.length), p ≤ i → lt l[i] k = false) : p = lb lt l k := by
  rcases Nat.lt_trichotomy p (lb lt l k) with h | h | h
  · have a := lb_lt h
    have b := h2 p (Nat.lt_of_lt_of_le h (lb_le l k)) (Nat.le_refl _)
    rw [b] at a; cases a
  · exact h
  · have hlt : lb lt l k < l.length := by omega
    have a := lb_ge O hl hlt (Nat.le_refl _)
    have b := h1 _ hlt h
    rw [b] at a; cases a
/-- Is a key there? -/
def hasAt (lt eq : α → α → Bool) (l : List α) (k : α) : Bool := match l[lb lt l k]? with | some x => eq x k | none => false
theorem hasAt_lt {eq : α → α → Bool} {l : List α} {k : α} (h : lb lt l k < l.length) : hasAt lt eq l k = eq l[lb lt l k] k := by
  rw [hasAt, List.getElem?_eq_getElem h]
theorem hasAt_ge {eq : α → α → Bool} {l : List α} {k : α} (h : ¬ lb lt l k < l.length) : hasAt lt eq l k = false := by
  rw [hasAt, List.getElem?_eq_none (by omega)]
theorem hasAt_iff (O : StrictOrd lt) {eq : α → α → Bool} (he : ∀ a b, eq a b = true ↔ a = b) {l : List α} (hl : Rises lt l) {k : α} : hasAt lt eq l k = true ↔ k ∈ l := by
  constructor
  · intro h
    by_cases hc : lb lt l k < l.length
    · rw [hasAt_lt hc] at h
      rw [← (he _ _).1 h]; exact List.getElem_mem hc
    · rw [hasAt_ge hc] at h; cases h
  · intro h
    obtain ⟨i, hi, rfl⟩ := List.mem_iff_getElem.1 h
    have h1 : lb lt l l[i] = i := by
      refine (lb_unique O hl (Nat.le_of_lt hi) (fun j hj hji => List.pairwise_iff_getElem.1 hl j i hj hi hji) (fun j hj hij => ?_)).symm
      rcases Nat.lt_or_ge i j with h | h
      · have a := List.pairwise_iff_getElem.1 hl i j hi hj h
        cases hc : lt l[j] l[i] with
        | false => rfl
        | true => have := O.trans _ _ _ a hc; rw [O.irrefl] at this; cases this
      · obtain rfl : i = j := by omega
        exact O.irrefl _
    rw [hasAt_lt (by omega)]
    simp only [h1]
    exact (he _ _).2 rfl
end

def ltI (a b : Int) : Bool := decide (a < b)
def eqI (a b : Int) : Bool := a == b
theorem ordI : StrictOrd ltI := ⟨fun a => by simp [ltI], fun a b c h1 h2 => by simp [ltI] at *; omega, fun a b h1 h2 => by simp [ltI] at *; omega⟩
theorem eqI_iff (a b : Int) : eqI a b = true ↔ a = b := by simp [eqI]
def ltS (a b : ByteArray) : Bool := Op.bytesLess a.toList b.toList
def eqS (a b : ByteArray) : Bool := a.toList == b.toList
theorem less_irrefl : ∀ l : List UInt8, Op.bytesLess l l = false
  | [] => rfl
  | a :: l => by simp [Op.bytesLess, less_irrefl l]
theorem less_trans : ∀ a b c : List UInt8, Op.bytesLess a b = true → Op.bytesLess b c = true → Op.bytesLess a c = true
  | _, [], _, h, _ => by simp [Op.bytesLess] at h
  | _, _ :: _, [], _, h => by simp [Op.bytesLess] at h
  | [], _ :: _, _ :: _, _, _ => rfl
  | a :: x, b :: y, c :: z, h1, h2 => by
    simp only [Op.bytesLess, Bool.or_eq_true, decide_eq_true_eq, Bool.and_eq_true, beq_iff_eq] at h1 h2 ⊢
    rcases h1 with h1 | ⟨rfl, h1⟩
    · rcases h2 with h2 | ⟨rfl, h2⟩
      · exact .inl (UInt8.lt_trans h1 h2)
      · exact .inl h1
    · rcases h2 with h2 | ⟨rfl, h2⟩
      · exact .inl h2
      · exact .inr ⟨rfl, less_trans x y z h1 h2⟩
theorem less_total : ∀ a b : List UInt8, Op.bytesLess a b = false → Op.bytesLess b a = false → a = b
  | [], [], _, _ => rfl
  | [], _ :: _, h, _ => by simp [Op.bytesLess] at h
  | _ :: _, [], _, h => by simp [Op.bytesLess] at h
  | a :: x, b :: y, h1, h2 => by
    simp only [Op.bytesLess, Bool.or_eq_false_iff, decide_eq_false_iff_not, Bool.and_eq_false_imp, beq_iff_eq] at h1 h2
    have hab : a = b := by
      apply UInt8.toNat_inj.1
      have p := h1.1; have q := h2.1
      rw [UInt8.lt_iff_toNat_lt] at p q
      omega
    subst hab
    rw [less_total x y (h1.2 rfl) (h2.2 rfl)]
theorem toList_inj {a b : ByteArray} (h : a.toList = b.toList) : a = b := by
  have e : ∀ c : ByteArray, c.toList = c.data.toList := fun c => by
    exact ByteArray.toList_eq c
  rw [e, e] at h
  cases a; cases b
  simp at h
  rw [h]
theorem ordS : StrictOrd ltS := ⟨fun a => less_irrefl _, fun a b c h1 h2 => less_trans _ _ _ h1 h2, fun a b h1 h2 => toList_inj (less_total _ _ h1 h2)⟩
theorem eqS_iff (a b : ByteArray) : eqS a b = true ↔ a = b := by
  rw [eqS, beq_iff_eq]
  exact ⟨toList_inj, fun h => by rw [h]⟩
end Go.Proofs.Ytljgfapbbhbbpaa
namespace Go.Proofs.Ytljgfapbbhbbpaa
set_option linter.unusedSimpArgs false
set_option linter.unusedVariables false
section
variable {α β : Type} {lt eq : α → α → Bool}
def withG (lt eq : α → α → Bool) (m : List (α × β)) (k : α) (v : β) : List (α × β) :=
  if hasAt lt eq (m.map Prod.fst) k = true then m.set (lb lt (m.map Prod.fst) k) (k, v)
  else m.take (lb lt (m.map Prod.fst) k) ++ [(k, v)] ++ m.drop (lb lt (m.map Prod.fst) k)
def withoutG (lt eq : α → α → Bool) (m : List (α × β)) (k : α) : List (α × β) :=
  if hasAt lt eq (m.map Prod.fst) k = true then m.take (lb lt (m.map Prod.fst) k) ++ m.drop (lb lt (m.map Prod.fst) k + 1) else m
def getG (lt eq : α → α → Bool) (none : β) (m : List (α × β)) (k : α) : β × Bool :=
  if hasAt lt eq (m.map Prod.fst) k = true then ((m.map Prod.snd).getD (lb lt (m.map Prod.fst) k) none, true) else (none, false)
abbrev RisesM (lt : α → α → Bool) (m : List (α × β)) : Prop := Rises lt (m.map Prod.fst)
theorem risesM_iff {m : List (α × β)} : RisesM lt m ↔ m.Pairwise fun a b => lt a.1 b.1 = true := List.pairwise_map
theorem with_len (m : List (α × β)) (k : α) (v : β) : (withG lt eq m k v).length ≤ m.length + 1 := by
  unfold withG
  split
  · simp
  · simp
    omega
theorem without_len (m : List (α × β)) (k : α) : (withoutG lt eq m k).length ≤ m.length := by
  unfold withoutG
  split
  · simp; omega
  · exact Nat.le_refl _
theorem filter_none' {p : α × β → Bool} {l : List (α × β)} (h : ∀ x ∈ l, p x = false) : l.filter p = [] := by
  rw [List.filter_eq_nil_iff]; intro x hx; rw [h x hx]; decide
theorem filter_all' {p : α × β → Bool} {l : List (α × β)} (h : ∀ x ∈ l, p x = true) : l.filter p = l := List.filter_eq_self.2 h

/-- What is less, what is put, what is greater. -/
theorem with_eq (O : StrictOrd lt) (he : ∀ a b, eq a b = true ↔ a = b) {m : List (α × β)} (hr : RisesM lt m) (k : α) (v : β) :
    withG lt eq m k v = m.filter (fun p => lt p.1 k) ++ [(k, v)] ++ m.filter (fun p => lt k p.1) := by
  induction m with
  | nil => simp [withG, hasAt, lb]
  | cons x xs ih =>
    have hp := List.pairwise_cons.1 (risesM_iff.1 hr)
    by_cases hx : lt x.1 k = true
    · have hkx : lt k x.1 = false := by
        cases hc : lt k x.1 with
        | false => rfl
        | true => have := O.trans _ _ _ hx hc; rw [O.irrefl] at this; cases this
      have hlb : lb lt ((x :: xs).map Prod.fst) k = lb lt (xs.map Prod.fst) k + 1 := by simp [lb, List.takeWhile_cons, hx]
      have hh : hasAt lt eq ((x :: xs).map Prod.fst) k = hasAt lt eq (xs.map Prod.fst) k := by unfold hasAt; rw [hlb]; simp
      have e : withG lt eq (x :: xs) k v = x :: withG lt eq xs k v := by
        unfold withG
        rw [hh, hlb]
        split <;> simp
      rw [e, ih (risesM_iff.2 hp.2), List.filter_cons, List.filter_cons, hx, hkx]
      simp
    · have hx' : lt x.1 k = false := by simpa using hx
      have hlb : lb lt ((x :: xs).map Prod.fst) k = 0 := by simp [lb, List.takeWhile_cons, hx']
      have hh : hasAt lt eq ((x :: xs).map Prod.fst) k = eq x.1 k := by unfold hasAt; rw [hlb]; simp
      have hlow : ∀ y ∈ xs, lt y.1 k = false := by
        intro y hy
        cases hc : lt y.1 k with
        | false => rfl
        | true => have := O.trans _ _ _ (hp.1 y hy) hc; rw [hx'] at this; cases this
      unfold withG
      rw [hh, hlb, List.filter_cons, hx', filter_none' hlow]
      cases heq : eq x.1 k with
      | true =>
        have hk := (he _ _).1 heq
        subst hk
        rw [List.filter_cons, O.irrefl, filter_all' (l := xs) (fun y hy => hp.1 y hy)]
        simp
      | false =>
        have hkx : lt k x.1 = true := by
          cases hc : lt k x.1 with
          | true => rfl
          | false =>
            have := O.total _ _ hx' hc
            rw [(he _ _).2 this] at heq; cases heq
        rw [List.filter_cons, hkx, filter_all' (l := xs) (fun y hy => O.trans _ _ _ hkx (hp.1 y hy))]
        simp
theorem without_eq (O : StrictOrd lt) (he : ∀ a b, eq a b = true ↔ a = b) {m : List (α × β)} (hr : RisesM lt m) (k : α) :
    withoutG lt eq m k = m.filter (fun p => !eq p.1 k) := by
  induction m with
  | nil => simp [withoutG, hasAt, lb]
  | cons x xs ih =>
    have hp := List.pairwise_cons.1 (risesM_iff.1 hr)
    by_cases hx : lt x.1 k = true
    · have hne : eq x.1 k = false := by
        cases hc : eq x.1 k with
        | false => rfl
        | true => rw [(he _ _).1 hc, O.irrefl] at hx; cases hx
      have hlb : lb lt ((x :: xs).map Prod.fst) k = lb lt (xs.map Prod.fst) k + 1 := by simp [lb, List.takeWhile_cons, hx]
      have hh : hasAt lt eq ((x :: xs).map Prod.fst) k = hasAt lt eq (xs.map Prod.fst) k := by unfold hasAt; rw [hlb]; simp
      have e : withoutG lt eq (x :: xs) k = x :: withoutG lt eq xs k := by
        unfold withoutG
        rw [hh, hlb]
        split <;> simp
      rw [e, ih (risesM_iff.2 hp.2), List.filter_cons, hne]
      simp
    · have hx' : lt x.1 k = false := by simpa using hx
      have hlb : lb lt ((x :: xs).map Prod.fst) k = 0 := by simp [lb, List.takeWhile_cons, hx']
      have hh : hasAt lt eq ((x :: xs).map Prod.fst) k = eq x.1 k := by unfold hasAt; rw [hlb]; simp
      have hne : ∀ y ∈ xs, eq y.1 k = false := by
        intro y hy
        cases hc : eq y.1 k with
        | false => rfl
        | true =>
          have h1 := hp.1 y hy
          rw [(he _ _).1 hc, hx'] at h1; cases h1
      unfold withoutG
      rw [hh, hlb, List.filter_cons, filter_all' (l := xs) (fun y hy => by rw [hne y hy]; rfl)]
      cases heq : eq x.1 k <;> simp
theorem with_rises (O : StrictOrd lt) (he : ∀ a b, eq a b = true ↔ a = b) {m : List (α × β)} (hr : RisesM lt m) (k : α) (v : β) : RisesM lt (withG lt eq m k v) := by
  rw [with_eq O he hr]
  have h0 := risesM_iff.1 hr
  refine risesM_iff.2 ?_
  rw [List.append_assoc, List.pairwise_append]
  refine ⟨h0.sublist List.filter_sublist, ?_, ?_⟩
  · rw [List.cons_append, List.nil_append, List.pairwise_cons]
    exact ⟨fun y hy => (List.mem_filter.1 hy).2, h0.sublist List.filter_sublist⟩
  · intro a ha b hb
    have ha := (List.mem_filter.1 ha).2
    rcases List.mem_append.1 hb with hb | hb
    · obtain rfl : b = (k, v) := by simpa using hb
      exact ha
    · exact O.trans _ _ _ ha (List.mem_filter.1 hb).2
theorem without_rises (O : StrictOrd lt) (he : ∀ a b, eq a b = true ↔ a = b) {m : List (α × β)} (hr : RisesM lt m) (k : α) : RisesM lt (withoutG lt eq m k) := by
  rw [without_eq O he hr]
  exact risesM_iff.2 ((risesM_iff.1 hr).sublist List.filter_sublist)
/-- What is found is what is there. -/
theorem get_mem (O : StrictOrd lt) (he : ∀ a b, eq a b = true ↔ a = b) {m : List (α × β)} (hr : RisesM lt m) {k : α} {v none : β} (h : (k, v) ∈ m) : getG lt eq none m k = (v, true) := by
  obtain ⟨i, hi, hiv⟩ := List.mem_iff_getElem.1 h
  have hmk : k ∈ m.map Prod.fst := List.mem_map.2 ⟨_, h, rfl⟩
  have hh := (hasAt_iff O he hr).2 hmk
  have hki : (m.map Prod.fst)[i]'(by simpa using hi) = k := by simp [hiv]
  have hlb : lb lt (m.map Prod.fst) k = i := by
    have hl : lb lt (m.map Prod.fst) k < (m.map Prod.fst).length := by
      apply Nat.lt_of_not_le
      intro hc
      rw [hasAt_ge (by omega)] at hh; cases hh
    rw [hasAt_lt hl] at hh
    have h2 := (he _ _).1 hh
    rcases Nat.lt_trichotomy (lb lt (m.map Prod.fst) k) i with h3 | h3 | h3
    · have := List.pairwise_iff_getElem.1 hr _ _ hl (by simpa using hi) h3
      rw [h2, hki, O.irrefl] at this; cases this
    · exact h3
    · have := List.pairwise_iff_getElem.1 hr _ _ (by simpa using hi) hl h3
      rw [h2, hki, O.irrefl] at this; cases this
  unfold getG
  rw [if_pos hh, hlb, List.getD_eq_getElem?_getD, List.getElem?_map, List.getElem?_eq_getElem hi, hiv]
  rfl
theorem get_none (O : StrictOrd lt) (he : ∀ a b, eq a b = true ↔ a = b) {m : List (α × β)} (hr : RisesM lt m) {k : α} {none : β} (h : k ∉ m.map Prod.fst) : getG lt eq none m k = (none, false) := by
  unfold getG
  rw [if_neg (fun hc => h ((hasAt_iff O he hr).1 hc))]
theorem get_with (O : StrictOrd lt) (he : ∀ a b, eq a b = true ↔ a = b) {m : List (α × β)} (hr : RisesM lt m) (k : α) (v none : β) : getG lt eq none (withG lt eq m k v) k = (v, true) :=
  get_mem O he (with_rises O he hr k v) (by rw [with_eq O he hr]; simp)
theorem mem_with (O : StrictOrd lt) (he : ∀ a b, eq a b = true ↔ a = b) {m : List (α × β)} (hr : RisesM lt m) {k : α} {v : β} {p : α × β} : p ∈ withG lt eq m k v ↔ p = (k, v) ∨ (p ∈ m ∧ p.1 ≠ k) := by
  rw [with_eq O he hr]
  simp only [List.mem_append, List.mem_filter, List.mem_singleton]
  constructor
  · rintro ((⟨h1, h2⟩ | h) | ⟨h1, h2⟩)
    · exact .inr ⟨h1, fun hc => by rw [hc, O.irrefl] at h2; cases h2⟩
    · exact .inl h
    · exact .inr ⟨h1, fun hc => by rw [hc, O.irrefl] at h2; cases h2⟩
  · rintro (h | ⟨h1, h2⟩)
    · exact .inl (.inr h)
    · cases ha : lt p.1 k with
      | true => exact .inl (.inl ⟨h1, rfl⟩)
      | false =>
        cases hb : lt k p.1 with
        | true => exact .inr ⟨h1, rfl⟩
        | false => exact absurd (O.total _ _ ha hb) h2
end
end Go.Proofs.Ytljgfapbbhbbpaa
namespace Go.Proofs.Ytljgfapbbhbbpaa
open Go Go.Proofs.Ytljgfapbbhbbpaa.Sym
set_option maxRecDepth 100000
set_option linter.unusedSimpArgs false
set_option linter.unusedVariables false

abbrev u64 (n : Int) : AV := .v (.int .u64 n)
abbrev i64 (n : Int) : AV := .v (.int .i64 n)
abbrev bool (b : Bool) : AV := .v (.bool b)
abbrev str (s : ByteArray) : AV := .v (.string s)
theorem wrap_i64 {n : Int} (h1 : -9223372036854775808 ≤ n) (h2 : n ≤ 9223372036854775807) : IntKind.i64.wrap n = n := by rw [IntKind.wrap_i64]; omega
theorem wrap_u64 {n : Int} (h1 : 0 ≤ n) (h2 : n ≤ 18446744073709551615) : IntKind.u64.wrap n = n := by rw [IntKind.wrap_u64]; omega
theorem at_map {α : Type} {l : List α} {f : α → AV} {i : Nat} (h : i < l.length) : (l.map f).getD (Int.toNat (i : Int)) .any = f l[i] := by
  simp [List.getD_eq_getElem?_getD, List.getElem?_eq_getElem h]
theorem set_same_map {α : Type} {l : List α} {f : α → AV} {i : Nat} (h : i < l.length) {x : AV} (hx : x = f l[i]) : (l.map f).set i x = l.map f := by
  subst hx
  apply List.ext_getElem?
  intro j
  by_cases hj : i = j
  · subst hj
    rw [List.getElem?_set_self (by simpa using h), List.getElem?_map, List.getElem?_eq_getElem h]; rfl
  · rw [List.getElem?_set_ne hj]
theorem cut_last {i sz : Nat} {f : AV} {xs : List AV} (h : i < xs.length) : (if 0 + (xs.length - 1) ≤ (xs.take i ++ xs.drop (i + 1) ++ [f]).length then AV.sl sz ((xs.take i ++ xs.drop (i + 1) ++ [f]).take (xs.length - 1)) else .any) = .sl sz (xs.take i ++ xs.drop (i + 1)) := by
  rw [if_pos (by simp; omega), List.take_append_of_le_length (by simp; omega), List.take_of_length_le (by simp; omega)]
theorem half_idx {i j : Nat} (h : i + j ≤ 9223372036854775807) (hij : i < j) : i ≤ (i + j) / 2 ∧ (i + j) / 2 < j ∧ IntKind.i64.wrap (shrF .u64 (IntKind.u64.wrap (IntKind.i64.wrap ((i : Int) + (j : Int)))) 1) = (((i + j) / 2 : Nat) : Int) := by
  refine ⟨by omega, by omega, ?_⟩
  have e : IntKind.i64.wrap ((i : Int) + (j : Int)) = ((i + j : Nat) : Int) := by rw [wrap_i64 (by omega) (by omega)]; rfl
  rw [e, wrap_u64 (by omega) (by omega)]
  have e2 : shrF .u64 ((i + j : Nat) : Int) 1 = (((i + j) / 2 : Nat) : Int) := by
    show ((i + j : Nat) : Int).fdiv (2 ^ 1) = _
    rw [Int.fdiv_eq_ediv_of_nonneg _ (by decide)]
    omega
  rw [e2, wrap_i64 (by omega) (by omega)]

theorem cmpNaN_int (a : Int) : PCall P 124 [i64 a] (fun x => x = bool false) := by
  refine pcall_go tyOk Try.func124 rfl rfl ?_
  intro K hK
  simp only [Try.ntmps124, List.length_cons, List.length_nil, Nat.reduceAdd, Nat.reduceSub, List.replicate, List.cons_append, List.nil_append]
  try simp (maxSteps := 1000000) only [go_region, go_seq, go_ret, go_ops_nil, go_op, opK_none, contK_some, callOf, fstep, fpre, fstep0, fbinA, fbin, fbin0, St.ev, St.put, List.getD_cons_zero, List.getD_cons_succ, List.set, true_and, Bool.true_and, bne_self_eq_false]
  apply hK
  simp only [Try.results124, retK, ares, List.take_nil, Bool.and_true, Bool.true_and, AV.ofResults, St.trunc, truncVs, truncV, List.getD_cons_zero, List.getD_cons_succ, List.map_nil, true_and, and_true, List.cons.injEq, exists_eq_left']
theorem cmpNaN_str (a : ByteArray) : PCall P 126 [str a] (fun x => x = bool false) := by
  refine pcall_go tyOk Try.func126 rfl rfl ?_
  intro K hK
  simp only [Try.ntmps126, List.length_cons, List.length_nil, Nat.reduceAdd, Nat.reduceSub, List.replicate, List.cons_append, List.nil_append]
  try simp (maxSteps := 1000000) only [go_region, go_seq, go_ret, go_ops_nil, go_op, opK_none, contK_some, callOf, fstep, fpre, fstep0, fbinA, fbin, fbin0, St.ev, St.put, List.getD_cons_zero, List.getD_cons_succ, List.set, true_and, Bool.true_and, Bool.not_true, beq_self_eq_true]
  apply hK
  simp only [Try.results126, retK, ares, List.take_nil, Bool.and_true, Bool.true_and, AV.ofResults, St.trunc, truncVs, truncV, List.getD_cons_zero, List.getD_cons_succ, List.map_nil, true_and, and_true, List.cons.injEq, exists_eq_left']
theorem slicesNaN_str (a : ByteArray) : PCall P 119 [str a] (fun x => x = bool false) := by
  refine pcall_go tyOk Try.func119 rfl rfl ?_
  intro K hK
  simp only [Try.ntmps119, List.length_cons, List.length_nil, Nat.reduceAdd, Nat.reduceSub, List.replicate, List.cons_append, List.nil_append]
  try simp (maxSteps := 1000000) only [go_region, go_seq, go_ret, go_ops_nil, go_op, opK_none, contK_some, callOf, fstep, fpre, fstep0, fbinA, fbin, fbin0, St.ev, St.put, List.getD_cons_zero, List.getD_cons_succ, List.set, true_and, Bool.true_and, Bool.not_true, beq_self_eq_true]
  apply hK
  simp only [Try.results119, retK, ares, List.take_nil, Bool.and_true, Bool.true_and, AV.ofResults, St.trunc, truncVs, truncV, List.getD_cons_zero, List.getD_cons_succ, List.map_nil, true_and, and_true, List.cons.injEq, exists_eq_left']
theorem less_str (a b : ByteArray) : PCall P 118 [str a, str b] (fun x => x = bool (ltS a b)) := by
  refine pcall_go tyOk Try.func118 rfl rfl ?_
  intro K hK
  simp only [Try.ntmps118, List.length_cons, List.length_nil, Nat.reduceAdd, Nat.reduceSub, List.replicate, List.cons_append, List.nil_append]
  try simp (maxSteps := 1000000) only [go_region, go_seq, go_ops_nil, go_op, opK_none, opK_some, contK_some, callOf, callK_eq, callJ_nil, callD_fn, fstep, fpre, fstep0, evs, St.ev, St.put, AV.owners, ownersAll, List.getD_cons_zero, List.getD_cons_succ, List.set, List.append_nil, true_and, Bool.true_and]
  (refine callG_use (cmpNaN_str a) rfl ?_; rintro _ rfl)
  try simp (maxSteps := 1000000) only [go_ret, go_ops_nil, go_op, go_guard, opK_none, contK_some, guardK_eq, guardV_ft, guardV_ff, undef, callOf, fstep, fpre, fstep0, fbinA, fbin, fbin0, fpick, St.ev, St.put, List.getD_cons_zero, List.getD_cons_succ, List.set, List.getElem?_cons_zero, List.getElem?_cons_succ, Option.bind_some, List.getElem?_toArray, true_and, Bool.true_and, Bool.false_eq_true, ↓reduceIte, cond_false]
  apply hK
  simp only [Try.results118, retK, ares, List.take_nil, Bool.and_true, Bool.true_and, AV.ofResults, St.trunc, truncVs, truncV, List.getD_cons_zero, List.getD_cons_succ, List.map_nil, true_and, and_true, List.cons.injEq, exists_eq_left']
  rfl
/-- The library's search in a slice whose elements rise. -/
theorem search_str (ks : List ByteArray) (hr : Rises ltS ks) (k : ByteArray) (hlen : ks.length ≤ 1000000) :
    PCall P 102 [.sl 1 (ks.map fun x => str x), str k] (fun x => x = .tup [i64 ((lb ltS ks k : Nat) : Int), bool (hasAt ltS eqS ks k)]) := by
  refine pcall_go tyOk Try.func102 rfl rfl ?_
  intro K hK
  simp only [Try.ntmps102, List.length_cons, List.length_nil, Nat.reduceAdd, Nat.reduceSub, List.replicate, List.cons_append, List.nil_append]
  try simp (maxSteps := 1000000) only [go_region, go_seq, go_block, go_loop, go_ops_nil, go_op, opK_none, contK_some, callOf, fstep, fpre, fstep0, flen, T, St.ev, St.put, List.getD_cons_zero, List.getD_cons_succ, List.set, true_and, Bool.true_and, List.length_map]
  have hle := lb_le (lt := ltS) ks k
  refine loopK_rule tyOk (α := Nat × Nat) 0 [0, 1, 4, 5, 6, 7, 8] (fun q => q.1 ≤ lb ltS ks k ∧ lb ltS ks k ≤ q.2 ∧ q.2 ≤ ks.length)
    (fun q => ⟨[.sl 1 (ks.map fun x => str x), str k, .any, .any, i64 0, bool false, i64 ks.length, i64 q.1, i64 q.2, .any, .any, .any, .any, .any, .any, .any, .any, .any, .any, .any, .any, .any, .any, .any, .any, .any, .any, .any, .any, .any, .any, .any, .any, .any, .any, .any, .any, .any, .any, .any, .any, .any, .any, .any, .any, .any, .any, .any, .any, .any, .any, .any, .any, .any], []⟩)
    (fun q => q.2 - q.1) (0, ks.length) (Nat.zero_le _) ⟨Nat.zero_le _, hle, Nat.le_refl _⟩ rfl ?_
  rintro ⟨i, j⟩ ⟨h1, h2, h3⟩
  simp only at h1 h2 h3
  try simp (maxSteps := 1000000) only [go_region, go_seq, go_cond, go_ops_nil, go_op, opK_none, contK_some, callOf, fstep, fpre, fstep0, fbinA, fbin, fbin0, St.ev, St.put, List.getD_cons_zero, List.getD_cons_succ, List.set, true_and, Bool.true_and]
  (first | refine guardV_split ?_ ?_ | refine condK_split ?_ ?_ | refine drawV_split ?_ ?_ | refine condY_split ?_ ?_ | refine guardY_split ?_ ?_) <;> intro hc <;> try simp (maxSteps := 1000000) only [go_skip, go_region, go_seq, go_block, go_exit, exitK_code, exitK_blk, exitK_nil, go_ops_nil, go_op, go_guard, opK_none, opK_some, contK_some, condK_t, condK_f, guardK_eq, callOf, callK_eq, fstep, fpre, fstep0, fbinA, gbin, gbits, gnil, fbin, fbin0, fload, fcell, findexAddr, fconvA, fconvert, evs, T, TI.isAgg, St.ev, St.put, AV.cells, AV.known, AV.owners, ownersAll, Value.cells, List.getD_cons_zero, List.getD_cons_succ, List.set, List.append_nil, List.getElem?_cons_zero, List.getElem?_cons_succ, Option.bind_some, List.getElem?_toArray, true_and, Bool.true_and, Bool.false_eq_true, ↓reduceIte, Int.reduceLE, loopX_exit]
  · have hij : i < j := by simpa using hc
    obtain ⟨hh, hlt, ew⟩ := half_idx (i := i) (j := j) (by omega) hij
    have hhn : (i + j) / 2 < ks.length := by omega
    have eg := at_map (f := fun x : ByteArray => str x) hhn
    have k1 : (0 : Int) ≤ (((i + j) / 2 : Nat) : Int) ∧ Int.toNat (((i + j) / 2 : Nat) : Int) < ks.length := by omega
    have w1 : IntKind.i64.wrap ((((i + j) / 2 : Nat) : Int) + 1) = (((i + j) / 2 + 1 : Nat) : Int) := by rw [wrap_i64 (by omega) (by omega)]; rfl
    try simp (maxSteps := 1000000) only [callJ_nil, callD_fn, evs, St.ev, AV.owners, List.getD_cons_zero, List.getD_cons_succ, List.map_cons, List.map_nil, List.length_cons, List.length_nil, List.headD_cons, List.append_nil, true_and, and_true, Bool.and_true, Bool.true_and, Nat.reduceLT, Nat.zero_add, ew, eg, k1, List.length_map]
    (refine callG_use (less_str _ k) rfl ?_; rintro _ rfl)
    cases hl : ltS ks[(i + j) / 2] k
    · try simp (maxSteps := 1000000) only [go_nil, go_region, go_cond, go_blk, go_ops_nil, go_op, opK_none, contK_some, condK_f, callOf, fstep, fpre, fstep0, St.ev, St.put, List.getD_cons_zero, List.getD_cons_succ, List.set, true_and, Bool.true_and]
      simp only [loopX_normal, St.trunc, St.keep, truncVs, truncV, keepV, List.elem_cons, List.elem_nil, List.take_zero, List.map_nil, Nat.reduceAdd, Nat.reduceBEq, Nat.zero_add, Bool.false_eq_true, ↓reduceIte]
      refine ⟨(i, (i + j) / 2), ⟨h1, ?_, by omega⟩, by simp only; omega, rfl⟩
      apply Nat.le_of_not_lt
      intro hb
      have := lb_lt (lt := ltS) hb
      rw [hl] at this; cases this
    · try simp (maxSteps := 1000000) only [go_nil, go_region, go_cond, go_blk, go_ops_nil, go_op, opK_none, contK_some, condK_t, callOf, fstep, fpre, fstep0, fbinA, fbin, fbin0, St.ev, St.put, List.getD_cons_zero, List.getD_cons_succ, List.set, true_and, Bool.true_and, w1]
      simp only [loopX_normal, St.trunc, St.keep, truncVs, truncV, keepV, List.elem_cons, List.elem_nil, List.take_zero, List.map_nil, Nat.reduceAdd, Nat.reduceBEq, Nat.zero_add, Bool.false_eq_true, ↓reduceIte]
      refine ⟨((i + j) / 2 + 1, j), ⟨?_, h2, h3⟩, by simp only; omega, rfl⟩
      apply Nat.lt_of_not_le
      intro hb
      have := lb_ge ordS hr hhn hb
      rw [hl] at this; cases this
  · have hij : ¬ i < j := by simpa using hc
    obtain rfl : i = lb ltS ks k := by omega
    by_cases hn : lb ltS ks k < ks.length
    · have eg := at_map (f := fun x : ByteArray => str x) hn
      have k1 : (0 : Int) ≤ ((lb ltS ks k : Nat) : Int) ∧ Int.toNat ((lb ltS ks k : Nat) : Int) < ks.length := by omega
      have d1 : decide (((lb ltS ks k : Nat) : Int) < (ks.length : Int)) = true := decide_eq_true (by omega)
      have hh := hasAt_lt (eq := eqS) hn
      rw [hh] at hK
      cases he : eqS ks[lb ltS ks k] k
      · rw [he] at hK
        have he' := he
        simp only [eqS] at he'
        try simp (maxSteps := 1000000) only [go_guard, opK_none, opK_some, contK_some, guardK_eq, guardV_tt, guardV_ff, callOf, callK_eq, callJ_nil, callD_fn, fstep, fpre, fstep0, fbinA, fbin, fbin0, fload, fcell, findexAddr, evs, T, TI.isAgg, St.ev, St.put, AV.cells, AV.known, AV.owners, ownersAll, Value.cells, List.getD_cons_zero, List.getD_cons_succ, List.set, List.map_cons, List.map_nil, List.length_cons, List.length_nil, List.headD_cons, List.append_nil, List.getElem?_cons_zero, List.getElem?_cons_succ, Option.bind_some, List.getElem?_toArray, true_and, and_true, Bool.and_true, Bool.true_and, Bool.false_eq_true, ↓reduceIte, Nat.reduceLT, Nat.zero_add, d1, eg, k1, List.length_map, he']
        (refine callG_use (slicesNaN_str _) rfl ?_; rintro _ rfl)
        try simp (maxSteps := 1000000) only [go_ret, go_ops_nil, go_op, go_guard, opK_none, contK_some, guardK_eq, guardV_tt, guardV_ft, guardV_ff, undef, callOf, fstep, fpre, fstep0, fpick, St.ev, St.put, List.getD_cons_zero, List.getD_cons_succ, List.set, List.getElem?_cons_zero, List.getElem?_cons_succ, Option.bind_some, List.getElem?_toArray, true_and, Bool.true_and, Bool.false_eq_true, ↓reduceIte, cond_true, cond_false]
        apply hK
        simp only [Try.results102, retK, ares, List.take_nil, Bool.and_true, Bool.true_and, AV.ofResults, St.trunc, truncVs, truncV, List.getD_cons_zero, List.getD_cons_succ, List.map_nil, true_and, and_true, List.cons.injEq, exists_eq_left']
      · rw [he] at hK
        have he' := he
        simp only [eqS] at he'
        try simp (maxSteps := 1000000) only [go_ret, go_ops_nil, go_op, go_guard, opK_none, contK_some, guardK_eq, guardV_tt, guardV_tf, guardV_u, undef, callOf, fstep, fpre, fstep0, fbinA, fbin, fbin0, fload, fcell, findexAddr, fpick, T, TI.isAgg, St.ev, St.put, AV.cells, AV.known, Value.cells, List.getD_cons_zero, List.getD_cons_succ, List.set, List.map_cons, List.map_nil, List.length_cons, List.length_nil, List.headD_cons, List.getElem?_cons_zero, List.getElem?_cons_succ, Option.bind_some, List.getElem?_toArray, true_and, and_true, Bool.and_true, Bool.true_and, Bool.false_eq_true, ↓reduceIte, Nat.reduceLT, Nat.zero_add, cond_true, d1, eg, k1, List.length_map, he']
        apply hK
        simp only [Try.results102, retK, ares, List.take_nil, Bool.and_true, Bool.true_and, AV.ofResults, St.trunc, truncVs, truncV, List.getD_cons_zero, List.getD_cons_succ, List.map_nil, true_and, and_true, List.cons.injEq, exists_eq_left']
    · have d1 : decide (((lb ltS ks k : Nat) : Int) < (ks.length : Int)) = false := decide_eq_false (by omega)
      rw [hasAt_ge hn] at hK
      try simp (maxSteps := 1000000) only [go_ret, go_ops_nil, go_op, go_guard, opK_none, contK_some, guardK_eq, guardV_ft, guardV_u, undef, callOf, fstep, fpre, fstep0, fpick, St.ev, St.put, List.getD_cons_zero, List.getD_cons_succ, List.set, List.getElem?_cons_zero, List.getElem?_cons_succ, Option.bind_some, List.getElem?_toArray, true_and, Bool.true_and, Bool.false_eq_true, ↓reduceIte, d1]
      apply hK
      simp only [Try.results102, retK, ares, List.take_nil, Bool.and_true, Bool.true_and, AV.ofResults, St.trunc, truncVs, truncV, List.getD_cons_zero, List.getD_cons_succ, List.map_nil, true_and, and_true, List.cons.injEq, exists_eq_left']

end Go.Proofs.Ytljgfapbbhbbpaa
namespace Go.Proofs.Ytljgfapbbhbbpaa
open Go Go.Proofs.Ytljgfapbbhbbpaa.Sym
set_option maxRecDepth 100000
set_option linter.unusedSimpArgs false
set_option linter.unusedVariables false

structure Pr where
  st : Int
  pr : Int
  n : Int
  deriving DecidableEq
def Pr.av (p : Pr) : AV := .agg [i64 p.st, i64 p.pr, i64 p.n]
structure Chg where
  u : ByteArray
  old : Pr
  new : Pr
  deriving DecidableEq
def Chg.av (c : Chg) : AV := .agg [str c.u, i64 c.old.st, i64 c.old.pr, i64 c.old.n, i64 c.new.st, i64 c.new.pr, i64 c.new.n]
def chgs (l : List Chg) : List AV := l.map Chg.av
theorem chgs_len (l : List Chg) : (chgs l).length = l.length := by simp [chgs]
theorem pr_beq (a b : Pr) : (a.st == b.st && (a.pr == b.pr && a.n == b.n)) = decide (a = b) := by
  cases a; cases b
  rw [Bool.eq_iff_iff]
  simp
end Go.Proofs.Ytljgfapbbhbbpaa
