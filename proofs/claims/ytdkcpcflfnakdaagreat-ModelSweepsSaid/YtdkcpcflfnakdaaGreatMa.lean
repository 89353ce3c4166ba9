/- A text of the walk that proves a law of this seat; joined by a program. -/
import Derived.Test.YtdkcpcflfnakdaaGreatProg
import Derived.Test.YtdkcpcflfnakdaaGreatSymZj
import Derived.KernelRfl
import Derived.Test.YtdkcpcflfnakdaaGreatSymU
set_option linter.unusedSimpArgs false
set_option linter.unusedVariables false
namespace Go.Proofs.YtdkcpcflfnakdaaGreat
open Go Go.Proofs.YtdkcpcflfnakdaaGreat.Sym
set_option maxRecDepth 100000
noncomputable abbrev P : Program := Tryz.prog
def T : TypeId → Option TI
  | 3 => some { desc := (.int .i64), size := 1, bytes := 8, zero := [.int .i64 0] }
  | 4 => some { desc := .bool, size := 1, bytes := 1, zero := [.bool false] }
  | 5 => some { desc := (.int .u8), size := 1, bytes := 1, zero := [.int .u8 0] }
  | 9 => some { desc := .string, size := 1, bytes := 16, zero := [.string .empty] }
  | 22 => some { desc := (.int .u64), size := 1, bytes := 8, zero := [.int .u64 0] }
  | 23 => some { desc := (.slice 9), size := 1, bytes := 24, zero := [.slice none 0 0] }
  | 25 => some { desc := (.struct #[{ name := "Kind", type := 3, offset := 0, embedded := false, tag := "", pkgPath := "", byteOffset := 0 }, { name := "User", type := 9, offset := 1, embedded := false, tag := "", pkgPath := "", byteOffset := 8 }, { name := "Id", type := 3, offset := 2, embedded := false, tag := "", pkgPath := "", byteOffset := 24 }, { name := "Status", type := 3, offset := 3, embedded := false, tag := "", pkgPath := "", byteOffset := 32 }, { name := "Prio", type := 3, offset := 4, embedded := false, tag := "", pkgPath := "", byteOffset := 40 }, { name := "Ttl", type := 22, offset := 5, embedded := false, tag := "", pkgPath := "", byteOffset := 48 }, { name := "Users", type := 23, offset := 6, embedded := false, tag := "", pkgPath := "", byteOffset := 56 }]), size := 7, bytes := 80, zero := [.int .i64 0, .string .empty, .int .i64 0, .int .i64 0, .int .i64 0, .int .u64 0, .slice none 0 0] }
  | 29 => some { desc := (.slice 46), size := 1, bytes := 24, zero := [.slice none 0 0] }
  | 31 => some { desc := (.pointer 75), size := 1, bytes := 8, zero := [.pointer none] }
  | 32 => some { desc := (.int .i64), size := 1, bytes := 8, zero := [.int .i64 0] }
  | 36 => some { desc := (.struct #[{ name := "Stripes", type := 3, offset := 0, embedded := false, tag := "", pkgPath := "", byteOffset := 0 }, { name := "Sessions", type := 3, offset := 1, embedded := false, tag := "", pkgPath := "", byteOffset := 8 }, { name := "Queue", type := 3, offset := 2, embedded := false, tag := "", pkgPath := "", byteOffset := 16 }, { name := "Watches", type := 3, offset := 3, embedded := false, tag := "", pkgPath := "", byteOffset := 24 }, { name := "Retries", type := 3, offset := 4, embedded := false, tag := "", pkgPath := "", byteOffset := 32 }, { name := "Epochs", type := 22, offset := 5, embedded := false, tag := "", pkgPath := "", byteOffset := 40 }, { name := "Start", type := 22, offset := 6, embedded := false, tag := "", pkgPath := "", byteOffset := 48 }]), size := 7, bytes := 56, zero := [.int .i64 0, .int .i64 0, .int .i64 0, .int .i64 0, .int .i64 0, .int .u64 0, .int .u64 0] }
  | 38 => some { desc := (.slice 44), size := 1, bytes := 24, zero := [.slice none 0 0] }
  | 39 => some { desc := (.slice 49), size := 1, bytes := 24, zero := [.slice none 0 0] }
  | 41 => some { desc := (.struct #[{ name := "Err", type := 32, offset := 0, embedded := false, tag := "", pkgPath := "", byteOffset := 0 }, { name := "Values", type := 38, offset := 1, embedded := false, tag := "", pkgPath := "", byteOffset := 8 }, { name := "Events", type := 39, offset := 2, embedded := false, tag := "", pkgPath := "", byteOffset := 32 }, { name := "Lost", type := 4, offset := 3, embedded := false, tag := "", pkgPath := "", byteOffset := 56 }]), size := 4, bytes := 64, zero := [.int .i64 0, .slice none 0 0, .slice none 0 0, .bool false] }
  | 44 => some { desc := (.struct #[{ name := "Status", type := 3, offset := 0, embedded := false, tag := "", pkgPath := "", byteOffset := 0 }, { name := "Prio", type := 3, offset := 1, embedded := false, tag := "", pkgPath := "", byteOffset := 8 }, { name := "Live", type := 3, offset := 2, embedded := false, tag := "", pkgPath := "", byteOffset := 16 }]), size := 3, bytes := 24, zero := [.int .i64 0, .int .i64 0, .int .i64 0] }
  | 46 => some { desc := (.struct #[{ name := "Do", type := 5, offset := 0, embedded := false, tag := "", pkgPath := "", byteOffset := 0 }, { name := "Who", type := 3, offset := 1, embedded := false, tag := "", pkgPath := "", byteOffset := 8 }, { name := "Op", type := 25, offset := 2, embedded := false, tag := "", pkgPath := "", byteOffset := 16 }, { name := "By", type := 22, offset := 9, embedded := false, tag := "", pkgPath := "", byteOffset := 96 }]), size := 10, bytes := 104, zero := [.int .u8 0, .int .i64 0, .int .i64 0, .string .empty, .int .i64 0, .int .i64 0, .int .i64 0, .int .u64 0, .slice none 0 0, .int .u64 0] }
  | 49 => some { desc := (.struct #[{ name := "User", type := 9, offset := 0, embedded := false, tag := "", pkgPath := "", byteOffset := 0 }, { name := "Old", type := 44, offset := 1, embedded := false, tag := "", pkgPath := "", byteOffset := 16 }, { name := "New", type := 44, offset := 4, embedded := false, tag := "", pkgPath := "", byteOffset := 40 }, { name := "Seq", type := 22, offset := 7, embedded := false, tag := "", pkgPath := "", byteOffset := 64 }]), size := 8, bytes := 72, zero := [.string .empty, .int .i64 0, .int .i64 0, .int .i64 0, .int .i64 0, .int .i64 0, .int .i64 0, .int .u64 0] }
  | 52 => some { desc := (.struct #[{ name := "Now", type := 22, offset := 0, embedded := false, tag := "", pkgPath := "", byteOffset := 0 }, { name := "Seq", type := 22, offset := 1, embedded := false, tag := "", pkgPath := "", byteOffset := 8 }, { name := "Closed", type := 4, offset := 2, embedded := false, tag := "", pkgPath := "", byteOffset := 16 }]), size := 3, bytes := 24, zero := [.int .u64 0, .int .u64 0, .bool false] }
  | 57 => some { desc := (.pointer 65), size := 1, bytes := 8, zero := [.pointer none] }
  | 62 => some { desc := (.slice 96), size := 1, bytes := 24, zero := [.slice none 0 0] }
  | 63 => some { desc := (.slice 88), size := 1, bytes := 24, zero := [.slice none 0 0] }
  | 65 => some { desc := (.struct #[{ name := "C", type := 36, offset := 0, embedded := false, tag := "", pkgPath := "", byteOffset := 0 }, { name := "T", type := 52, offset := 7, embedded := false, tag := "", pkgPath := "", byteOffset := 56 }, { name := "Books", type := 62, offset := 10, embedded := false, tag := "", pkgPath := "", byteOffset := 80 }, { name := "Feeds", type := 63, offset := 11, embedded := false, tag := "", pkgPath := "", byteOffset := 104 }]), size := 12, bytes := 128, zero := [.int .i64 0, .int .i64 0, .int .i64 0, .int .i64 0, .int .i64 0, .int .u64 0, .int .u64 0, .int .u64 0, .int .u64 0, .bool false, .slice none 0 0, .slice none 0 0] }
  | 68 => some { desc := (.slice 5), size := 1, bytes := 24, zero := [.slice none 0 0] }
  | 72 => some { desc := (.slice 87), size := 1, bytes := 24, zero := [.slice none 0 0] }
  | 73 => some { desc := (.slice 76), size := 1, bytes := 24, zero := [.slice none 0 0] }
  | 75 => some { desc := (.struct #[{ name := "c", type := 36, offset := 0, embedded := false, tag := "", pkgPath := "doorman/model", byteOffset := 0 }, { name := "time", type := 52, offset := 7, embedded := false, tag := "", pkgPath := "doorman/model", byteOffset := 56 }, { name := "books", type := 72, offset := 10, embedded := false, tag := "", pkgPath := "doorman/model", byteOffset := 80 }, { name := "feeds", type := 73, offset := 11, embedded := false, tag := "", pkgPath := "doorman/model", byteOffset := 104 }]), size := 12, bytes := 128, zero := [.int .i64 0, .int .i64 0, .int .i64 0, .int .i64 0, .int .i64 0, .int .u64 0, .int .u64 0, .int .u64 0, .int .u64 0, .bool false, .slice none 0 0, .slice none 0 0] }
  | 76 => some { desc := (.pointer 126), size := 1, bytes := 8, zero := [.pointer none] }
  | 85 => some { desc := (.slice 138), size := 1, bytes := 24, zero := [.slice none 0 0] }
  | 87 => some { desc := (.struct #[{ name := "keys", type := 23, offset := 0, embedded := false, tag := "", pkgPath := "doorman/omap", byteOffset := 0 }, { name := "values", type := 85, offset := 1, embedded := false, tag := "", pkgPath := "doorman/omap", byteOffset := 24 }]), size := 2, bytes := 48, zero := [.slice none 0 0, .slice none 0 0] }
  | 88 => some { desc := (.pointer 93), size := 1, bytes := 8, zero := [.pointer none] }
  | 89 => some { desc := (.slice 156), size := 1, bytes := 24, zero := [.slice none 0 0] }
  | 90 => some { desc := (.array 8 39), size := 8, bytes := 192, zero := [.slice none 0 0, .slice none 0 0, .slice none 0 0, .slice none 0 0, .slice none 0 0, .slice none 0 0, .slice none 0 0, .slice none 0 0] }
  | 91 => some { desc := (.array 8 4), size := 8, bytes := 8, zero := [.bool false, .bool false, .bool false, .bool false, .bool false, .bool false, .bool false, .bool false] }
  | 93 => some { desc := (.struct #[{ name := "Room", type := 3, offset := 0, embedded := false, tag := "", pkgPath := "", byteOffset := 0 }, { name := "Pairs", type := 89, offset := 1, embedded := false, tag := "", pkgPath := "", byteOffset := 8 }, { name := "Queues", type := 90, offset := 2, embedded := false, tag := "", pkgPath := "", byteOffset := 32 }, { name := "Lost", type := 91, offset := 10, embedded := false, tag := "", pkgPath := "", byteOffset := 224 }]), size := 18, bytes := 232, zero := [.int .i64 0, .slice none 0 0, .slice none 0 0, .slice none 0 0, .slice none 0 0, .slice none 0 0, .slice none 0 0, .slice none 0 0, .slice none 0 0, .slice none 0 0, .bool false, .bool false, .bool false, .bool false, .bool false, .bool false, .bool false, .bool false] }
  | 96 => some { desc := (.slice 115), size := 1, bytes := 24, zero := [.slice none 0 0] }
  | 97 => some { desc := (.slice 145), size := 1, bytes := 24, zero := [.slice none 0 0] }
  | 101 => some { desc := (.slice 39), size := 1, bytes := 24, zero := [.slice none 0 0] }
  | 113 => some { desc := (.slice 151), size := 1, bytes := 24, zero := [.slice none 0 0] }
  | 115 => some { desc := (.struct #[{ name := "Name", type := 9, offset := 0, embedded := false, tag := "", pkgPath := "", byteOffset := 0 }, { name := "Sessions", type := 113, offset := 1, embedded := false, tag := "", pkgPath := "", byteOffset := 16 }, { name := "Told", type := 44, offset := 2, embedded := false, tag := "", pkgPath := "", byteOffset := 40 }]), size := 5, bytes := 64, zero := [.string .empty, .slice none 0 0, .int .i64 0, .int .i64 0, .int .i64 0] }
  | 116 => some { desc := (.slice 163), size := 1, bytes := 24, zero := [.slice none 0 0] }
  | 120 => some { desc := (.slice 130), size := 1, bytes := 24, zero := [.slice none 0 0] }
  | 122 => some { desc := (.struct #[{ name := "keys", type := 23, offset := 0, embedded := false, tag := "", pkgPath := "doorman/omap", byteOffset := 0 }, { name := "values", type := 120, offset := 1, embedded := false, tag := "", pkgPath := "doorman/omap", byteOffset := 24 }]), size := 2, bytes := 48, zero := [.slice none 0 0, .slice none 0 0] }
  | 123 => some { desc := (.pointer 166), size := 1, bytes := 8, zero := [.pointer none] }
  | 124 => some { desc := (.array 8 123), size := 8, bytes := 64, zero := [.pointer none, .pointer none, .pointer none, .pointer none, .pointer none, .pointer none, .pointer none, .pointer none] }
  | 126 => some { desc := (.struct #[{ name := "watches", type := 122, offset := 0, embedded := false, tag := "", pkgPath := "doorman/feed", byteOffset := 0 }, { name := "queues", type := 124, offset := 2, embedded := false, tag := "", pkgPath := "doorman/feed", byteOffset := 48 }]), size := 10, bytes := 112, zero := [.slice none 0 0, .slice none 0 0, .pointer none, .pointer none, .pointer none, .pointer none, .pointer none, .pointer none, .pointer none, .pointer none] }
  | 130 => some { desc := (.int .u32), size := 1, bytes := 4, zero := [.int .u32 0] }
  | 138 => some { desc := (.struct #[{ name := "Sessions", type := 113, offset := 0, embedded := false, tag := "", pkgPath := "", byteOffset := 0 }, { name := "Told", type := 44, offset := 1, embedded := false, tag := "", pkgPath := "", byteOffset := 24 }]), size := 4, bytes := 48, zero := [.slice none 0 0, .int .i64 0, .int .i64 0, .int .i64 0] }
  | 145 => some { desc := (.struct #[{ name := "User", type := 9, offset := 0, embedded := false, tag := "", pkgPath := "", byteOffset := 0 }, { name := "Old", type := 44, offset := 1, embedded := false, tag := "", pkgPath := "", byteOffset := 16 }, { name := "New", type := 44, offset := 4, embedded := false, tag := "", pkgPath := "", byteOffset := 40 }]), size := 7, bytes := 64, zero := [.string .empty, .int .i64 0, .int .i64 0, .int .i64 0, .int .i64 0, .int .i64 0, .int .i64 0] }
  | 151 => some { desc := (.struct #[{ name := "Id", type := 3, offset := 0, embedded := false, tag := "", pkgPath := "", byteOffset := 0 }, { name := "Status", type := 3, offset := 1, embedded := false, tag := "", pkgPath := "", byteOffset := 8 }, { name := "Prio", type := 3, offset := 2, embedded := false, tag := "", pkgPath := "", byteOffset := 16 }, { name := "Until", type := 22, offset := 3, embedded := false, tag := "", pkgPath := "", byteOffset := 24 }]), size := 4, bytes := 32, zero := [.int .i64 0, .int .i64 0, .int .i64 0, .int .u64 0] }
  | 156 => some { desc := (.struct #[{ name := "Who", type := 3, offset := 0, embedded := false, tag := "", pkgPath := "", byteOffset := 0 }, { name := "User", type := 9, offset := 1, embedded := false, tag := "", pkgPath := "", byteOffset := 8 }]), size := 2, bytes := 24, zero := [.int .i64 0, .string .empty] }
  | 163 => some { desc := (.struct #[{ name := "User", type := 9, offset := 0, embedded := false, tag := "", pkgPath := "", byteOffset := 0 }, { name := "Old", type := 44, offset := 1, embedded := false, tag := "", pkgPath := "", byteOffset := 16 }, { name := "New", type := 44, offset := 4, embedded := false, tag := "", pkgPath := "", byteOffset := 40 }]), size := 7, bytes := 64, zero := [.string .empty, .int .i64 0, .int .i64 0, .int .i64 0, .int .i64 0, .int .i64 0, .int .i64 0] }
  | 166 => some { desc := (.struct #[{ name := "room", type := 3, offset := 0, embedded := false, tag := "", pkgPath := "doorman/ring", byteOffset := 0 }, { name := "l", type := 39, offset := 1, embedded := false, tag := "", pkgPath := "doorman/ring", byteOffset := 8 }, { name := "lost", type := 4, offset := 2, embedded := false, tag := "", pkgPath := "doorman/ring", byteOffset := 32 }]), size := 3, bytes := 40, zero := [.int .i64 0, .slice none 0 0, .bool false] }
  | 172 => some { desc := (.slice 3), size := 1, bytes := 24, zero := [.slice none 0 0] }
  | 188 => some { desc := (.int .u64), size := 1, bytes := 8, zero := [.int .u64 0] }
  | _ => none
theorem ty3 : (P.info? 3).map (fun i => (i.size, i.bytes, i.zero)) = some (1, 8, some (.int .i64 0)) := by kernel_rfl
theorem ty4 : (P.info? 4).map (fun i => (i.size, i.bytes, i.zero)) = some (1, 1, some (.bool false)) := by kernel_rfl
theorem ty5 : (P.info? 5).map (fun i => (i.size, i.bytes, i.zero)) = some (1, 1, some (.int .u8 0)) := by kernel_rfl
theorem ty9 : (P.info? 9).map (fun i => (i.size, i.bytes, i.zero)) = some (1, 16, some (.string .empty)) := by kernel_rfl
theorem ty22 : (P.info? 22).map (fun i => (i.size, i.bytes, i.zero)) = some (1, 8, some (.int .u64 0)) := by kernel_rfl
theorem ty23 : (P.info? 23).map (fun i => (i.size, i.bytes, i.zero)) = some (1, 24, some (.slice none 0 0)) := by kernel_rfl
theorem ty25 : (P.info? 25).map (fun i => (i.size, i.bytes, i.zero)) = some (7, 80, some (.agg #[.int .i64 0, .string .empty, .int .i64 0, .int .i64 0, .int .i64 0, .int .u64 0, .slice none 0 0])) := by kernel_rfl
theorem ty29 : (P.info? 29).map (fun i => (i.size, i.bytes, i.zero)) = some (1, 24, some (.slice none 0 0)) := by kernel_rfl
theorem ty31 : (P.info? 31).map (fun i => (i.size, i.bytes, i.zero)) = some (1, 8, some (.pointer none)) := by kernel_rfl
theorem ty32 : (P.info? 32).map (fun i => (i.size, i.bytes, i.zero)) = some (1, 8, some (.int .i64 0)) := by kernel_rfl
theorem ty36 : (P.info? 36).map (fun i => (i.size, i.bytes, i.zero)) = some (7, 56, some (.agg #[.int .i64 0, .int .i64 0, .int .i64 0, .int .i64 0, .int .i64 0, .int .u64 0, .int .u64 0])) := by kernel_rfl
theorem ty38 : (P.info? 38).map (fun i => (i.size, i.bytes, i.zero)) = some (1, 24, some (.slice none 0 0)) := by kernel_rfl
theorem ty39 : (P.info? 39).map (fun i => (i.size, i.bytes, i.zero)) = some (1, 24, some (.slice none 0 0)) := by kernel_rfl
theorem ty41 : (P.info? 41).map (fun i => (i.size, i.bytes, i.zero)) = some (4, 64, some (.agg #[.int .i64 0, .slice none 0 0, .slice none 0 0, .bool false])) := by kernel_rfl
theorem ty44 : (P.info? 44).map (fun i => (i.size, i.bytes, i.zero)) = some (3, 24, some (.agg #[.int .i64 0, .int .i64 0, .int .i64 0])) := by kernel_rfl
theorem ty46 : (P.info? 46).map (fun i => (i.size, i.bytes, i.zero)) = some (10, 104, some (.agg #[.int .u8 0, .int .i64 0, .int .i64 0, .string .empty, .int .i64 0, .int .i64 0, .int .i64 0, .int .u64 0, .slice none 0 0, .int .u64 0])) := by kernel_rfl
theorem ty49 : (P.info? 49).map (fun i => (i.size, i.bytes, i.zero)) = some (8, 72, some (.agg #[.string .empty, .int .i64 0, .int .i64 0, .int .i64 0, .int .i64 0, .int .i64 0, .int .i64 0, .int .u64 0])) := by kernel_rfl
theorem ty52 : (P.info? 52).map (fun i => (i.size, i.bytes, i.zero)) = some (3, 24, some (.agg #[.int .u64 0, .int .u64 0, .bool false])) := by kernel_rfl
theorem ty57 : (P.info? 57).map (fun i => (i.size, i.bytes, i.zero)) = some (1, 8, some (.pointer none)) := by kernel_rfl
theorem ty62 : (P.info? 62).map (fun i => (i.size, i.bytes, i.zero)) = some (1, 24, some (.slice none 0 0)) := by kernel_rfl
theorem ty63 : (P.info? 63).map (fun i => (i.size, i.bytes, i.zero)) = some (1, 24, some (.slice none 0 0)) := by kernel_rfl
theorem ty65 : (P.info? 65).map (fun i => (i.size, i.bytes, i.zero)) = some (12, 128, some (.agg #[.int .i64 0, .int .i64 0, .int .i64 0, .int .i64 0, .int .i64 0, .int .u64 0, .int .u64 0, .int .u64 0, .int .u64 0, .bool false, .slice none 0 0, .slice none 0 0])) := by kernel_rfl
theorem ty68 : (P.info? 68).map (fun i => (i.size, i.bytes, i.zero)) = some (1, 24, some (.slice none 0 0)) := by kernel_rfl
theorem ty72 : (P.info? 72).map (fun i => (i.size, i.bytes, i.zero)) = some (1, 24, some (.slice none 0 0)) := by kernel_rfl
theorem ty73 : (P.info? 73).map (fun i => (i.size, i.bytes, i.zero)) = some (1, 24, some (.slice none 0 0)) := by kernel_rfl
theorem ty75 : (P.info? 75).map (fun i => (i.size, i.bytes, i.zero)) = some (12, 128, some (.agg #[.int .i64 0, .int .i64 0, .int .i64 0, .int .i64 0, .int .i64 0, .int .u64 0, .int .u64 0, .int .u64 0, .int .u64 0, .bool false, .slice none 0 0, .slice none 0 0])) := by kernel_rfl
theorem ty76 : (P.info? 76).map (fun i => (i.size, i.bytes, i.zero)) = some (1, 8, some (.pointer none)) := by kernel_rfl
theorem ty85 : (P.info? 85).map (fun i => (i.size, i.bytes, i.zero)) = some (1, 24, some (.slice none 0 0)) := by kernel_rfl
theorem ty87 : (P.info? 87).map (fun i => (i.size, i.bytes, i.zero)) = some (2, 48, some (.agg #[.slice none 0 0, .slice none 0 0])) := by kernel_rfl
theorem ty88 : (P.info? 88).map (fun i => (i.size, i.bytes, i.zero)) = some (1, 8, some (.pointer none)) := by kernel_rfl
theorem ty89 : (P.info? 89).map (fun i => (i.size, i.bytes, i.zero)) = some (1, 24, some (.slice none 0 0)) := by kernel_rfl
theorem ty90 : (P.info? 90).map (fun i => (i.size, i.bytes, i.zero)) = some (8, 192, some (.agg #[.slice none 0 0, .slice none 0 0, .slice none 0 0, .slice none 0 0, .slice none 0 0, .slice none 0 0, .slice none 0 0, .slice none 0 0])) := by kernel_rfl
theorem ty91 : (P.info? 91).map (fun i => (i.size, i.bytes, i.zero)) = some (8, 8, some (.agg #[.bool false, .bool false, .bool false, .bool false, .bool false, .bool false, .bool false, .bool false])) := by kernel_rfl
theorem ty93 : (P.info? 93).map (fun i => (i.size, i.bytes, i.zero)) = some (18, 232, some (.agg #[.int .i64 0, .slice none 0 0, .slice none 0 0, .slice none 0 0, .slice none 0 0, .slice none 0 0, .slice none 0 0, .slice none 0 0, .slice none 0 0, .slice none 0 0, .bool false, .bool false, .bool false, .bool false, .bool false, .bool false, .bool false, .bool false])) := by kernel_rfl
theorem ty96 : (P.info? 96).map (fun i => (i.size, i.bytes, i.zero)) = some (1, 24, some (.slice none 0 0)) := by kernel_rfl
theorem ty97 : (P.info? 97).map (fun i => (i.size, i.bytes, i.zero)) = some (1, 24, some (.slice none 0 0)) := by kernel_rfl
theorem ty101 : (P.info? 101).map (fun i => (i.size, i.bytes, i.zero)) = some (1, 24, some (.slice none 0 0)) := by kernel_rfl
theorem ty113 : (P.info? 113).map (fun i => (i.size, i.bytes, i.zero)) = some (1, 24, some (.slice none 0 0)) := by kernel_rfl
theorem ty115 : (P.info? 115).map (fun i => (i.size, i.bytes, i.zero)) = some (5, 64, some (.agg #[.string .empty, .slice none 0 0, .int .i64 0, .int .i64 0, .int .i64 0])) := by kernel_rfl
theorem ty116 : (P.info? 116).map (fun i => (i.size, i.bytes, i.zero)) = some (1, 24, some (.slice none 0 0)) := by kernel_rfl
theorem ty120 : (P.info? 120).map (fun i => (i.size, i.bytes, i.zero)) = some (1, 24, some (.slice none 0 0)) := by kernel_rfl
theorem ty122 : (P.info? 122).map (fun i => (i.size, i.bytes, i.zero)) = some (2, 48, some (.agg #[.slice none 0 0, .slice none 0 0])) := by kernel_rfl
theorem ty123 : (P.info? 123).map (fun i => (i.size, i.bytes, i.zero)) = some (1, 8, some (.pointer none)) := by kernel_rfl
theorem ty124 : (P.info? 124).map (fun i => (i.size, i.bytes, i.zero)) = some (8, 64, some (.agg #[.pointer none, .pointer none, .pointer none, .pointer none, .pointer none, .pointer none, .pointer none, .pointer none])) := by kernel_rfl
theorem ty126 : (P.info? 126).map (fun i => (i.size, i.bytes, i.zero)) = some (10, 112, some (.agg #[.slice none 0 0, .slice none 0 0, .pointer none, .pointer none, .pointer none, .pointer none, .pointer none, .pointer none, .pointer none, .pointer none])) := by kernel_rfl
theorem ty130 : (P.info? 130).map (fun i => (i.size, i.bytes, i.zero)) = some (1, 4, some (.int .u32 0)) := by kernel_rfl
theorem ty138 : (P.info? 138).map (fun i => (i.size, i.bytes, i.zero)) = some (4, 48, some (.agg #[.slice none 0 0, .int .i64 0, .int .i64 0, .int .i64 0])) := by kernel_rfl
theorem ty145 : (P.info? 145).map (fun i => (i.size, i.bytes, i.zero)) = some (7, 64, some (.agg #[.string .empty, .int .i64 0, .int .i64 0, .int .i64 0, .int .i64 0, .int .i64 0, .int .i64 0])) := by kernel_rfl
theorem ty151 : (P.info? 151).map (fun i => (i.size, i.bytes, i.zero)) = some (4, 32, some (.agg #[.int .i64 0, .int .i64 0, .int .i64 0, .int .u64 0])) := by kernel_rfl
theorem ty156 : (P.info? 156).map (fun i => (i.size, i.bytes, i.zero)) = some (2, 24, some (.agg #[.int .i64 0, .string .empty])) := by kernel_rfl
theorem ty163 : (P.info? 163).map (fun i => (i.size, i.bytes, i.zero)) = some (7, 64, some (.agg #[.string .empty, .int .i64 0, .int .i64 0, .int .i64 0, .int .i64 0, .int .i64 0, .int .i64 0])) := by kernel_rfl
theorem ty166 : (P.info? 166).map (fun i => (i.size, i.bytes, i.zero)) = some (3, 40, some (.agg #[.int .i64 0, .slice none 0 0, .bool false])) := by kernel_rfl
theorem ty172 : (P.info? 172).map (fun i => (i.size, i.bytes, i.zero)) = some (1, 24, some (.slice none 0 0)) := by kernel_rfl
theorem ty188 : (P.info? 188).map (fun i => (i.size, i.bytes, i.zero)) = some (1, 8, some (.int .u64 0)) := by kernel_rfl
theorem q0o {t : TypeId} {d : TypeDesc} {size bytes : Nat} {z : Value} {zero : List Value} (hu : P.underlying t = some d) (hi : (P.info? t).map (fun i => (i.size, i.bytes, i.zero)) = some (size, bytes, some z)) (hz : z.cells.toList = zero) :
    P.underlying t = some d ∧ ∃ i z, P.info? t = some i ∧ i.size = size ∧ i.bytes = bytes ∧ i.zero = some z ∧ z.cells.toList = zero := by
  refine ⟨hu, ?_⟩
  cases h : P.info? t with
  | none => rw [h] at hi; cases hi
  | some i =>
    rw [h] at hi
    simp only [Option.map_some, Option.some.injEq, Prod.mk.injEq] at hi
    exact ⟨i, z, rfl, hi.1, hi.2.1, hi.2.2, hz⟩
theorem tyOk : TyOk P T := by
  intro t ti h
  unfold T at h
  split at h
  · cases h; exact q0o Tryz.underlying3 ty3 rfl
  · cases h; exact q0o Tryz.underlying4 ty4 rfl
  · cases h; exact q0o Tryz.underlying5 ty5 rfl
  · cases h; exact q0o Tryz.underlying9 ty9 rfl
  · cases h; exact q0o Tryz.underlying22 ty22 rfl
  · cases h; exact q0o Tryz.underlying23 ty23 rfl
  · cases h; exact q0o Tryz.underlying25 ty25 rfl
  · cases h; exact q0o Tryz.underlying29 ty29 rfl
  · cases h; exact q0o Tryz.underlying31 ty31 rfl
  · cases h; exact q0o Tryz.underlying32 ty32 rfl
  · cases h; exact q0o Tryz.underlying36 ty36 rfl
  · cases h; exact q0o Tryz.underlying38 ty38 rfl
  · cases h; exact q0o Tryz.underlying39 ty39 rfl
  · cases h; exact q0o Tryz.underlying41 ty41 rfl
  · cases h; exact q0o Tryz.underlying44 ty44 rfl
  · cases h; exact q0o Tryz.underlying46 ty46 rfl
  · cases h; exact q0o Tryz.underlying49 ty49 rfl
  · cases h; exact q0o Tryz.underlying52 ty52 rfl
  · cases h; exact q0o Tryz.underlying57 ty57 rfl
  · cases h; exact q0o Tryz.underlying62 ty62 rfl
  · cases h; exact q0o Tryz.underlying63 ty63 rfl
  · cases h; exact q0o Tryz.underlying65 ty65 rfl
  · cases h; exact q0o Tryz.underlying68 ty68 rfl
  · cases h; exact q0o Tryz.underlying72 ty72 rfl
  · cases h; exact q0o Tryz.underlying73 ty73 rfl
  · cases h; exact q0o Tryz.underlying75 ty75 rfl
  · cases h; exact q0o Tryz.underlying76 ty76 rfl
  · cases h; exact q0o Tryz.underlying85 ty85 rfl
  · cases h; exact q0o Tryz.underlying87 ty87 rfl
  · cases h; exact q0o Tryz.underlying88 ty88 rfl
  · cases h; exact q0o Tryz.underlying89 ty89 rfl
  · cases h; exact q0o Tryz.underlying90 ty90 rfl
  · cases h; exact q0o Tryz.underlying91 ty91 rfl
  · cases h; exact q0o Tryz.underlying93 ty93 rfl
  · cases h; exact q0o Tryz.underlying96 ty96 rfl
  · cases h; exact q0o Tryz.underlying97 ty97 rfl
  · cases h; exact q0o Tryz.underlying101 ty101 rfl
  · cases h; exact q0o Tryz.underlying113 ty113 rfl
  · cases h; exact q0o Tryz.underlying115 ty115 rfl
  · cases h; exact q0o Tryz.underlying116 ty116 rfl
  · cases h; exact q0o Tryz.underlying120 ty120 rfl
  · cases h; exact q0o Tryz.underlying122 ty122 rfl
  · cases h; exact q0o Tryz.underlying123 ty123 rfl
  · cases h; exact q0o Tryz.underlying124 ty124 rfl
  · cases h; exact q0o Tryz.underlying126 ty126 rfl
  · cases h; exact q0o Tryz.underlying130 ty130 rfl
  · cases h; exact q0o Tryz.underlying138 ty138 rfl
  · cases h; exact q0o Tryz.underlying145 ty145 rfl
  · cases h; exact q0o Tryz.underlying151 ty151 rfl
  · cases h; exact q0o Tryz.underlying156 ty156 rfl
  · cases h; exact q0o Tryz.underlying163 ty163 rfl
  · cases h; exact q0o Tryz.underlying166 ty166 rfl
  · cases h; exact q0o Tryz.underlying172 ty172 rfl
  · cases h; exact q0o Tryz.underlying188 ty188 rfl
  · cases h
theorem eqc36 {xs ys : List AV} : eqC P T 36 xs ys = (kOks [.int .i64, .int .i64, .int .i64, .int .i64, .int .i64, .int .u64, .int .u64] xs ys = true) := eqC_eq (by kernel_rfl) (by kernel_rfl)
theorem eqc44 {xs ys : List AV} : eqC P T 44 xs ys = (kOks [.int .i64, .int .i64, .int .i64] xs ys = true) := eqC_eq (by kernel_rfl) (by kernel_rfl)
theorem eqc49 {xs ys : List AV} : eqC P T 49 xs ys = (kOks [.str, .int .i64, .int .i64, .int .i64, .int .i64, .int .i64, .int .i64, .int .u64] xs ys = true) := eqC_eq (by kernel_rfl) (by kernel_rfl)
theorem eqc52 {xs ys : List AV} : eqC P T 52 xs ys = (kOks [.int .u64, .int .u64, .bool] xs ys = true) := eqC_eq (by kernel_rfl) (by kernel_rfl)
theorem eqc145 {xs ys : List AV} : eqC P T 145 xs ys = (kOks [.str, .int .i64, .int .i64, .int .i64, .int .i64, .int .i64, .int .i64] xs ys = true) := eqC_eq (by kernel_rfl) (by kernel_rfl)
theorem eqc151 {xs ys : List AV} : eqC P T 151 xs ys = (kOks [.int .i64, .int .i64, .int .i64, .int .u64] xs ys = true) := eqC_eq (by kernel_rfl) (by kernel_rfl)
theorem eqc156 {xs ys : List AV} : eqC P T 156 xs ys = (kOks [.int .i64, .str] xs ys = true) := eqC_eq (by kernel_rfl) (by kernel_rfl)
theorem eqc163 {xs ys : List AV} : eqC P T 163 xs ys = (kOks [.str, .int .i64, .int .i64, .int .i64, .int .i64, .int .i64, .int .i64] xs ys = true) := eqC_eq (by kernel_rfl) (by kernel_rfl)
attribute [go_sem] T eqc36 eqc44 eqc49 eqc52 eqc145 eqc151 eqc156 eqc163
end Go.Proofs.YtdkcpcflfnakdaaGreat
namespace Go.Proofs.YtdkcpcflfnakdaaGreat
open Go Go.Proofs.YtdkcpcflfnakdaaGreat.Sym
structure StrictOrd {α : Type} (lt : α → α → Bool) : Prop where
  irrefl : ∀ a, lt a a = false
  trans : ∀ a b c, lt a b = true → lt b c = true → lt a c = true
  total : ∀ a b, lt a b = false → lt b a = false → a = b
section
variable {α : Type} {lt : α → α → Bool}
def Rises (lt : α → α → Bool) (l : List α) : Prop := l.Pairwise fun a b => lt a b = true
def lb (lt : α → α → Bool) (l : List α) (k : α) : Nat := (l.takeWhile fun x => lt x k).length
theorem lb_le (l : List α) (k : α) : lb lt l k ≤ l.length := by
  unfold lb
  induction l with
  | nil => exact Nat.le_refl _
  | cons x xs ih =>
    simp only [List.takeWhile_cons]
    split
    · simp; exact ih
    · simp
theorem lb_lt {l : List α} {k : α} : ∀ {i : Nat} (h : i < lb lt l k), lt (l[i]'(Nat.lt_of_lt_of_le h (lb_le l k))) k = true := by
  induction l with
  | nil => intro i h; simp [lb] at h
  | cons x xs ih =>
    intro i h
    have h' := h
    simp only [lb, List.takeWhile_cons] at h'
    split at h'
    · rename_i hx
      cases i with
      | zero => exact hx
      | succ i => exact ih (i := i) (by simpa [lb] using h')
    · simp at h'
theorem lb_ge (O : StrictOrd lt) {l : List α} (hl : Rises lt l) {k : α} : ∀ {i : Nat} (h : i < l.length), lb lt l k ≤ i → lt l[i] k = false := by
  induction l with
  | nil => intro i h; simp at h
  | cons x xs ih =>
    intro i h hi
    have hp := List.pairwise_cons.1 hl
    by_cases hx : lt x k = true
    · cases i with
      | zero => simp [lb, List.takeWhile_cons, hx] at hi
      | succ i =>
        refine ih hp.2 (by simpa using h) ?_
        simp only [lb, List.takeWhile_cons, hx, if_true, List.length_cons] at hi ⊢
        omega
    · have hx' : lt x k = false := by simpa using hx
      cases i with
      | zero => exact hx'
      | succ i =>
        have hi' : i < xs.length := by simpa using h
        cases hc : lt xs[i] k with
        | false => simpa using hc
        | true =>
          have := O.trans _ _ _ (hp.1 _ (List.getElem_mem hi')) hc
          rw [hx'] at this; cases this
theorem lb_unique (O : StrictOrd lt) {l : List α} (hl : Rises lt l) {k : α} {p : Nat} (hp : p ≤ l.length) (h1 : ∀ i (h : i < l.length), i < p → lt l[i] k = true) (h2 : ∀ i (h : i < l.length), p ≤ i → lt l[i] k = false) : p = lb lt l k := by
  rcases Nat.lt_trichotomy p (lb lt l k) with h | h | h
  · have a := lb_lt h
    have b := h2 p (Nat.lt_of_lt_of_le h (lb_le l k)) (Nat.le_refl _)
    rw [b] at a; cases a
  · exact h
  · have hlt : lb lt l k < l.length := by omega
    have a := lb_ge O hl hlt (Nat.le_refl _)
    have b := h1 _ hlt h
    rw [b] at a; cases a
def hasAt (lt eq : α → α → Bool) (l : List α) (k : α) : Bool := match l[lb lt l k]? with | some x => eq x k | none => false
theorem hasAt_lt {eq : α → α → Bool} {l : List α} {k : α} (h : lb lt l k < l.length) : hasAt lt eq l k = eq l[lb lt l k] k := by
  rw [hasAt, List.getElem?_eq_getElem h]
theorem hasAt_ge {eq : α → α → Bool} {l : List α} {k : α} (h : ¬ lb lt l k < l.length) : hasAt lt eq l k = false := by
  rw [hasAt, List.getElem?_eq_none (by omega)]
theorem hasAt_iff (O : StrictOrd lt) {eq : α → α → Bool} (he : ∀ a b, eq a b = true ↔ a = b) {l : List α} (hl : Rises lt l) {k : α} : hasAt lt eq l k = true ↔ k ∈ l := by
  constructor
  · intro h
    by_cases hc : lb lt l k < l.length
    · rw [hasAt_lt hc] at h
      rw [← (he _ _).1 h]; exact List.getElem_mem hc
    · rw [hasAt_ge hc] at h; cases h
  · intro h
    obtain ⟨i, hi, rfl⟩ := List.mem_iff_getElem.1 h
    have h1 : lb lt l l[i] = i := by
      refine (lb_unique O hl (Nat.le_of_lt hi) (fun j hj hji => List.pairwise_iff_getElem.1 hl j i hj hi hji) (fun j hj hij => ?_)).symm
      rcases Nat.lt_or_ge i j with h | h
      · have a := List.pairwise_iff_getElem.1 hl i j hi hj h
        cases hc : lt l[j] l[i] with
        | false => rfl
        | true => have := O.trans _ _ _ a hc; rw [O.irrefl] at this; cases this
      · obtain rfl : i = j := by omega
        exact O.irrefl _
    rw [hasAt_lt (by omega)]
    simp only [h1]
    exact (he _ _).2 rfl
end
def ltI (a b : Int) : Bool := decide (a < b)
def eqI (a b : Int) : Bool := a == b
theorem ordI : StrictOrd ltI := ⟨fun a => by simp [ltI], fun a b c h1 h2 => by simp [ltI] at *; omega, fun a b h1 h2 => by simp [ltI] at *; omega⟩
theorem eqI_iff (a b : Int) : eqI a b = true ↔ a = b := by simp [eqI]
def ltS (a b : ByteArray) : Bool := Op.bytesLess a.toList b.toList
def eqS (a b : ByteArray) : Bool := a.toList == b.toList
theorem less_irrefl : ∀ l : List UInt8, Op.bytesLess l l = false
  | [] => rfl
  | a :: l => by simp [Op.bytesLess, less_irrefl l]
theorem less_trans : ∀ a b c : List UInt8, Op.bytesLess a b = true → Op.bytesLess b c = true → Op.bytesLess a c = true
  | _, [], _, h, _ => by simp [Op.bytesLess] at h
  | _, _ :: _, [], _, h => by simp [Op.bytesLess] at h
  | [], _ :: _, _ :: _, _, _ => rfl
  | a :: x, b :: y, c :: z, h1, h2 => by
    simp only [Op.bytesLess, Bool.or_eq_true, decide_eq_true_eq, Bool.and_eq_true, beq_iff_eq] at h1 h2 ⊢
    rcases h1 with h1 | ⟨rfl, h1⟩
    · rcases h2 with h2 | ⟨rfl, h2⟩
      · exact .inl (UInt8.lt_trans h1 h2)
      · exact .inl h1
    · rcases h2 with h2 | ⟨rfl, h2⟩
      · exact .inl h2
      · exact .inr ⟨rfl, less_trans x y z h1 h2⟩
theorem less_total : ∀ a b : List UInt8, Op.bytesLess a b = false → Op.bytesLess b a = false → a = b
  | [], [], _, _ => rfl
  | [], _ :: _, h, _ => by simp [Op.bytesLess] at h
  | _ :: _, [], _, h => by simp [Op.bytesLess] at h
  | a :: x, b :: y, h1, h2 => by
    simp only [Op.bytesLess, Bool.or_eq_false_iff, decide_eq_false_iff_not, Bool.and_eq_false_imp, beq_iff_eq] at h1 h2
    have hab : a = b := by
      apply UInt8.toNat_inj.1
      have p := h1.1; have q := h2.1
      rw [UInt8.lt_iff_toNat_lt] at p q
      omega
    subst hab
    rw [less_total x y (h1.2 rfl) (h2.2 rfl)]
theorem toList_inj {a b : ByteArray} (h : a.toList = b.toList) : a = b := by
  have e : ∀ c : ByteArray, c.toList = c.data.toList := fun c => by
    exact ByteArray.toList_eq c
  rw [e, e] at h
  cases a; cases b
  simp at h
  rw [h]
theorem ordS : StrictOrd ltS := ⟨fun a => less_irrefl _, fun a b c h1 h2 => less_trans _ _ _ h1 h2, fun a b h1 h2 => toList_inj (less_total _ _ h1 h2)⟩
theorem q0u (a b : ByteArray) : eqS a b = true ↔ a = b := by
  rw [eqS, beq_iff_eq]
  exact ⟨toList_inj, fun h => by rw [h]⟩
end Go.Proofs.YtdkcpcflfnakdaaGreat
namespace Go.Proofs.YtdkcpcflfnakdaaGreat
section
variable {α β : Type} {lt eq : α → α → Bool}
def withG (lt eq : α → α → Bool) (m : List (α × β)) (k : α) (v : β) : List (α × β) :=
  if hasAt lt eq (m.map Prod.fst) k = true then m.set (lb lt (m.map Prod.fst) k) (k, v)
  else m.take (lb lt (m.map Prod.fst) k) ++ [(k, v)] ++ m.drop (lb lt (m.map Prod.fst) k)
def q1e (lt eq : α → α → Bool) (m : List (α × β)) (k : α) : List (α × β) :=
  if hasAt lt eq (m.map Prod.fst) k = true then m.take (lb lt (m.map Prod.fst) k) ++ m.drop (lb lt (m.map Prod.fst) k + 1) else m
def getG (lt eq : α → α → Bool) (none : β) (m : List (α × β)) (k : α) : β × Bool :=
  if hasAt lt eq (m.map Prod.fst) k = true then ((m.map Prod.snd).getD (lb lt (m.map Prod.fst) k) none, true) else (none, false)
abbrev q2f (lt : α → α → Bool) (m : List (α × β)) : Prop := Rises lt (m.map Prod.fst)
theorem q31 {m : List (α × β)} : q2f lt m ↔ m.Pairwise fun a b => lt a.1 b.1 = true := List.pairwise_map
theorem with_len (m : List (α × β)) (k : α) (v : β) : (withG lt eq m k v).length ≤ m.length + 1 := by
  unfold withG
  split
  · simp
  · simp
    omega
theorem without_len (m : List (α × β)) (k : α) : (q1e lt eq m k).length ≤ m.length := by
  unfold q1e
  split
  · simp; omega
  · exact Nat.le_refl _
theorem filter_none' {p : α × β → Bool} {l : List (α × β)} (h : ∀ x ∈ l, p x = false) : l.filter p = [] := by
  rw [List.filter_eq_nil_iff]; intro x hx; rw [h x hx]; decide
theorem q3j {p : α × β → Bool} {l : List (α × β)} (h : ∀ x ∈ l, p x = true) : l.filter p = l := List.filter_eq_self.2 h
theorem with_eq (O : StrictOrd lt) (he : ∀ a b, eq a b = true ↔ a = b) {m : List (α × β)} (hr : q2f lt m) (k : α) (v : β) :
    withG lt eq m k v = m.filter (fun p => lt p.1 k) ++ [(k, v)] ++ m.filter (fun p => lt k p.1) := by
  induction m with
  | nil => simp [withG, hasAt, lb]
  | cons x xs ih =>
    have hp := List.pairwise_cons.1 (q31.1 hr)
    by_cases hx : lt x.1 k = true
    · have hkx : lt k x.1 = false := by
        cases hc : lt k x.1 with
        | false => rfl
        | true => have := O.trans _ _ _ hx hc; rw [O.irrefl] at this; cases this
      have hlb : lb lt ((x :: xs).map Prod.fst) k = lb lt (xs.map Prod.fst) k + 1 := by simp [lb, List.takeWhile_cons, hx]
      have hh : hasAt lt eq ((x :: xs).map Prod.fst) k = hasAt lt eq (xs.map Prod.fst) k := by unfold hasAt; rw [hlb]; simp
      have e : withG lt eq (x :: xs) k v = x :: withG lt eq xs k v := by
        unfold withG
        rw [hh, hlb]
        split <;> simp
      rw [e, ih (q31.2 hp.2), List.filter_cons, List.filter_cons, hx, hkx]
      simp
    · have hx' : lt x.1 k = false := by simpa using hx
      have hlb : lb lt ((x :: xs).map Prod.fst) k = 0 := by simp [lb, List.takeWhile_cons, hx']
      have hh : hasAt lt eq ((x :: xs).map Prod.fst) k = eq x.1 k := by unfold hasAt; rw [hlb]; simp
      have hlow : ∀ y ∈ xs, lt y.1 k = false := by
        intro y hy
        cases hc : lt y.1 k with
        | false => rfl
        | true => have := O.trans _ _ _ (hp.1 y hy) hc; rw [hx'] at this; cases this
      unfold withG
      rw [hh, hlb, List.filter_cons, hx', filter_none' hlow]
      cases heq : eq x.1 k with
      | true =>
        have hk := (he _ _).1 heq
        subst hk
        rw [List.filter_cons, O.irrefl, q3j (l := xs) (fun y hy => hp.1 y hy)]
        simp
      | false =>
        have hkx : lt k x.1 = true := by
          cases hc : lt k x.1 with
          | true => rfl
          | false =>
            have := O.total _ _ hx' hc
            rw [(he _ _).2 this] at heq; cases heq
        rw [List.filter_cons, hkx, q3j (l := xs) (fun y hy => O.trans _ _ _ hkx (hp.1 y hy))]
        simp
theorem q3r (O : StrictOrd lt) (he : ∀ a b, eq a b = true ↔ a = b) {m : List (α × β)} (hr : q2f lt m) (k : α) :
    q1e lt eq m k = m.filter (fun p => !eq p.1 k) := by
  induction m with
  | nil => simp [q1e, hasAt, lb]
  | cons x xs ih =>
    have hp := List.pairwise_cons.1 (q31.1 hr)
    by_cases hx : lt x.1 k = true
    · have hne : eq x.1 k = false := by
        cases hc : eq x.1 k with
        | false => rfl
        | true => rw [(he _ _).1 hc, O.irrefl] at hx; cases hx
      have hlb : lb lt ((x :: xs).map Prod.fst) k = lb lt (xs.map Prod.fst) k + 1 := by simp [lb, List.takeWhile_cons, hx]
      have hh : hasAt lt eq ((x :: xs).map Prod.fst) k = hasAt lt eq (xs.map Prod.fst) k := by unfold hasAt; rw [hlb]; simp
      have e : q1e lt eq (x :: xs) k = x :: q1e lt eq xs k := by
        unfold q1e
        rw [hh, hlb]
        split <;> simp
      rw [e, ih (q31.2 hp.2), List.filter_cons, hne]
      simp
    · have hx' : lt x.1 k = false := by simpa using hx
      have hlb : lb lt ((x :: xs).map Prod.fst) k = 0 := by simp [lb, List.takeWhile_cons, hx']
      have hh : hasAt lt eq ((x :: xs).map Prod.fst) k = eq x.1 k := by unfold hasAt; rw [hlb]; simp
      have hne : ∀ y ∈ xs, eq y.1 k = false := by
        intro y hy
        cases hc : eq y.1 k with
        | false => rfl
        | true =>
          have h1 := hp.1 y hy
          rw [(he _ _).1 hc, hx'] at h1; cases h1
      unfold q1e
      rw [hh, hlb, List.filter_cons, q3j (l := xs) (fun y hy => by rw [hne y hy]; rfl)]
      cases heq : eq x.1 k <;> simp
theorem with_rises (O : StrictOrd lt) (he : ∀ a b, eq a b = true ↔ a = b) {m : List (α × β)} (hr : q2f lt m) (k : α) (v : β) : q2f lt (withG lt eq m k v) := by
  rw [with_eq O he hr]
  have h0 := q31.1 hr
  refine q31.2 ?_
  rw [List.append_assoc, List.pairwise_append]
  refine ⟨h0.sublist List.filter_sublist, ?_, ?_⟩
  · rw [List.cons_append, List.nil_append, List.pairwise_cons]
    exact ⟨fun y hy => (List.mem_filter.1 hy).2, h0.sublist List.filter_sublist⟩
  · intro a ha b hb
    have ha := (List.mem_filter.1 ha).2
    rcases List.mem_append.1 hb with hb | hb
    · obtain rfl : b = (k, v) := by simpa using hb
      exact ha
    · exact O.trans _ _ _ ha (List.mem_filter.1 hb).2
theorem without_rises (O : StrictOrd lt) (he : ∀ a b, eq a b = true ↔ a = b) {m : List (α × β)} (hr : q2f lt m) (k : α) : q2f lt (q1e lt eq m k) := by
  rw [q3r O he hr]
  exact q31.2 ((q31.1 hr).sublist List.filter_sublist)
theorem get_mem (O : StrictOrd lt) (he : ∀ a b, eq a b = true ↔ a = b) {m : List (α × β)} (hr : q2f lt m) {k : α} {v none : β} (h : (k, v) ∈ m) : getG lt eq none m k = (v, true) := by
  obtain ⟨i, hi, hiv⟩ := List.mem_iff_getElem.1 h
  have hmk : k ∈ m.map Prod.fst := List.mem_map.2 ⟨_, h, rfl⟩
  have hh := (hasAt_iff O he hr).2 hmk
  have hki : (m.map Prod.fst)[i]'(by simpa using hi) = k := by simp [hiv]
  have hlb : lb lt (m.map Prod.fst) k = i := by
    have hl : lb lt (m.map Prod.fst) k < (m.map Prod.fst).length := by
      apply Nat.lt_of_not_le
      intro hc
      rw [hasAt_ge (by omega)] at hh; cases hh
    rw [hasAt_lt hl] at hh
    have h2 := (he _ _).1 hh
    rcases Nat.lt_trichotomy (lb lt (m.map Prod.fst) k) i with h3 | h3 | h3
    · have := List.pairwise_iff_getElem.1 hr _ _ hl (by simpa using hi) h3
      rw [h2, hki, O.irrefl] at this; cases this
    · exact h3
    · have := List.pairwise_iff_getElem.1 hr _ _ (by simpa using hi) hl h3
      rw [h2, hki, O.irrefl] at this; cases this
  unfold getG
  rw [if_pos hh, hlb, List.getD_eq_getElem?_getD, List.getElem?_map, List.getElem?_eq_getElem hi, hiv]
  rfl
theorem q3v (O : StrictOrd lt) (he : ∀ a b, eq a b = true ↔ a = b) {m : List (α × β)} (hr : q2f lt m) {k : α} {none : β} (h : k ∉ m.map Prod.fst) : getG lt eq none m k = (none, false) := by
  unfold getG
  rw [if_neg (fun hc => h ((hasAt_iff O he hr).1 hc))]
theorem mem_with (O : StrictOrd lt) (he : ∀ a b, eq a b = true ↔ a = b) {m : List (α × β)} (hr : q2f lt m) {k : α} {v : β} {p : α × β} : p ∈ withG lt eq m k v ↔ p = (k, v) ∨ (p ∈ m ∧ p.1 ≠ k) := by
  rw [with_eq O he hr]
  simp only [List.mem_append, List.mem_filter, List.mem_singleton]
  constructor
  · rintro ((⟨h1, h2⟩ | h) | ⟨h1, h2⟩)
    · exact .inr ⟨h1, fun hc => by rw [hc, O.irrefl] at h2; cases h2⟩
    · exact .inl h
    · exact .inr ⟨h1, fun hc => by rw [hc, O.irrefl] at h2; cases h2⟩
  · rintro (h | ⟨h1, h2⟩)
    · exact .inl (.inr h)
    · cases ha : lt p.1 k with
      | true => exact .inl (.inl ⟨h1, rfl⟩)
      | false =>
        cases hb : lt k p.1 with
        | true => exact .inr ⟨h1, rfl⟩
        | false => exact absurd (O.total _ _ ha hb) h2
end
end Go.Proofs.YtdkcpcflfnakdaaGreat
namespace Go.Proofs.YtdkcpcflfnakdaaGreat
open Go Go.Proofs.YtdkcpcflfnakdaaGreat.Sym
set_option maxRecDepth 100000
set_option maxHeartbeats 1000000
abbrev u64 (n : Int) : AV := .v (.int .u64 n)
abbrev i64 (n : Int) : AV := .v (.int .i64 n)
abbrev bool (b : Bool) : AV := .v (.bool b)
abbrev str (s : ByteArray) : AV := .v (.string s)
theorem wrap_i64 {n : Int} (h1 : -9223372036854775808 ≤ n) (h2 : n ≤ 9223372036854775807) : IntKind.i64.wrap n = n := by rw [IntKind.wrap_i64]; omega
theorem wrap_u64 {n : Int} (h1 : 0 ≤ n) (h2 : n ≤ 18446744073709551615) : IntKind.u64.wrap n = n := by rw [IntKind.wrap_u64]; omega
theorem q2e {α : Type} {l : List α} {f : α → AV} {i : Nat} (h : i < l.length) : (l.map f).getD (Int.toNat (i : Int)) .any = f l[i] := by
  simp [List.getD_eq_getElem?_getD, List.getElem?_eq_getElem h]
theorem set_same_map {α : Type} {l : List α} {f : α → AV} {i : Nat} (h : i < l.length) {x : AV} (hx : x = f l[i]) : (l.map f).set i x = l.map f := by
  subst hx
  apply List.ext_getElem?
  intro j
  by_cases hj : i = j
  · subst hj
    rw [List.getElem?_set_self (by simpa using h), List.getElem?_map, List.getElem?_eq_getElem h]; rfl
  · rw [List.getElem?_set_ne hj]
theorem cut_last {i sz : Nat} {f : AV} {xs : List AV} (h : i < xs.length) : (if 0 + (xs.length - 1) ≤ (xs.take i ++ xs.drop (i + 1) ++ [f]).length then AV.sl sz ((xs.take i ++ xs.drop (i + 1) ++ [f]).take (xs.length - 1)) else .any) = .sl sz (xs.take i ++ xs.drop (i + 1)) := by
  rw [if_pos (by simp; omega), List.take_append_of_le_length (by simp; omega), List.take_of_length_le (by simp; omega)]
theorem half_idx {i j : Nat} (h : i + j ≤ 9223372036854775807) (hij : i < j) : i ≤ (i + j) / 2 ∧ (i + j) / 2 < j ∧ IntKind.i64.wrap (shrF .u64 (IntKind.u64.wrap (IntKind.i64.wrap ((i : Int) + (j : Int)))) 1) = (((i + j) / 2 : Nat) : Int) := by
  refine ⟨by omega, by omega, ?_⟩
  have e : IntKind.i64.wrap ((i : Int) + (j : Int)) = ((i + j : Nat) : Int) := by rw [wrap_i64 (by omega) (by omega)]; rfl
  rw [e, wrap_u64 (by omega) (by omega)]
  have e2 : shrF .u64 ((i + j : Nat) : Int) 1 = (((i + j) / 2 : Nat) : Int) := by
    show ((i + j : Nat) : Int).fdiv (2 ^ 1) = _
    rw [Int.fdiv_eq_ediv_of_nonneg _ (by decide)]
    omega
  rw [e2, wrap_i64 (by omega) (by omega)]
theorem cmpNaN_int (a : Int) : PCall P 145 [i64 a] (fun x => x = bool false) := by
  refine q0d tyOk Tryz.func145 rfl rfl ?_
  intro K hK
  simp only [Tryz.ntmps145, List.length_cons, List.length_nil, Nat.reduceAdd, Nat.reduceSub, List.replicate, List.cons_append, List.nil_append]
  try simp only [seval, go_sem]
  apply hK
  simp only [Tryz.results145, retK, ares, List.take_nil, Bool.and_true, Bool.true_and, AV.ofResults, St.trunc, q00, q01, List.getD_cons_zero, List.getD_cons_succ, List.map_nil, true_and, and_true, List.cons.injEq, exists_eq_left']
theorem cmpNaN_str (a : ByteArray) : PCall P 147 [str a] (fun x => x = bool false) := by
  refine q0d tyOk Tryz.func147 rfl rfl ?_
  intro K hK
  simp only [Tryz.ntmps147, List.length_cons, List.length_nil, Nat.reduceAdd, Nat.reduceSub, List.replicate, List.cons_append, List.nil_append]
  try simp only [seval, go_sem]
  apply hK
  simp only [Tryz.results147, retK, ares, List.take_nil, Bool.and_true, Bool.true_and, AV.ofResults, St.trunc, q00, q01, List.getD_cons_zero, List.getD_cons_succ, List.map_nil, true_and, and_true, List.cons.injEq, exists_eq_left']
theorem slicesNaN_str (a : ByteArray) : PCall P 140 [str a] (fun x => x = bool false) := by
  refine q0d tyOk Tryz.func140 rfl rfl ?_
  intro K hK
  simp only [Tryz.ntmps140, List.length_cons, List.length_nil, Nat.reduceAdd, Nat.reduceSub, List.replicate, List.cons_append, List.nil_append]
  try simp only [seval, go_sem]
  apply hK
  simp only [Tryz.results140, retK, ares, List.take_nil, Bool.and_true, Bool.true_and, AV.ofResults, St.trunc, q00, q01, List.getD_cons_zero, List.getD_cons_succ, List.map_nil, true_and, and_true, List.cons.injEq, exists_eq_left']
theorem less_str (a b : ByteArray) : PCall P 139 [str a, str b] (fun x => x = bool (ltS a b)) := by
  refine q0d tyOk Tryz.func139 rfl rfl ?_
  intro K hK
  simp only [Tryz.ntmps139, List.length_cons, List.length_nil, Nat.reduceAdd, Nat.reduceSub, List.replicate, List.cons_append, List.nil_append]
  try simp only [seval, go_sem]
  (refine q02 (cmpNaN_str a) rfl ?_; rintro _ rfl)
  try simp only [seval, go_sem]
  apply hK
  simp only [Tryz.results139, retK, ares, List.take_nil, Bool.and_true, Bool.true_and, AV.ofResults, St.trunc, q00, q01, List.getD_cons_zero, List.getD_cons_succ, List.map_nil, true_and, and_true, List.cons.injEq, exists_eq_left']
  rfl
theorem search_str (ks : List ByteArray) (hr : Rises ltS ks) (k : ByteArray) (hlen : ks.length ≤ 1000000) :
    PCall P 123 [.sl 1 (ks.map fun x => str x), str k] (fun x => x = .tup [i64 ((lb ltS ks k : Nat) : Int), bool (hasAt ltS eqS ks k)]) := by
  refine q0d tyOk Tryz.func123 rfl rfl ?_
  intro K hK
  simp only [Tryz.ntmps123, List.length_cons, List.length_nil, Nat.reduceAdd, Nat.reduceSub, List.replicate, List.cons_append, List.nil_append]
  try simp only [seval, go_sem, List.length_map]
  have hle := lb_le (lt := ltS) ks k
  refine q12 tyOk (α := Nat × Nat) 0 [0, 1, 4, 5, 6, 7, 8] (fun q => q.1 ≤ lb ltS ks k ∧ lb ltS ks k ≤ q.2 ∧ q.2 ≤ ks.length)
    (fun q => ⟨[.sl 1 (ks.map fun x => str x), str k, .any, .any, i64 0, bool false, i64 ks.length, i64 q.1, i64 q.2, .any, .any, .any, .any, .any, .any, .any, .any, .any, .any, .any, .any, .any, .any, .any, .any, .any, .any, .any, .any, .any, .any, .any, .any, .any, .any, .any, .any, .any, .any, .any, .any, .any, .any, .any, .any, .any, .any, .any, .any, .any, .any, .any, .any, .any], []⟩)
    (fun q => q.2 - q.1) (0, ks.length) (Nat.zero_le _) ⟨Nat.zero_le _, hle, Nat.le_refl _⟩ rfl ?_
  rintro ⟨i, j⟩ ⟨h1, h2, h3⟩
  simp only at h1 h2 h3
  try simp only [seval, go_sem]
  (first | refine q05 ?_ ?_ | refine q08 ?_ ?_ | refine q09 ?_ ?_ | refine q07 ?_ ?_ | refine q06 ?_ ?_) <;> intro hc <;> try simp only [seval, go_sem]
  · have hij : i < j := by simpa using hc
    obtain ⟨hh, hlt, ew⟩ := half_idx (i := i) (j := j) (by omega) hij
    have hhn : (i + j) / 2 < ks.length := by omega
    have eg := q2e (f := fun x : ByteArray => str x) hhn
    have k1 : (0 : Int) ≤ (((i + j) / 2 : Nat) : Int) ∧ Int.toNat (((i + j) / 2 : Nat) : Int) < ks.length := by omega
    have w1 : IntKind.i64.wrap ((((i + j) / 2 : Nat) : Int) + 1) = (((i + j) / 2 + 1 : Nat) : Int) := by rw [wrap_i64 (by omega) (by omega)]; rfl
    try simp only [seval, go_sem, ew, eg, k1, List.length_map]
    (refine q02 (less_str _ k) rfl ?_; rintro _ rfl)
    cases hl : ltS ks[(i + j) / 2] k
    · try simp only [seval, go_sem]
      simp only [q0f, St.trunc, St.keep, q00, q01, keepV, List.elem_cons, List.elem_nil, List.take_zero, List.map_nil, Nat.reduceAdd, Nat.reduceBEq, Nat.zero_add, Bool.false_eq_true, ↓reduceIte]
      refine ⟨(i, (i + j) / 2), ⟨h1, ?_, by omega⟩, by simp only; omega, rfl⟩
      apply Nat.le_of_not_lt
      intro hb
      have := lb_lt (lt := ltS) hb
      rw [hl] at this; cases this
    · try simp only [seval, go_sem, w1]
      simp only [q0f, St.trunc, St.keep, q00, q01, keepV, List.elem_cons, List.elem_nil, List.take_zero, List.map_nil, Nat.reduceAdd, Nat.reduceBEq, Nat.zero_add, Bool.false_eq_true, ↓reduceIte]
      refine ⟨((i + j) / 2 + 1, j), ⟨?_, h2, h3⟩, by simp only; omega, rfl⟩
      apply Nat.lt_of_not_le
      intro hb
      have := lb_ge ordS hr hhn hb
      rw [hl] at this; cases this
  · have hij : ¬ i < j := by simpa using hc
    obtain rfl : i = lb ltS ks k := by omega
    by_cases hn : lb ltS ks k < ks.length
    · have eg := q2e (f := fun x : ByteArray => str x) hn
      have k1 : (0 : Int) ≤ ((lb ltS ks k : Nat) : Int) ∧ Int.toNat ((lb ltS ks k : Nat) : Int) < ks.length := by omega
      have d1 : decide (((lb ltS ks k : Nat) : Int) < (ks.length : Int)) = true := decide_eq_true (by omega)
      have hh := hasAt_lt (eq := eqS) hn
      rw [hh] at hK
      cases he : eqS ks[lb ltS ks k] k
      · rw [he] at hK
        have he' := he
        simp only [eqS] at he'
        try simp only [seval, go_sem, d1, eg, k1, List.length_map, he']
        (refine q02 (slicesNaN_str _) rfl ?_; rintro _ rfl)
        try simp only [seval, go_sem]
        apply hK
        simp only [Tryz.results123, retK, ares, List.take_nil, Bool.and_true, Bool.true_and, AV.ofResults, St.trunc, q00, q01, List.getD_cons_zero, List.getD_cons_succ, List.map_nil, true_and, and_true, List.cons.injEq, exists_eq_left']
      · rw [he] at hK
        have he' := he
        simp only [eqS] at he'
        try simp only [seval, go_sem, d1, eg, k1, List.length_map, he']
        apply hK
        simp only [Tryz.results123, retK, ares, List.take_nil, Bool.and_true, Bool.true_and, AV.ofResults, St.trunc, q00, q01, List.getD_cons_zero, List.getD_cons_succ, List.map_nil, true_and, and_true, List.cons.injEq, exists_eq_left']
    · have d1 : decide (((lb ltS ks k : Nat) : Int) < (ks.length : Int)) = false := decide_eq_false (by omega)
      rw [hasAt_ge hn] at hK
      try simp only [seval, go_sem, d1]
      apply hK
      simp only [Tryz.results123, retK, ares, List.take_nil, Bool.and_true, Bool.true_and, AV.ofResults, St.trunc, q00, q01, List.getD_cons_zero, List.getD_cons_succ, List.map_nil, true_and, and_true, List.cons.injEq, exists_eq_left']
end Go.Proofs.YtdkcpcflfnakdaaGreat
namespace Go.Proofs.YtdkcpcflfnakdaaGreat
open Go Go.Proofs.YtdkcpcflfnakdaaGreat.Sym
set_option maxRecDepth 100000
set_option maxHeartbeats 1000000
theorem clone_str (xs : List AV) (hlen : xs.length ≤ 1000000) :
    ACall P 103 [] [.sl 1 xs] (fun x m' => x = .own 0 1 0 xs.length ∧ m' = [.row 9 1 xs]) := by
  have hm : xs.length ≤ maxLen := by simp only [maxLen]; omega
  have hby : xs.length * 16 ≤ 140737488355328 := by omega
  by_cases h0 : xs = []
  · subst h0
    refine ACall.empty fun a cap => ?_
    cases a with
    | none =>
      refine ACall.weaken (K := fun x m' => x = .v (.slice none 0 0) ∧ m' = []) (q0h.toA (q1d tyOk Tryz.func103 rfl rfl (N := 0) (M := 1) (Nat.zero_le _) (by simp) ?_)) ?_
      · intro K hK
        simp only [Tryz.ntmps103, List.length_cons, List.length_nil, Nat.reduceAdd, Nat.reduceSub, List.replicate, List.cons_append, List.nil_append]
        try simp only [seval, go_sem]
        apply hK
        simp only [Tryz.results103, retK, ares, List.take_nil, Bool.and_true, AV.ofResults, St.trunc, q00, q01, List.getD_cons_zero, List.getD_cons_succ, List.map_nil, and_true, List.cons.injEq, exists_eq_left']
      · rintro x m' ⟨rfl, rfl⟩
        exact ⟨_, _, Turns.adopt (i := 0) 9 1 rfl, rfl, rfl⟩
    | some a =>
      refine q0h.toA (q1d tyOk Tryz.func103 rfl rfl (N := 0) (M := 1) (Nat.zero_le _) (by simp) ?_)
      intro K hK
      simp only [Tryz.ntmps103, List.length_cons, List.length_nil, Nat.reduceAdd, Nat.reduceSub, List.replicate, List.cons_append, List.nil_append]
      try simp only [seval, go_sem]
      apply hK
      simp only [Tryz.results103, retK, ares, List.take_nil, Bool.and_true, AV.ofResults, St.trunc, q00, q01, AB.trunc, List.getD_cons_zero, List.getD_cons_succ, List.take_succ_cons, List.map_nil, List.map_cons, List.length_nil, Nat.reduceLeDiff, and_true, ↓reduceIte, List.cons.injEq, exists_eq_left']
  · have hpos : 0 < xs.length := List.length_pos_iff.2 h0
    refine q0h.toA (q1d tyOk Tryz.func103 rfl rfl (N := 0) (M := 1) (Nat.zero_le _) (by simp) ?_)
    intro K hK
    simp only [Tryz.ntmps103, List.length_cons, List.length_nil, Nat.reduceAdd, Nat.reduceSub, List.replicate, List.cons_append, List.nil_append]
    try simp only [seval, go_sem, hpos]
    refine ⟨⟨hm, hby⟩, ?_⟩
    try simp only [seval, go_sem]
    apply hK
    simp only [Tryz.results103, retK, ares, List.take_nil, Bool.and_true, AV.ofResults, St.trunc, q00, q01, AB.trunc, List.getD_cons_zero, List.getD_cons_succ, List.take_succ_cons, List.map_nil, List.map_cons, Nat.reduceLeDiff, and_true, ↓reduceIte, List.cons.injEq, exists_eq_left']
theorem delete_str (xs : List AV) (i : Nat) (hi : i < xs.length) (hlen : xs.length ≤ 1000000) :
    ACall P 102 [.row 9 1 xs] [.own 0 1 0 xs.length, i64 (i : Int), i64 ((i + 1 : Nat) : Int)] (fun x m' => x = .own 0 1 0 (xs.length - 1) ∧ m' = [.row 9 1 (xs.take i ++ xs.drop (i + 1) ++ [str .empty])]) := by
  refine ACall.weaken (K := fun x m' => x = .own 0 1 0 (xs.length - 1) ∧ ∃ N, m' = [.rowc 9 1 (xs.take i ++ xs.drop (i + 1) ++ [str .empty]) N]) (q0h.toA (m := [_]) (q0h.room (by decide) fun N hN _ => ?_)) ?_
  · refine q2p tyOk Tryz.func102 rfl rfl (by simp) ?_
    intro K hK
    simp only [Tryz.ntmps102, List.length_cons, List.length_nil, Nat.reduceAdd, Nat.reduceSub, List.replicate, List.cons_append, List.nil_append]
    have f1 : ((i : Int) == ((i + 1 : Nat) : Int)) = false := by simp; omega
    try simp only [seval, go_sem, Int.toNat_natCast, f1]
    refine ⟨by omega, ?_⟩
    by_cases he : i + 1 = xs.length
    · have e1 : (xs.take i ++ xs.drop i).length = xs.length := by rw [List.take_append_drop]
      have e2 : ((xs.take i ++ xs.drop i).take i ++ List.replicate (xs.length - i) (str .empty)) ++ (xs.take i ++ xs.drop i).drop (i + (xs.length - i)) = xs.take i ++ xs.drop (i + 1) ++ [str .empty] := by
        rw [List.take_append_drop, List.drop_of_length_le (by omega), List.drop_of_length_le (by omega), show xs.length - i = 1 by omega, List.append_nil, List.append_nil]
        rfl
      have hni : ¬ i = xs.length := by omega
      refine q0k tyOk (by rfl) (by simp only [List.length_cons, List.length_nil, Nat.reduceAdd, Nat.le_refl]) (by kernel_rfl) rfl ?_
      try simp only [seval, go_sem, Int.toNat_natCast, he]
      refine ⟨by omega, by omega, by omega, ?_⟩
      refine ⟨by kernel_rfl, ?_⟩
      try simp only [seval, go_sem, Int.toNat_natCast, hni, e1]
      refine ⟨by omega, by omega, ?_⟩
      apply hK
      simp only [Tryz.results102, retK, ares, List.take_nil, Bool.and_true, AV.ofResults, St.trunc, q00, q01, AB.trunc, List.getD_cons_zero, List.getD_cons_succ, List.take_succ_cons, List.map_nil, List.map_cons, List.length_cons, List.length_nil, Nat.reduceAdd, Nat.reduceLeDiff, and_true, ↓reduceIte, List.cons.injEq, exists_eq_left']
      simp only [e2]
      exact ⟨by congr 1; omega, N, rfl⟩
    · have hd : (xs.drop (i + 1)).length = xs.length - (i + 1) := by simp
      have ht : (xs.drop (i + 1)).take (xs.length - (i + 1)) = xs.drop (i + 1) := List.take_of_length_le (by simp)
      have hni : ¬ i + (xs.length - (i + 1)) = xs.length := by omega
      have e1 : (xs.take i ++ xs.drop (i + 1) ++ xs.drop (i + (xs.length - (i + 1)))).length = xs.length := by simp; omega
      have e2 : (xs.take i ++ xs.drop (i + 1) ++ xs.drop (i + (xs.length - (i + 1)))).take (i + (xs.length - (i + 1))) ++ List.replicate (xs.length - (i + (xs.length - (i + 1)))) (str .empty) ++
          (xs.take i ++ xs.drop (i + 1) ++ xs.drop (i + (xs.length - (i + 1)))).drop (i + (xs.length - (i + 1)) + (xs.length - (i + (xs.length - (i + 1))))) = xs.take i ++ xs.drop (i + 1) ++ [str .empty] := by
        rw [show xs.length - (i + (xs.length - (i + 1))) = 1 by omega, List.drop_of_length_le (l := xs.take i ++ xs.drop (i + 1) ++ xs.drop (i + (xs.length - (i + 1)))) (by rw [e1]; omega), List.append_nil,
          List.take_append_of_le_length (by simp; omega), List.take_of_length_le (by simp; omega)]
        rfl
      refine q0k tyOk (by rfl) (by simp only [List.length_cons, List.length_nil, Nat.reduceAdd, Nat.le_refl]) (by kernel_rfl) rfl ?_
      try simp only [seval, go_sem, Int.toNat_natCast, he, ht, hd]
      refine ⟨by omega, by omega, by omega, ?_⟩
      refine ⟨by kernel_rfl, ?_⟩
      try simp only [seval, go_sem, Int.toNat_natCast, hni, e1]
      refine ⟨by omega, by omega, ?_⟩
      apply hK
      simp only [Tryz.results102, retK, ares, List.take_nil, Bool.and_true, AV.ofResults, St.trunc, q00, q01, AB.trunc, List.getD_cons_zero, List.getD_cons_succ, List.take_succ_cons, List.map_nil, List.map_cons, List.length_cons, List.length_nil, Nat.reduceAdd, Nat.reduceLeDiff, and_true, ↓reduceIte, List.cons.injEq, exists_eq_left']
      simp only [e2]
      exact ⟨by congr 1; omega, N, rfl⟩
  · rintro x m' ⟨rfl, N, rfl⟩
    exact ⟨_, _, Turns.unroom, rfl, rfl⟩
theorem insert_str (xs : List AV) (v : AV) (i : Nat) (hi : i ≤ xs.length) (hlen : xs.length ≤ 1000000) :
    q0j P (fun _ => false) 106 [.row 9 1 xs] [.own 0 1 0 xs.length, i64 (i : Int), .sl 1 [v]] (fun x m' => x = .own 0 1 0 (xs.length + 1) ∧ m' = [.row 9 1 (xs.take i ++ [v] ++ xs.drop i)]) := by
  refine q0h.relocate (q0h.room (by decide) fun N hN _ => q1d tyOk Tryz.func106 rfl rfl (N := 0) (M := 2) (Nat.zero_le _) (by simp) ?_)
  intro K hK
  simp only [Tryz.ntmps106, List.length_cons, List.length_nil, Nat.reduceAdd, Nat.reduceSub, List.replicate, List.cons_append, List.nil_append]
  have w1 : IntKind.i64.wrap ((xs.length : Int) + ((1 : Nat) : Int)) = ((xs.length + 1 : Nat) : Int) := by rw [wrap_i64 (by omega) (by omega)]; rfl
  have w2 : IntKind.i64.wrap ((i : Int) + ((1 : Nat) : Int)) = ((i + 1 : Nat) : Int) := by rw [wrap_i64 (by omega) (by omega)]; rfl
  have w3 : IntKind.i64.wrap (((xs.length + 1 : Nat) : Int) - (i : Int)) = ((xs.length + 1 - i : Nat) : Int) := by rw [wrap_i64 (by omega) (by omega)]; omega
  have c1 : (((1 : Nat) : Int) == 0) = false := by decide
  by_cases hin : i = xs.length
  · subst hin
    try simp only [seval, go_sem, -Int.reduceNatCast, -Int.reduceNatCast', -Nat.reduceSubDiff, Int.toNat_natCast, c1]
    refine ⟨by omega, ?_⟩
    by_cases hr : xs.length + 1 ≤ N
    · try simp only [seval, go_sem, -Int.reduceNatCast, -Int.reduceNatCast', -Nat.reduceSubDiff, hr]
      apply hK
      simp only [Tryz.results106, retK, ares, List.take_nil, Bool.and_true, Bool.true_and, AV.ofResults, St.trunc, q00, q01, AB.trunc, List.getD_cons_zero, List.getD_cons_succ, List.take_succ_cons, List.map_nil, List.map_cons, Nat.reduceLeDiff, true_and, and_true, ↓reduceIte, List.cons.injEq, exists_eq_left']
      exact .inl ⟨N, [], by simp⟩
    · try simp only [seval, go_sem, -Int.reduceNatCast, -Int.reduceNatCast', -Nat.reduceSubDiff, hr]
      refine ⟨⟨by simp only [maxLen]; omega, by omega⟩, ?_⟩
      try simp only [seval, go_sem, -Int.reduceNatCast, -Int.reduceNatCast', -Nat.reduceSubDiff]
      apply hK
      simp only [Tryz.results106, retK, ares, List.take_nil, Bool.and_true, Bool.true_and, AV.ofResults, St.trunc, q00, q01, AB.trunc, List.getD_cons_zero, List.getD_cons_succ, List.take_succ_cons, List.map_nil, List.map_cons, Nat.reduceLeDiff, true_and, and_true, ↓reduceIte, List.cons.injEq, exists_eq_left']
      exact .inr (by simp)
  · have hlt : i < xs.length := by omega
    have c2 : ((i : Int) == (xs.length : Int)) = false := by simp; omega
    by_cases hr : xs.length + 1 ≤ N
    · have d1 : decide ((N : Int) < ((xs.length + 1 : Nat) : Int)) = false := decide_eq_false (by omega)
      have n1 : ¬ i + 1 = xs.length + 1 := by omega
      have n2 : ¬ i = xs.length + 1 := by omega
      try simp only [seval, go_sem, -Int.reduceNatCast, -Int.reduceNatCast', -Nat.reduceSubDiff, Int.toNat_natCast, c1, c2, w1, w2, Nat.sub_zero, d1, hin, n1, n2]
      refine ⟨by omega, by omega, by omega, ?_⟩
      refine q33 ?_
      try simp only [seval, go_sem, -Int.reduceNatCast, -Int.reduceNatCast', -Nat.reduceSubDiff]
      refine callG_ext (q4k (tS := 23) (tR := 4) (e := 9) tyOk Tryz.func124 rfl rfl (by kernel_rfl) (by kernel_rfl) rfl rfl rfl (by decide) rfl rfl) ?_
      try simp only [seval, go_sem, -Int.reduceNatCast, -Int.reduceNatCast', -Nat.reduceSubDiff]
      have ek : (xs.drop i).take (min (xs.length + 1 - (i + 1)) (xs.length + 1 - i)) = xs.drop i := List.take_of_length_le (by simp; omega)
      refine q0k tyOk (by rfl) (by simp only [List.length_cons, List.length_nil, Nat.reduceAdd, Nat.zero_le]) (by kernel_rfl) rfl ?_
      try simp only [seval, go_sem, -Int.reduceNatCast, -Int.reduceNatCast', -Nat.reduceSubDiff, Int.toNat_natCast, w2, n1, n2, ek]
      refine ⟨by omega, by omega, by omega, ?_⟩
      refine ⟨by kernel_rfl, ?_⟩
      have es : List.take (xs.length + 1 - i) [v] = [v] := List.take_of_length_le (by simp; omega)
      have e3 : (xs.take (i + 1) ++ xs.drop i ++ xs.drop (i + 1 + (xs.drop i).length)).take i ++ [v] ++ (xs.take (i + 1) ++ xs.drop i ++ xs.drop (i + 1 + (xs.drop i).length)).drop (i + 1) = xs.take i ++ [v] ++ xs.drop i := by
        have hl : (xs.take (i + 1)).length = i + 1 := by simp; omega
        have hd : xs.drop (i + 1 + (xs.drop i).length) = [] := List.drop_of_length_le (by simp; omega)
        rw [hd, List.append_nil, List.take_append_of_le_length (by omega), List.take_take, Nat.min_eq_left (by omega),
          List.drop_append_of_le_length (by omega), List.drop_of_length_le (by omega), List.nil_append]
      try simp only [seval, go_sem, -Int.reduceNatCast, -Int.reduceNatCast', -Nat.reduceSubDiff, Int.toNat_natCast, n2, es]
      refine ⟨by omega, ⟨by omega, by simp; omega⟩, ?_⟩
      apply hK
      simp only [Tryz.results106, retK, ares, List.take_nil, Bool.and_true, Bool.true_and, AV.ofResults, St.trunc, q00, q01, AB.trunc, List.getD_cons_zero, List.getD_cons_succ, List.take_succ_cons, List.map_nil, List.map_cons, Nat.reduceLeDiff, true_and, and_true, ↓reduceIte, List.cons.injEq, exists_eq_left']
      exact .inl ⟨N, [], by rw [e3, List.append_nil]⟩
    · have d1 : decide ((N : Int) < ((xs.length + 1 : Nat) : Int)) = true := decide_eq_true (by omega)
      have g1 : ¬ i + (xs.length + 1 - i) ≤ N := by omega
      have g2 : ¬ i = i + (xs.length + 1 - i) := by omega
      have g3 : ¬ i + 1 = i + (xs.length + 1 - i) := by omega
      have g4 : List.take (i + (xs.length + 1 - i) - i) [v] = [v] := List.take_of_length_le (by simp; omega)
      have g5 : (xs.drop i).take (min (i + (xs.length + 1 - i) - (i + 1)) (xs.length - i)) = xs.drop i := List.take_of_length_le (by simp; omega)
      try simp only [seval, go_sem, -Int.reduceNatCast, -Int.reduceNatCast', -Nat.reduceSubDiff, Int.toNat_natCast, c1, c2, w1, w2, w3, Nat.sub_zero, d1, hin, g1, g2, g4]
      refine ⟨by omega, by omega, ⟨by omega, by omega, by omega, by omega, by simp only [maxLen]; omega, by omega⟩, by omega, ⟨by omega, by simp; omega⟩, ?_⟩
      refine q0k tyOk (by rfl) (by simp only [List.length_cons, List.length_nil, Nat.reduceAdd, Nat.zero_le]) (by kernel_rfl) rfl ?_
      try simp only [seval, go_sem, -Int.reduceNatCast, -Int.reduceNatCast', -Nat.reduceSubDiff, Int.toNat_natCast, w2, g3, g5, hin]
      have hB : (xs.take i ++ List.replicate (xs.length + 1 - i) (str .empty)).take i = xs.take i := by
        rw [List.take_append_of_le_length (by simp; omega), List.take_take, Nat.min_self]
      have hli : (xs.take i).length = i := by simp; omega
      rw [hB]
      refine ⟨by omega, by omega, ⟨by omega, by omega, by simp; omega⟩, ?_⟩
      refine ⟨by kernel_rfl, ?_⟩
      try simp only [seval, go_sem, -Int.reduceNatCast, -Int.reduceNatCast', -Nat.reduceSubDiff, hB]
      apply hK
      simp only [Tryz.results106, retK, ares, List.take_nil, Bool.and_true, AV.ofResults, St.trunc, q00, q01, AB.trunc, List.getD_cons_zero, List.getD_cons_succ, List.take_succ_cons, List.map_nil, List.map_cons, Nat.reduceLeDiff, and_true, ↓reduceIte, List.cons.injEq, exists_eq_left']
      have e4 : ∀ D : List AV, (xs.take i ++ [v] ++ D).take (i + 1) = xs.take i ++ [v] := fun D => by
        rw [List.take_append_of_le_length (by simp; omega), List.take_of_length_le (by simp; omega)]
      have e5 : (xs.take i ++ [v] ++ (xs.take i ++ List.replicate (xs.length + 1 - i) (str .empty)).drop (i + 1)).drop (i + 1 + (xs.drop i).length) = [] := List.drop_of_length_le (by simp; omega)
      refine .inr ?_
      rw [e4, e5, List.append_nil]
      exact ⟨by congr 1; omega, rfl⟩
end Go.Proofs.YtdkcpcflfnakdaaGreat
namespace Go.Proofs.YtdkcpcflfnakdaaGreat
open Go Go.Proofs.YtdkcpcflfnakdaaGreat.Sym
set_option maxRecDepth 100000
set_option maxHeartbeats 1000000
structure Pr where
  st : Int
  pr : Int
  n : Int
  deriving DecidableEq
def Pr.av (p : Pr) : AV := .agg [i64 p.st, i64 p.pr, i64 p.n]
structure Chg where
  u : ByteArray
  old : Pr
  new : Pr
  deriving DecidableEq
def Chg.av (c : Chg) : AV := .agg [str c.u, i64 c.old.st, i64 c.old.pr, i64 c.old.n, i64 c.new.st, i64 c.new.pr, i64 c.new.n]
def chgs (l : List Chg) : List AV := l.map Chg.av
theorem chgs_len (l : List Chg) : (chgs l).length = l.length := by simp [chgs]
theorem pr_beq (a b : Pr) : (a.st == b.st && (a.pr == b.pr && a.n == b.n)) = decide (a = b) := by
  cases a; cases b
  rw [Bool.eq_iff_iff]
  simp
end Go.Proofs.YtdkcpcflfnakdaaGreat
namespace Go.Proofs.YtdkcpcflfnakdaaGreat
open Go Go.Proofs.YtdkcpcflfnakdaaGreat.Sym
set_option maxRecDepth 100000
set_option maxHeartbeats 1000000
structure Ses where
  id : Int
  st : Int
  pr : Int
  un : Int
  deriving DecidableEq
def Ses.av (s : Ses) : AV := .agg [i64 s.id, i64 s.st, i64 s.pr, u64 s.un]
abbrev sess (id st pr un : Int) : AV := .agg [i64 id, i64 st, i64 pr, u64 un]
def avs (l : List Ses) : List AV := l.map Ses.av
def Ses.lives (now : Int) (s : Ses) : Bool := !decide (s.un ≤ now)
def lives (now : Int) (l : List Ses) : List Ses := l.filter (Ses.lives now)
def Ses.ok (s : Ses) : Prop := (Lit.int .i64 s.id).wf = true ∧ (Lit.int .i64 s.st).wf = true ∧ (Lit.int .i64 s.pr).wf = true ∧ (Lit.int .u64 s.un).wf = true
theorem tick_Late (a b : Int) : PCall P 117 [u64 a, u64 b] (fun x => x = bool (decide (b ≤ a))) := by
  refine q0d tyOk Tryz.func117 rfl rfl ?_
  intro K hK
  simp only [Tryz.ntmps117, List.length_cons, List.length_nil, Nat.reduceAdd, Nat.reduceSub, List.replicate, List.cons_append, List.nil_append]
  try simp only [seval, go_sem]
  apply hK
  simp only [Tryz.results117, retK, ares, List.take_nil, Bool.and_true, Bool.true_and, AV.ofResults, St.trunc, q00, q01, List.getD_cons_zero, List.getD_cons_succ, List.map_nil, true_and, and_true, List.cons.injEq, exists_eq_left']
theorem q0p (l : List Ses) : (avs l).length = l.length := by simp [avs]
theorem avs_get {l : List Ses} {i : Nat} (h : i < l.length) : (avs l).getD (Int.toNat (i : Int)) .any = (l[i]).av := by
  simp [avs, List.getD_eq_getElem?_getD, List.getElem?_map, List.getElem?_eq_getElem h]
theorem at_idx {l : List Ses} {i : Nat} (hb : l.length < 9223372036854775807) (h : decide ((i : Int) < (l.length : Int)) = true) :
    ∃ hlt : i < l.length, (avs l).getD (Int.toNat (i : Int)) .any = .agg [i64 (l[i]).id, i64 (l[i]).st, i64 (l[i]).pr, u64 (l[i]).un] ∧ IntKind.i64.wrap ((i : Int) + 1) = ((i + 1 : Nat) : Int) ∧ ((0 : Int) ≤ (i : Int) ∧ Int.toNat (i : Int) < l.length) := by
  have hlt : i < l.length := by simpa using h
  exact ⟨hlt, avs_get hlt, by rw [wrap_i64 (by omega) (by omega)]; rfl, by omega⟩
theorem at_end {n i : Nat} (hi : i ≤ n) (h : decide ((i : Int) < (n : Int)) = false) : i = n := by
  have : ¬ ((i : Int) < (n : Int)) := by simpa using h
  omega
theorem q56 {now : Int} {l : List Ses} {i : Nat} (h : i < l.length) (hl : (l[i]).lives now = false) : lives now (l.take (i + 1)) = lives now (l.take i) := by
  rw [q1f h, lives, List.filter_append, lives]; simp [hl]
theorem lives_take_in {now : Int} {l : List Ses} {i : Nat} (h : i < l.length) (hl : (l[i]).lives now = true) : lives now (l.take (i + 1)) = lives now (l.take i) ++ [l[i]] := by
  rw [q1f h, lives, List.filter_append, lives]; simp [hl]
theorem clone_ses (xs : List AV) (hlen : xs.length ≤ 1000000) :
    ACall P 115 [] [.sl 4 xs] (fun x m' => x = .own 0 4 0 xs.length ∧ m' = [.row 151 4 xs]) := by
  have hm : xs.length ≤ maxLen := by simp only [maxLen]; omega
  have hby : xs.length * 32 ≤ 140737488355328 := by omega
  by_cases h0 : xs = []
  · subst h0
    refine ACall.empty fun a cap => ?_
    cases a with
    | none =>
      refine ACall.weaken (K := fun x m' => x = .v (.slice none 0 0) ∧ m' = []) (q0h.toA (q1d tyOk Tryz.func115 rfl rfl (N := 0) (M := 1) (Nat.zero_le _) (by simp) ?_)) ?_
      · intro K hK
        simp only [Tryz.ntmps115, List.length_cons, List.length_nil, Nat.reduceAdd, Nat.reduceSub, List.replicate, List.cons_append, List.nil_append]
        try simp only [seval, go_sem]
        apply hK
        simp only [Tryz.results115, retK, ares, List.take_nil, Bool.and_true, AV.ofResults, St.trunc, q00, q01, List.getD_cons_zero, List.getD_cons_succ, List.map_nil, and_true, List.cons.injEq, exists_eq_left']
      · rintro x m' ⟨rfl, rfl⟩
        exact ⟨_, _, Turns.adopt (i := 0) 151 4 rfl, rfl, rfl⟩
    | some a =>
      refine q0h.toA (q1d tyOk Tryz.func115 rfl rfl (N := 0) (M := 1) (Nat.zero_le _) (by simp) ?_)
      intro K hK
      simp only [Tryz.ntmps115, List.length_cons, List.length_nil, Nat.reduceAdd, Nat.reduceSub, List.replicate, List.cons_append, List.nil_append]
      try simp only [seval, go_sem]
      apply hK
      simp only [Tryz.results115, retK, ares, List.take_nil, Bool.and_true, AV.ofResults, St.trunc, q00, q01, AB.trunc, List.getD_cons_zero, List.getD_cons_succ, List.take_succ_cons, List.map_nil, List.map_cons, List.length_nil, Nat.reduceLeDiff, and_true, ↓reduceIte, List.cons.injEq, exists_eq_left']
  · have hpos : 0 < xs.length := List.length_pos_iff.2 h0
    refine q0h.toA (q1d tyOk Tryz.func115 rfl rfl (N := 0) (M := 1) (Nat.zero_le _) (by simp) ?_)
    intro K hK
    simp only [Tryz.ntmps115, List.length_cons, List.length_nil, Nat.reduceAdd, Nat.reduceSub, List.replicate, List.cons_append, List.nil_append]
    try simp only [seval, go_sem, hpos]
    refine ⟨⟨hm, hby⟩, ?_⟩
    try simp only [seval, go_sem]
    apply hK
    simp only [Tryz.results115, retK, ares, List.take_nil, Bool.and_true, AV.ofResults, St.trunc, q00, q01, AB.trunc, List.getD_cons_zero, List.getD_cons_succ, List.take_succ_cons, List.map_nil, List.map_cons, Nat.reduceLeDiff, and_true, ↓reduceIte, List.cons.injEq, exists_eq_left']
theorem delete_ses (xs : List AV) (i : Nat) (hi : i < xs.length) (hlen : xs.length ≤ 1000000) :
    ACall P 120 [.row 151 4 xs] [.own 0 4 0 xs.length, i64 (i : Int), i64 ((i + 1 : Nat) : Int)] (fun x m' => x = .own 0 4 0 (xs.length - 1) ∧ m' = [.row 151 4 (xs.take i ++ xs.drop (i + 1) ++ [(AV.agg [i64 0, i64 0, i64 0, u64 0])])]) := by
  refine ACall.weaken (K := fun x m' => x = .own 0 4 0 (xs.length - 1) ∧ ∃ N, m' = [.rowc 151 4 (xs.take i ++ xs.drop (i + 1) ++ [(AV.agg [i64 0, i64 0, i64 0, u64 0])]) N]) (q0h.toA (m := [_]) (q0h.room (by decide) fun N hN _ => ?_)) ?_
  · refine q2p tyOk Tryz.func120 rfl rfl (by simp) ?_
    intro K hK
    simp only [Tryz.ntmps120, List.length_cons, List.length_nil, Nat.reduceAdd, Nat.reduceSub, List.replicate, List.cons_append, List.nil_append]
    have f1 : ((i : Int) == ((i + 1 : Nat) : Int)) = false := by simp; omega
    try simp only [seval, go_sem, Int.toNat_natCast, f1]
    refine ⟨by omega, ?_⟩
    by_cases he : i + 1 = xs.length
    · have e1 : (xs.take i ++ xs.drop i).length = xs.length := by rw [List.take_append_drop]
      have e2 : ((xs.take i ++ xs.drop i).take i ++ List.replicate (xs.length - i) ((AV.agg [i64 0, i64 0, i64 0, u64 0]))) ++ (xs.take i ++ xs.drop i).drop (i + (xs.length - i)) = xs.take i ++ xs.drop (i + 1) ++ [(AV.agg [i64 0, i64 0, i64 0, u64 0])] := by
        rw [List.take_append_drop, List.drop_of_length_le (by omega), List.drop_of_length_le (by omega), show xs.length - i = 1 by omega, List.append_nil, List.append_nil]
        rfl
      have hni : ¬ i = xs.length := by omega
      refine q0k tyOk (by rfl) (by simp only [List.length_cons, List.length_nil, Nat.reduceAdd, Nat.le_refl]) (by kernel_rfl) rfl ?_
      try simp only [seval, go_sem, Int.toNat_natCast, he]
      refine ⟨by omega, by omega, by omega, ?_⟩
      refine ⟨by kernel_rfl, ?_⟩
      try simp only [seval, go_sem, Int.toNat_natCast, hni, e1]
      refine ⟨by omega, by omega, ?_⟩
      apply hK
      simp only [Tryz.results120, retK, ares, List.take_nil, Bool.and_true, AV.ofResults, St.trunc, q00, q01, AB.trunc, List.getD_cons_zero, List.getD_cons_succ, List.take_succ_cons, List.map_nil, List.map_cons, List.length_cons, List.length_nil, Nat.reduceAdd, Nat.reduceLeDiff, and_true, ↓reduceIte, List.cons.injEq, exists_eq_left']
      simp only [e2]
      exact ⟨by congr 1; omega, N, rfl⟩
    · have hd : (xs.drop (i + 1)).length = xs.length - (i + 1) := by simp
      have ht : (xs.drop (i + 1)).take (xs.length - (i + 1)) = xs.drop (i + 1) := List.take_of_length_le (by simp)
      have hni : ¬ i + (xs.length - (i + 1)) = xs.length := by omega
      have e1 : (xs.take i ++ xs.drop (i + 1) ++ xs.drop (i + (xs.length - (i + 1)))).length = xs.length := by simp; omega
      have e2 : (xs.take i ++ xs.drop (i + 1) ++ xs.drop (i + (xs.length - (i + 1)))).take (i + (xs.length - (i + 1))) ++ List.replicate (xs.length - (i + (xs.length - (i + 1)))) ((AV.agg [i64 0, i64 0, i64 0, u64 0])) ++
          (xs.take i ++ xs.drop (i + 1) ++ xs.drop (i + (xs.length - (i + 1)))).drop (i + (xs.length - (i + 1)) + (xs.length - (i + (xs.length - (i + 1))))) = xs.take i ++ xs.drop (i + 1) ++ [(AV.agg [i64 0, i64 0, i64 0, u64 0])] := by
        rw [show xs.length - (i + (xs.length - (i + 1))) = 1 by omega, List.drop_of_length_le (l := xs.take i ++ xs.drop (i + 1) ++ xs.drop (i + (xs.length - (i + 1)))) (by rw [e1]; omega), List.append_nil,
          List.take_append_of_le_length (by simp; omega), List.take_of_length_le (by simp; omega)]
        rfl
      refine q0k tyOk (by rfl) (by simp only [List.length_cons, List.length_nil, Nat.reduceAdd, Nat.le_refl]) (by kernel_rfl) rfl ?_
      try simp only [seval, go_sem, Int.toNat_natCast, he, ht, hd]
      refine ⟨by omega, by omega, by omega, ?_⟩
      refine ⟨by kernel_rfl, ?_⟩
      try simp only [seval, go_sem, Int.toNat_natCast, hni, e1]
      refine ⟨by omega, by omega, ?_⟩
      apply hK
      simp only [Tryz.results120, retK, ares, List.take_nil, Bool.and_true, AV.ofResults, St.trunc, q00, q01, AB.trunc, List.getD_cons_zero, List.getD_cons_succ, List.take_succ_cons, List.map_nil, List.map_cons, List.length_cons, List.length_nil, Nat.reduceAdd, Nat.reduceLeDiff, and_true, ↓reduceIte, List.cons.injEq, exists_eq_left']
      simp only [e2]
      exact ⟨by congr 1; omega, N, rfl⟩
  · rintro x m' ⟨rfl, N, rfl⟩
    exact ⟨_, _, Turns.unroom, rfl, rfl⟩
theorem insert_ses (xs : List AV) (v : AV) (i : Nat) (hi : i ≤ xs.length) (hlen : xs.length ≤ 1000000) :
    q0j P (fun _ => false) 119 [.row 151 4 xs] [.own 0 4 0 xs.length, i64 (i : Int), .sl 4 [v]] (fun x m' => x = .own 0 4 0 (xs.length + 1) ∧ m' = [.row 151 4 (xs.take i ++ [v] ++ xs.drop i)]) := by
  refine q0h.relocate (q0h.room (by decide) fun N hN _ => q1d tyOk Tryz.func119 rfl rfl (N := 0) (M := 2) (Nat.zero_le _) (by simp) ?_)
  intro K hK
  simp only [Tryz.ntmps119, List.length_cons, List.length_nil, Nat.reduceAdd, Nat.reduceSub, List.replicate, List.cons_append, List.nil_append]
  have w1 : IntKind.i64.wrap ((xs.length : Int) + ((1 : Nat) : Int)) = ((xs.length + 1 : Nat) : Int) := by rw [wrap_i64 (by omega) (by omega)]; rfl
  have w2 : IntKind.i64.wrap ((i : Int) + ((1 : Nat) : Int)) = ((i + 1 : Nat) : Int) := by rw [wrap_i64 (by omega) (by omega)]; rfl
  have w3 : IntKind.i64.wrap (((xs.length + 1 : Nat) : Int) - (i : Int)) = ((xs.length + 1 - i : Nat) : Int) := by rw [wrap_i64 (by omega) (by omega)]; omega
  have c1 : (((1 : Nat) : Int) == 0) = false := by decide
  by_cases hin : i = xs.length
  · subst hin
    try simp only [seval, go_sem, -Int.reduceNatCast, -Int.reduceNatCast', -Nat.reduceSubDiff, Int.toNat_natCast, c1]
    refine ⟨by omega, ?_⟩
    by_cases hr : xs.length + 1 ≤ N
    · try simp only [seval, go_sem, -Int.reduceNatCast, -Int.reduceNatCast', -Nat.reduceSubDiff, hr]
      apply hK
      simp only [Tryz.results119, retK, ares, List.take_nil, Bool.and_true, Bool.true_and, AV.ofResults, St.trunc, q00, q01, AB.trunc, List.getD_cons_zero, List.getD_cons_succ, List.take_succ_cons, List.map_nil, List.map_cons, Nat.reduceLeDiff, true_and, and_true, ↓reduceIte, List.cons.injEq, exists_eq_left']
      exact .inl ⟨N, [], by simp⟩
    · try simp only [seval, go_sem, -Int.reduceNatCast, -Int.reduceNatCast', -Nat.reduceSubDiff, hr]
      refine ⟨⟨by simp only [maxLen]; omega, by omega⟩, ?_⟩
      try simp only [seval, go_sem, -Int.reduceNatCast, -Int.reduceNatCast', -Nat.reduceSubDiff]
      apply hK
      simp only [Tryz.results119, retK, ares, List.take_nil, Bool.and_true, Bool.true_and, AV.ofResults, St.trunc, q00, q01, AB.trunc, List.getD_cons_zero, List.getD_cons_succ, List.take_succ_cons, List.map_nil, List.map_cons, Nat.reduceLeDiff, true_and, and_true, ↓reduceIte, List.cons.injEq, exists_eq_left']
      exact .inr (by simp)
  · have hlt : i < xs.length := by omega
    have c2 : ((i : Int) == (xs.length : Int)) = false := by simp; omega
    by_cases hr : xs.length + 1 ≤ N
    · have d1 : decide ((N : Int) < ((xs.length + 1 : Nat) : Int)) = false := decide_eq_false (by omega)
      have n1 : ¬ i + 1 = xs.length + 1 := by omega
      have n2 : ¬ i = xs.length + 1 := by omega
      try simp only [seval, go_sem, -Int.reduceNatCast, -Int.reduceNatCast', -Nat.reduceSubDiff, Int.toNat_natCast, c1, c2, w1, w2, Nat.sub_zero, d1, hin, n1, n2]
      refine ⟨by omega, by omega, by omega, ?_⟩
      refine q33 ?_
      try simp only [seval, go_sem, -Int.reduceNatCast, -Int.reduceNatCast', -Nat.reduceSubDiff]
      refine callG_ext (q4k (tS := 113) (tR := 4) (e := 151) tyOk Tryz.func136 rfl rfl (by kernel_rfl) (by kernel_rfl) rfl rfl rfl (by decide) rfl rfl) ?_
      try simp only [seval, go_sem, -Int.reduceNatCast, -Int.reduceNatCast', -Nat.reduceSubDiff]
      have ek : (xs.drop i).take (min (xs.length + 1 - (i + 1)) (xs.length + 1 - i)) = xs.drop i := List.take_of_length_le (by simp; omega)
      refine q0k tyOk (by rfl) (by simp only [List.length_cons, List.length_nil, Nat.reduceAdd, Nat.zero_le]) (by kernel_rfl) rfl ?_
      try simp only [seval, go_sem, -Int.reduceNatCast, -Int.reduceNatCast', -Nat.reduceSubDiff, Int.toNat_natCast, w2, n1, n2, ek]
      refine ⟨by omega, by omega, by omega, ?_⟩
      refine ⟨by kernel_rfl, ?_⟩
      have es : List.take (xs.length + 1 - i) [v] = [v] := List.take_of_length_le (by simp; omega)
      have e3 : (xs.take (i + 1) ++ xs.drop i ++ xs.drop (i + 1 + (xs.drop i).length)).take i ++ [v] ++ (xs.take (i + 1) ++ xs.drop i ++ xs.drop (i + 1 + (xs.drop i).length)).drop (i + 1) = xs.take i ++ [v] ++ xs.drop i := by
        have hl : (xs.take (i + 1)).length = i + 1 := by simp; omega
        have hd : xs.drop (i + 1 + (xs.drop i).length) = [] := List.drop_of_length_le (by simp; omega)
        rw [hd, List.append_nil, List.take_append_of_le_length (by omega), List.take_take, Nat.min_eq_left (by omega),
          List.drop_append_of_le_length (by omega), List.drop_of_length_le (by omega), List.nil_append]
      try simp only [seval, go_sem, -Int.reduceNatCast, -Int.reduceNatCast', -Nat.reduceSubDiff, Int.toNat_natCast, n2, es]
      refine ⟨by omega, ⟨by omega, by simp; omega⟩, ?_⟩
      apply hK
      simp only [Tryz.results119, retK, ares, List.take_nil, Bool.and_true, Bool.true_and, AV.ofResults, St.trunc, q00, q01, AB.trunc, List.getD_cons_zero, List.getD_cons_succ, List.take_succ_cons, List.map_nil, List.map_cons, Nat.reduceLeDiff, true_and, and_true, ↓reduceIte, List.cons.injEq, exists_eq_left']
      exact .inl ⟨N, [], by rw [e3, List.append_nil]⟩
    · have d1 : decide ((N : Int) < ((xs.length + 1 : Nat) : Int)) = true := decide_eq_true (by omega)
      have g1 : ¬ i + (xs.length + 1 - i) ≤ N := by omega
      have g2 : ¬ i = i + (xs.length + 1 - i) := by omega
      have g3 : ¬ i + 1 = i + (xs.length + 1 - i) := by omega
      have g4 : List.take (i + (xs.length + 1 - i) - i) [v] = [v] := List.take_of_length_le (by simp; omega)
      have g5 : (xs.drop i).take (min (i + (xs.length + 1 - i) - (i + 1)) (xs.length - i)) = xs.drop i := List.take_of_length_le (by simp; omega)
      try simp only [seval, go_sem, -Int.reduceNatCast, -Int.reduceNatCast', -Nat.reduceSubDiff, Int.toNat_natCast, c1, c2, w1, w2, w3, Nat.sub_zero, d1, hin, g1, g2, g4]
      refine ⟨by omega, by omega, ⟨by omega, by omega, by omega, by omega, by simp only [maxLen]; omega, by omega⟩, by omega, ⟨by omega, by simp; omega⟩, ?_⟩
      refine q0k tyOk (by rfl) (by simp only [List.length_cons, List.length_nil, Nat.reduceAdd, Nat.zero_le]) (by kernel_rfl) rfl ?_
      try simp only [seval, go_sem, -Int.reduceNatCast, -Int.reduceNatCast', -Nat.reduceSubDiff, Int.toNat_natCast, w2, g3, g5, hin]
      have hB : (xs.take i ++ List.replicate (xs.length + 1 - i) ((AV.agg [i64 0, i64 0, i64 0, u64 0]))).take i = xs.take i := by
        rw [List.take_append_of_le_length (by simp; omega), List.take_take, Nat.min_self]
      have hli : (xs.take i).length = i := by simp; omega
      rw [hB]
      refine ⟨by omega, by omega, ⟨by omega, by omega, by simp; omega⟩, ?_⟩
      refine ⟨by kernel_rfl, ?_⟩
      try simp only [seval, go_sem, -Int.reduceNatCast, -Int.reduceNatCast', -Nat.reduceSubDiff, hB]
      apply hK
      simp only [Tryz.results119, retK, ares, List.take_nil, Bool.and_true, AV.ofResults, St.trunc, q00, q01, AB.trunc, List.getD_cons_zero, List.getD_cons_succ, List.take_succ_cons, List.map_nil, List.map_cons, Nat.reduceLeDiff, and_true, ↓reduceIte, List.cons.injEq, exists_eq_left']
      have e4 : ∀ D : List AV, (xs.take i ++ [v] ++ D).take (i + 1) = xs.take i ++ [v] := fun D => by
        rw [List.take_append_of_le_length (by simp; omega), List.take_of_length_le (by simp; omega)]
      have e5 : (xs.take i ++ [v] ++ (xs.take i ++ List.replicate (xs.length + 1 - i) ((AV.agg [i64 0, i64 0, i64 0, u64 0]))).drop (i + 1)).drop (i + 1 + (xs.drop i).length) = [] := List.drop_of_length_le (by simp; omega)
      refine .inr ?_
      rw [e4, e5, List.append_nil]
      exact ⟨by congr 1; omega, rfl⟩
end Go.Proofs.YtdkcpcflfnakdaaGreat
namespace Go.Proofs.YtdkcpcflfnakdaaGreat
open Go Go.Proofs.YtdkcpcflfnakdaaGreat.Sym
set_option maxRecDepth 100000
set_option maxHeartbeats 1000000
def has (l : List Ses) (id : Int) : Bool := l.any (fun s => s.id == id)
def clear (l : List Ses) (id : Int) : List Ses := l.filter (fun s => s.id != id)
def insStep (s : Ses) (o : List Ses × Bool) (r : Ses) : List Ses × Bool := if !o.2 && decide (s.id < r.id) then (o.1 ++ [s] ++ [r], true) else (o.1 ++ [r], o.2)
def insF (s : Ses) (l : List Ses) : List Ses × Bool := l.foldl (insStep s) ([], false)
def ins (s : Ses) (l : List Ses) : List Ses := if (insF s l).2 then (insF s l).1 else (insF s l).1 ++ [s]
def setF (l : List Ses) (s : Ses) (most : Int) : List Ses × Int := if !has l s.id && decide (most ≤ l.length) then (l, 2) else (ins s (clear l s.id), 0)
end Go.Proofs.YtdkcpcflfnakdaaGreat
namespace Go.Proofs.YtdkcpcflfnakdaaGreat
open Go Go.Proofs.YtdkcpcflfnakdaaGreat.Sym
set_option maxRecDepth 100000
set_option maxHeartbeats 1000000
def cmpF (a b : Int) : Int := if a < b then -1 else if b < a then 1 else 0
theorem cmp_lt (a b : Int) : decide (cmpF a b < 0) = ltI a b := by
  unfold cmpF ltI
  split
  · rename_i h; simp [h]
  · rename_i h
    split <;> simp [h]
theorem cmp_eq (a b : Int) : (cmpF a b == 0) = eqI a b := by
  unfold cmpF eqI
  rw [Bool.eq_iff_iff]
  split
  · simp; omega
  · split
    · simp; omega
    · simp; omega
theorem compare_int (a b : Int) : PCall P 135 [i64 a, i64 b] (fun x => x = i64 (cmpF a b)) := by
  refine q0d tyOk Tryz.func135 rfl rfl ?_
  intro K hK
  simp only [Tryz.ntmps135, List.length_cons, List.length_nil, Nat.reduceAdd, Nat.reduceSub, List.replicate, List.cons_append, List.nil_append]
  try simp only [seval, go_sem]
  (refine q02 (cmpNaN_int a) rfl ?_; rintro _ rfl)
  try simp only [seval, go_sem]
  (refine q02 (cmpNaN_int b) rfl ?_; rintro _ rfl)
  try simp only [seval, go_sem]
  (first | refine q05 ?_ ?_ | refine q08 ?_ ?_ | refine q09 ?_ ?_ | refine q07 ?_ ?_ | refine q06 ?_ ?_) <;> intro h
  · try simp only [seval, go_sem]
    apply hK
    simp only [Tryz.results135, retK, ares, List.take_nil, Bool.and_true, Bool.true_and, AV.ofResults, St.trunc, q00, q01, List.getD_cons_zero, List.getD_cons_succ, List.map_nil, true_and, and_true, List.cons.injEq, exists_eq_left']
    rw [cmpF, if_pos (by simpa using h)]
  · try simp only [seval, go_sem]
    (first | refine q05 ?_ ?_ | refine q08 ?_ ?_ | refine q09 ?_ ?_ | refine q07 ?_ ?_ | refine q06 ?_ ?_) <;> intro h2
    · try simp only [seval, go_sem]
      apply hK
      simp only [Tryz.results135, retK, ares, List.take_nil, Bool.and_true, Bool.true_and, AV.ofResults, St.trunc, q00, q01, List.getD_cons_zero, List.getD_cons_succ, List.map_nil, true_and, and_true, List.cons.injEq, exists_eq_left']
      rw [cmpF, if_neg (by simpa using h), if_pos (by simpa using h2)]
    · try simp only [seval, go_sem]
      apply hK
      simp only [Tryz.results135, retK, ares, List.take_nil, Bool.and_true, Bool.true_and, AV.ofResults, St.trunc, q00, q01, List.getD_cons_zero, List.getD_cons_succ, List.map_nil, true_and, and_true, List.cons.injEq, exists_eq_left']
      rw [cmpF, if_neg (by simpa using h), if_neg (by simpa using h2)]
theorem find_cmp (s : Ses) (id : Int) : PCall P 134 [s.av, i64 id] (fun x => x = i64 (cmpF s.id id)) := by
  refine q0d tyOk Tryz.func134 rfl rfl ?_
  intro K hK
  simp only [Tryz.ntmps134, List.length_cons, List.length_nil, Nat.reduceAdd, Nat.reduceSub, List.replicate, List.cons_append, List.nil_append]
  try simp only [seval, go_sem, Ses.av]
  (refine q02 (compare_int s.id id) rfl ?_; rintro _ rfl)
  try simp only [seval, go_sem]
  apply hK
  simp only [Tryz.results134, retK, ares, Bool.and_true, Bool.true_and, AV.ofResults, St.trunc, q00, q01, List.getD_cons_zero, List.getD_cons_succ, List.take_zero, List.map_nil, true_and, and_true, List.cons.injEq, exists_eq_left']
def ids (l : List Ses) : List Int := l.map Ses.id
theorem ids_len (l : List Ses) : (ids l).length = l.length := by simp [ids]
theorem ids_get {l : List Ses} {i : Nat} (h : i < l.length) : (ids l)[i]'(by rw [ids_len]; exact h) = l[i].id := by simp [ids]
theorem search_ses (l : List Ses) (hr : Rises ltI (ids l)) (k : Int) (hlen : l.length ≤ 1000000) :
    PCall P 133 [.sl 4 (avs l), i64 k, .fn 134 []] (fun x => x = .tup [i64 ((lb ltI (ids l) k : Nat) : Int), bool (hasAt ltI eqI (ids l) k)]) := by
  refine q0d tyOk Tryz.func133 rfl rfl ?_
  intro K hK
  simp only [Tryz.ntmps133, List.length_cons, List.length_nil, Nat.reduceAdd, Nat.reduceSub, List.replicate, List.cons_append, List.nil_append]
  try simp only [seval, go_sem, q0p]
  have hle := lb_le (lt := ltI) (ids l) k
  rw [ids_len] at hle
  refine q12 tyOk (α := Nat × Nat) 0 [0, 1, 2, 6, 7, 8, 9, 10] (fun q => q.1 ≤ lb ltI (ids l) k ∧ lb ltI (ids l) k ≤ q.2 ∧ q.2 ≤ l.length)
    (fun q => ⟨[.sl 4 (avs l), i64 k, .fn 134 [], .any, .any, .any, i64 0, bool false, i64 l.length, i64 q.1, i64 q.2, .any, .any, .any, .any, .any, .any, .any, .any, .any, .any, .any, .any, .any, .any, .any, .any, .any, .any, .any, .any, .any, .any, .any, .any, .any, .any, .any, .any, .any, .any, .any, .any, .any, .any, .any, .any, .any, .any], []⟩)
    (fun q => q.2 - q.1) (0, l.length) (Nat.zero_le _) ⟨Nat.zero_le _, hle, Nat.le_refl _⟩ rfl ?_
  rintro ⟨i, j⟩ ⟨h1, h2, h3⟩
  simp only at h1 h2 h3
  try simp only [seval, go_sem]
  (first | refine q05 ?_ ?_ | refine q08 ?_ ?_ | refine q09 ?_ ?_ | refine q07 ?_ ?_ | refine q06 ?_ ?_) <;> intro hc <;> try simp only [seval, go_sem]
  · have hij : i < j := by simpa using hc
    obtain ⟨hh, hlt, ew⟩ := half_idx (i := i) (j := j) (by omega) hij
    have hhn : (i + j) / 2 < l.length := by omega
    have eg := avs_get hhn
    have k1 : (0 : Int) ≤ (((i + j) / 2 : Nat) : Int) ∧ Int.toNat (((i + j) / 2 : Nat) : Int) < l.length := by omega
    have w1 : IntKind.i64.wrap ((((i + j) / 2 : Nat) : Int) + 1) = (((i + j) / 2 + 1 : Nat) : Int) := by rw [wrap_i64 (by omega) (by omega)]; rfl
    have hid := ids_get hhn
    try simp only [seval, go_sem, ew, eg, k1, q0p, Ses.av]
    (refine q02 (find_cmp l[(i + j) / 2] k) rfl ?_; rintro _ rfl)
    try simp only [seval, go_sem, cmp_lt]
    cases hl : ltI l[(i + j) / 2].id k
    · try simp only [seval, go_sem]
      simp only [q0f, St.trunc, St.keep, q00, q01, keepV, List.elem_cons, List.elem_nil, List.take_zero, List.map_nil, Nat.reduceAdd, Nat.reduceBEq, Nat.zero_add, Bool.false_eq_true, ↓reduceIte]
      refine ⟨(i, (i + j) / 2), ⟨h1, ?_, by omega⟩, by simp only; omega, rfl⟩
      apply Nat.le_of_not_lt
      intro hb
      have := lb_lt (lt := ltI) hb
      rw [hid, hl] at this; cases this
    · try simp only [seval, go_sem, w1]
      simp only [q0f, St.trunc, St.keep, q00, q01, keepV, List.elem_cons, List.elem_nil, List.take_zero, List.map_nil, Nat.reduceAdd, Nat.reduceBEq, Nat.zero_add, Bool.false_eq_true, ↓reduceIte]
      refine ⟨((i + j) / 2 + 1, j), ⟨?_, h2, h3⟩, by simp only; omega, rfl⟩
      apply Nat.lt_of_not_le
      intro hb
      have := lb_ge ordI hr (by rw [ids_len]; exact hhn) hb
      rw [hid, hl] at this; cases this
  · have hij : ¬ i < j := by simpa using hc
    obtain rfl : i = lb ltI (ids l) k := by omega
    by_cases hn : lb ltI (ids l) k < l.length
    · have eg := avs_get hn
      have k1 : (0 : Int) ≤ ((lb ltI (ids l) k : Nat) : Int) ∧ Int.toNat ((lb ltI (ids l) k : Nat) : Int) < l.length := by omega
      have d1 : decide (((lb ltI (ids l) k : Nat) : Int) < (l.length : Int)) = true := decide_eq_true (by omega)
      have hh := hasAt_lt (eq := eqI) (show lb ltI (ids l) k < (ids l).length by rw [ids_len]; exact hn)
      rw [ids_get hn] at hh
      rw [hh] at hK
      try simp only [seval, go_sem, d1, eg, k1, q0p, Ses.av]
      (refine q02 (find_cmp l[lb ltI (ids l) k] k) rfl ?_; rintro _ rfl)
      try simp only [seval, go_sem, cmp_eq]
      apply hK
      simp only [Tryz.results133, retK, ares, List.take_nil, Bool.and_true, Bool.true_and, AV.ofResults, St.trunc, q00, q01, List.getD_cons_zero, List.getD_cons_succ, List.map_nil, true_and, and_true, List.cons.injEq, exists_eq_left']
    · have d1 : decide (((lb ltI (ids l) k : Nat) : Int) < (l.length : Int)) = false := decide_eq_false (by omega)
      rw [hasAt_ge (by rw [ids_len]; omega)] at hK
      try simp only [seval, go_sem, d1]
      apply hK
      simp only [Tryz.results133, retK, ares, List.take_nil, Bool.and_true, Bool.true_and, AV.ofResults, St.trunc, q00, q01, List.getD_cons_zero, List.getD_cons_succ, List.map_nil, true_and, and_true, List.cons.injEq, exists_eq_left']
theorem find_ses (l : List Ses) (hr : Rises ltI (ids l)) (k : Int) (hlen : l.length ≤ 1000000) :
    PCall P 118 [.sl 4 (avs l), i64 k] (fun x => x = .tup [i64 ((lb ltI (ids l) k : Nat) : Int), bool (hasAt ltI eqI (ids l) k)]) := by
  refine q0d tyOk Tryz.func118 rfl rfl ?_
  intro K hK
  simp only [Tryz.ntmps118, List.length_cons, List.length_nil, Nat.reduceAdd, Nat.reduceSub, List.replicate, List.cons_append, List.nil_append]
  try simp only [seval, go_sem]
  (refine q02 (search_ses l hr k hlen) rfl ?_; rintro _ rfl)
  try simp only [seval, go_sem]
  apply hK
  simp only [Tryz.results118, retK, ares, List.take_nil, Bool.and_true, Bool.true_and, AV.ofResults, St.trunc, q00, q01, List.getD_cons_zero, List.getD_cons_succ, List.map_nil, true_and, and_true, List.cons.injEq, exists_eq_left']
theorem has_iff {l : List Ses} {id : Int} : has l id = true ↔ id ∈ ids l := by
  rw [has, List.any_eq_true, ids, List.mem_map]
  constructor
  · rintro ⟨s, h1, h2⟩; exact ⟨s, h1, by simpa using h2⟩
  · rintro ⟨s, h1, rfl⟩; exact ⟨s, h1, by simp⟩
theorem has_at {l : List Ses} (hr : Rises ltI (ids l)) (id : Int) : hasAt ltI eqI (ids l) id = has l id := by
  rw [Bool.eq_iff_iff, hasAt_iff ordI eqI_iff hr, has_iff]
abbrev Up (l : List Ses) : Prop := Rises ltI (ids l)
theorem up_iff {l : List Ses} : Up l ↔ l.Pairwise fun a b => a.id < b.id := by
  rw [Up, Rises, ids, List.pairwise_map]
  simp only [ltI, decide_eq_true_eq]
def put (l : List Ses) (s : Ses) : List Ses := l.filter (fun x => decide (x.id < s.id)) ++ [s] ++ l.filter (fun x => decide (s.id < x.id))
def keyed (l : List Ses) : List (Int × Ses) := l.map fun s => (s.id, s)
theorem keyed_fst (l : List Ses) : (keyed l).map Prod.fst = ids l := by rw [keyed, ids, List.map_map]; rfl
theorem keyed_snd (l : List Ses) : (keyed l).map Prod.snd = l := by rw [keyed, List.map_map]; exact List.map_id _
theorem put_at {l : List Ses} (hr : Up l) (s : Ses) : (if has l s.id = true then l.set (lb ltI (ids l) s.id) s else l.take (lb ltI (ids l) s.id) ++ [s] ++ l.drop (lb ltI (ids l) s.id)) = put l s := by
  have h := congrArg (List.map Prod.snd) (with_eq ordI eqI_iff (m := keyed l) (by rw [q2f, keyed_fst]; exact hr) s.id s)
  have f : ∀ p : Ses → Bool, ((keyed l).filter fun q => p q.2).map Prod.snd = l.filter p := by
    intro p
    rw [keyed, List.filter_map, List.map_map]
    exact List.map_id _
  have f1 : (keyed l).filter (fun p => ltI p.1 s.id) = (keyed l).filter (fun q => (fun x : Ses => decide (x.id < s.id)) q.2) := by
    rw [keyed, List.filter_map, List.filter_map]; rfl
  have f2 : (keyed l).filter (fun p => ltI s.id p.1) = (keyed l).filter (fun q => (fun x : Ses => decide (s.id < x.id)) q.2) := by
    rw [keyed, List.filter_map, List.filter_map]; rfl
  rw [f1, f2, List.map_append, List.map_append, f (fun x => decide (x.id < s.id)), f (fun x => decide (s.id < x.id))] at h
  unfold withG at h
  rw [keyed_fst, has_at hr] at h
  rw [put]
  refine Eq.trans ?_ h
  split
  · rw [List.map_set, keyed_snd]
  · rw [List.map_append, List.map_append, List.map_take, List.map_drop, keyed_snd]; rfl
theorem put_up {l : List Ses} (hr : Up l) (s : Ses) : Up (put l s) := by
  have h0 := up_iff.1 hr
  refine up_iff.2 ?_
  rw [put, List.append_assoc, List.pairwise_append]
  refine ⟨h0.sublist List.filter_sublist, ?_, ?_⟩
  · rw [List.cons_append, List.nil_append, List.pairwise_cons]
    exact ⟨fun y hy => by simpa using (List.mem_filter.1 hy).2, h0.sublist List.filter_sublist⟩
  · intro a ha b hb
    have ha : a.id < s.id := by simpa using (List.mem_filter.1 ha).2
    rcases List.mem_append.1 hb with hb | hb
    · obtain rfl : b = s := by simpa using hb
      exact ha
    · have hb : s.id < b.id := by simpa using (List.mem_filter.1 hb).2
      omega
theorem clear_up {l : List Ses} (hr : Up l) (id : Int) : Up (clear l id) := up_iff.2 ((up_iff.1 hr).sublist List.filter_sublist)
theorem lives_up {l : List Ses} (hr : Up l) (now : Int) : Up (lives now l) := up_iff.2 ((up_iff.1 hr).sublist List.filter_sublist)
theorem insF_put (s : Ses) (l : List Ses) : ∀ out, l.foldl (insStep s) (out, true) = (out ++ l, true) := by
  induction l with
  | nil => intro out; simp
  | cons x xs ih =>
    intro out
    have e : insStep s (out, true) x = (out ++ [x], true) := by simp [insStep]
    rw [List.foldl_cons, e, ih]
    simp
theorem insF_eq (s : Ses) (l : List Ses) (hr : Up l) (hn : ∀ x ∈ l, x.id ≠ s.id) : ∀ out, (fun o : List Ses × Bool => if o.2 = true then o.1 else o.1 ++ [s]) (l.foldl (insStep s) (out, false)) = out ++ put l s := by
  induction l with
  | nil => intro out; simp [put]
  | cons x xs ih =>
    intro out
    have hp := List.pairwise_cons.1 (up_iff.1 hr)
    have hx := hn x List.mem_cons_self
    by_cases hsx : s.id < x.id
    · have e : insStep s (out, false) x = (out ++ [s] ++ [x], true) := by simp [insStep, hsx]
      have f1 : xs.filter (fun y => decide (y.id < s.id)) = [] := List.filter_eq_nil_iff.2 fun y hy => by have := hp.1 y hy; simp; omega
      have f2 : xs.filter (fun y => decide (s.id < y.id)) = xs := List.filter_eq_self.2 fun y hy => by have := hp.1 y hy; simp; omega
      have d1 : decide (x.id < s.id) = false := by simp; omega
      have d2 : decide (s.id < x.id) = true := by simp; omega
      rw [List.foldl_cons, e, insF_put, put, List.filter_cons, List.filter_cons, d1, d2, f1, f2]
      simp
    · have e : insStep s (out, false) x = (out ++ [x], false) := by simp [insStep, hsx]
      have d1 : decide (x.id < s.id) = true := by simp; omega
      have d2 : decide (s.id < x.id) = false := by simp; omega
      rw [List.foldl_cons, e, ih (up_iff.2 hp.2) (fun y hy => hn y (List.mem_cons_of_mem _ hy)), put, put, List.filter_cons, List.filter_cons, d1, d2]
      simp
theorem ins_eq {l : List Ses} (hr : Up l) (s : Ses) : ins s (clear l s.id) = put l s := by
  have h := insF_eq s (clear l s.id) (clear_up hr _) (fun x hx => by simpa [clear] using (List.mem_filter.1 hx).2) []
  have e : put (clear l s.id) s = put l s := by
    rw [put, put, clear, List.filter_filter, List.filter_filter]
    congr 1
    · congr 1
      refine List.filter_congr fun x _ => ?_
      rw [Bool.eq_iff_iff]; simp; omega
    · refine List.filter_congr fun x _ => ?_
      rw [Bool.eq_iff_iff]; simp; omega
  rw [List.nil_append, e] at h
  rw [← h, ins, insF]
end Go.Proofs.YtdkcpcflfnakdaaGreat
